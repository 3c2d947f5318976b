/- The document's example of layer 10 (seat ZD). -/
import Derived.Test.YtiiaklaojlnokaaGreatDoorLoad
import Derived.Test.YtiiaklaojlnokaaGreatDoorVoc
set_option linter.unusedVariables false
set_option linter.unusedSimpArgs false
namespace Go.Proofs.YtiiaklaojlnokaaGreatDoor.B
open Go Go.RowKit
set_option maxRecDepth 100000
set_option maxHeartbeats 1000000

def text1 : ByteArray := ⟨#[118, 111, 99, 97, 98, 32, 109, 101, 114, 103, 101, 115, 10, 109, 101, 114, 103, 101, 32, 57, 55, 32, 57, 56, 10, 115, 112, 101, 99, 105, 97, 108, 32, 50, 53, 55, 32, 51, 99, 10]⟩
def text2 : ByteArray := ⟨#[118, 111, 99, 97, 98, 32, 109, 101, 114, 103, 101, 115, 10, 109, 101, 114, 103, 101, 32, 57, 55, 32, 57, 56, 10, 115, 112, 101, 99, 105, 97, 108, 32, 50, 53, 54, 32, 51, 99, 10]⟩
def tabOf (S : SpecD) : Option Tab × Nat × Int := addAll (bytesTab 256) S.merges 0
theorem text1_load : (loadD tabOf text1).1.map (fun V => (V.T.es.length, V.M.ids)) = some (257, [(257, 0)]) ∧ (loadD tabOf text1).2 = (0, 0) := ⟨by kernel_rfl, by kernel_rfl⟩
theorem text2_load : (loadD tabOf text2).1.isSome = false ∧ (loadD tabOf text2).2 = (3, 4) := ⟨by kernel_rfl, by kernel_rfl⟩
theorem text1_build : 0 ≤ (buildV (tabOf (parseD text1).1) (parseD text1).1).2.2.1 ∧ (buildV (tabOf (parseD text1).1) (parseD text1).1).2.2.1 ≤ 1048576 := by
  have h : (buildV (tabOf (parseD text1).1) (parseD text1).1).2.2.1 = 0 := by kernel_rfl
  rw [h]; decide
theorem text2_build : 0 ≤ (buildV (tabOf (parseD text2).1) (parseD text2).1).2.2.1 ∧ (buildV (tabOf (parseD text2).1) (parseD text2).1).2.2.1 ≤ 1048576 := by
  have h : (buildV (tabOf (parseD text2).1) (parseD text2).1).2.2.1 = 0 := by kernel_rfl
  rw [h]; decide
theorem text1_ranked : (parseD text1).1.ranked = false := by kernel_rfl
theorem text2_ranked : (parseD text2).1.ranked = false := by kernel_rfl
theorem load1 (w : World) (hS : Std w) : Calls Tryz.prog 10 #[.string text1] w (NewPost w (loadD tabOf text1)) :=
  vocab_load w hS text1 (by decide) tabOf (fun S => addAll_err _ _ _) text1_build (fun w1 p e1 hs => grow_load_m w1 _ p hs text1_ranked (by have := (parseD_fits text1).n1; omega))
theorem load2 (w : World) (hS : Std w) : Calls Tryz.prog 10 #[.string text2] w (NewPost w (loadD tabOf text2)) :=
  vocab_load w hS text2 (by decide) tabOf (fun S => addAll_err _ _ _) text2_build (fun w1 p e1 hs => grow_load_m w1 _ p hs text2_ranked (by have := (parseD_fits text2).n1; omega))
theorem load1' (w : World) (hS : Std w) : Calls Tryz.prog 10 #[.string text1] w fun e w' => Below w.heap.size w w' ∧ ∃ v V p t b m rest, e = .returned (.tuple #[.pointer (some ⟨v, 0, none⟩), .int .i64 0, .int .i64 0]) ∧ VocIn w.heap.size w' v V p t b m rest ∧ V.T.es.length = 257 ∧ V.M.ids = [(257, 0)] := by
  refine (load1 w hS).mono ?_
  rintro e w' ⟨hb, o, he, hm⟩
  obtain ⟨h1, h2⟩ := text1_load
  rw [h2] at he
  cases hV : (loadD tabOf text1).1 with
  | none => rw [hV] at h1; cases h1
  | some V =>
    rw [hV] at h1 hm
    cases o with
    | none => exact hm.elim
    | some v =>
      obtain ⟨p, t, b, m, h⟩ := hm
      simp only [Option.map_some, Option.some.injEq, Prod.mk.injEq] at h1
      exact ⟨hb, v, V, p, t, b, m, _, he, h, h1.1, h1.2⟩
theorem load2' (w : World) (hS : Std w) : Calls Tryz.prog 10 #[.string text2] w fun e w' => Below w.heap.size w w' ∧ e = .returned (.tuple #[.pointer none, .int .i64 3, .int .i64 4]) := by
  refine (load2 w hS).mono ?_
  rintro e w' ⟨hb, o, he, hm⟩
  obtain ⟨h1, h2⟩ := text2_load
  rw [h2] at he
  cases hV : (loadD tabOf text2).1 with
  | some V => rw [hV] at h1; cases h1
  | none =>
    rw [hV] at hm
    cases o with
    | some v => exact hm.elim
    | none => exact ⟨hb, he⟩
theorem VocIn.keep {B : Nat} {w w' : World} {v : Nat} {V : VocD} {p : SpecP} {t b m : Nat} {rest : List Value} (h : VocIn B w v V p t b m rest) (e : Ext no w w') : VocIn B w' v V p t b m rest :=
  ⟨e.heap h.hv (not_no _), h.hs.keep e, h.ht.keep e, h.hT, h.hb.ext e (not_no _), h.hm.keep e, h.bB, h.vB⟩
theorem awake10 (w : World) (hS : Std w) : Calls Tryz.prog 9 #[] w fun e w' => e = .returned (.bool true) ∧ Below w.heap.size w w' := by
  have HS := Lib.hid hS
  go_enter Tryz.func9, Tryz.ntmps9
  go_wp2_with fail
  refine (load1' w hS).mono ?_
  rintro e w1 ⟨hB1, v, V, p, t, b, m, rest, rfl, hV, hl, hi⟩
  have e1 : Ext no w w1 := Below.toExt hB1 no
  go_wp2_with fail
  refine (load2' w1 (HS.out.ext e1)).mono ?_
  rintro e w2 ⟨hB2, rfl⟩
  have e2 : Ext no w1 w2 := Below.toExt hB2 no
  have hV2 := hV.keep e2
  have BB2 := hB1.trans (hB2.mono hB1.size)
  have hid : ∀ id i, mget V.M.ids id = some i → i ≤ 4611686018427387903 := by
    intro id i h
    rw [hi] at h
    simp only [mget, List.find?_cons, List.find?_nil] at h
    split at h
    · simp only [Option.map_some, Option.some.injEq] at h; omega
    · cases h
  have HL := Lib.hid hl
  have HI := Lib.hid hi
  have HID := Lib.hid hid
  have a1 : V.has 257 = true := by rw [VocD.has, MSet.mark, hi]; rfl
  have a2 : V.has 258 = false := by rw [VocD.has, MSet.mark, hi, hl]; rfl
  have A1 := Lib.hid a1
  have A2 := Lib.hid a2
  clear hl hi hid a1 a2 hV
  go_wp2_with fail
  refine (voc_size hV2).mono ?_
  rintro e w3 ⟨rfl, rfl⟩
  rw [HL.out]
  go_wp2_with fail
  refine (voc_has hV2 HID.out 257).mono ?_
  rintro e w3 ⟨rfl, rfl⟩
  rw [A1.out]
  go_wp2_with fail
  refine (voc_has hV2 HID.out 258).mono ?_
  rintro e w3 ⟨rfl, rfl⟩
  rw [A2.out]
  go_wp2
  go_ret
  exact ⟨rfl, BB2⟩
end Go.Proofs.YtiiaklaojlnokaaGreatDoor.B
