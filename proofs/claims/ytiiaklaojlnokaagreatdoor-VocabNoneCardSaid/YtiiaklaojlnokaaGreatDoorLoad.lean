/- Package vocab (seat ZD): Load: contract. -/
import Derived.Test.YtiiaklaojlnokaaGreatDoorParse
set_option linter.unusedVariables false
set_option linter.unusedSimpArgs false
namespace Go.Proofs.YtiiaklaojlnokaaGreatDoor.B
open Go Go.RowKit
set_option maxRecDepth 100000
set_option maxHeartbeats 1000000

theorem parseLines_fits : ∀ (l : List ByteArray) (S : SpecD) (kind : Int) (i n : Nat) (S' : SpecD), S.Fits n → (∀ x ∈ l, x.size ≤ 1048576) → (parseLines S kind l i).1 = some S' → S'.Fits (n + l.length)
  | [], S, kind, i, n, S', h, _, hp => by cases hp; exact h
  | s :: l, S, kind, i, n, S', h, hx, hp => by
    unfold parseLines at hp
    split at hp
    · have := parseLines_fits l _ _ (i + 1) (n + 1) S' (lineD_fits h kind i s (hx s (by simp))) (fun x hm => hx x (by simp [hm])) hp
      rw [List.length_cons, show n + (l.length + 1) = n + 1 + l.length by omega]; exact this
    · cases hp
theorem fits_empty : SpecD.empty.Fits 0 := ⟨by simp [SpecD.empty], by simp [SpecD.empty], by simp [SpecD.empty], by simp [SpecD.empty], by simp [SpecD.empty], by simp [SpecD.empty], by simp [SpecD.empty]⟩
theorem parseD_fits (s : ByteArray) : (parseD s).1.Fits 60000 := by
  unfold parseD
  split
  · exact fits_empty.mono (by omega)
  · rename_i hs
    obtain ⟨hl, hx⟩ := linesB_fits (s.size + 1) s [] s.size (by simp) (Nat.le_refl _)
    simp only [List.length_nil, Nat.zero_add] at hl
    split
    · exact fits_empty.mono (by omega)
    · rename_i S j hp
      split
      · exact fits_empty.mono (by omega)
      · exact (parseLines_fits _ _ _ _ _ S fits_empty (fun x hm => by have := hx x hm; omega) (by rw [hp])).mono (by omega)
def loadD (r : SpecD → Option Tab × Nat × Int) (s : ByteArray) : Option VocD × Int × Int :=
  if (parseD s).2.2 = 0 then
    ((buildV (r (parseD s).1) (parseD s).1).1,
     (if (buildV (r (parseD s).1) (parseD s).1).2.1 = 1 then (buildV (r (parseD s).1) (parseD s).1).2.2.1 + 2
      else if (buildV (r (parseD s).1) (parseD s).1).2.1 = 2 then (buildV (r (parseD s).1) (parseD s).1).2.2.1 + (2 + ((parseD s).1.merges.length : Int) + ((parseD s).1.tokens.length : Int))
      else (buildV (r (parseD s).1) (parseD s).1).2.2.1),
     (buildV (r (parseD s).1) (parseD s).1).2.2.2)
  else (none, (parseD s).2.1, (parseD s).2.2)
def VocOpt (B : Nat) (w : World) (V : Option VocD) (o : Option Nat) : Prop := match V, o with
  | some V, some v => ∃ p t b m, VocIn B w v V p t b m [.int .u32 0, .int .i32 0, .int .u32 0, .slice none 0 0, .int .i64 0]
  | none, none => True
  | _, _ => False
theorem vocab_load (w : World) (hS : Std w) (s : ByteArray) (hs : s.size < 4294967281) (r : SpecD → Option Tab × Nat × Int) (hr : ∀ S, Err (r S)) (hb : 0 ≤ (buildV (r (parseD s).1) (parseD s).1).2.2.1 ∧ (buildV (r (parseD s).1) (parseD s).1).2.2.1 ≤ 1048576)
    (hL : ∀ w1 p, Ext no w w1 → SpecIn w1 (parseD s).1 p → Calls Tryz.prog 67 #[.agg (SpecP.cells p (parseD s).1)] w1 (MadeTab w1 (r (parseD s).1))) :
    Calls Tryz.prog 10 #[.string s] w (NewPost w (loadD r s)) := by
  have hfit := parseD_fits s
  have hl0 := loadD.eq_1 r s
  obtain ⟨q, hq⟩ : ∃ q, parseD s = q := ⟨_, rfl⟩
  rw [hq] at hfit hb hL hl0
  obtain ⟨S, n, er⟩ := q
  simp only at hfit hb hL
  have HB := Lib.hid hb
  have HLo := Lib.hid hL
  have HLD := Lib.hid hl0
  have HQ := Lib.hid hq
  clear hb hL hl0 hq
  go_enter Tryz.func10, Tryz.ntmps10
  go_wp2_with fail
  refine (spec_parse w hS s hs).mono ?_
  rintro e w1 ⟨hB1, p, rfl, ho⟩
  rw [HQ.out] at ho ⊢
  simp only at ho ⊢
  by_cases he : er = 0
  · subst he
    obtain ⟨rk, ms, ts, ss, cs, js⟩ := S
    obtain ⟨a1, c1, a2, c2, a3, c3, a4, c4, a5, c5⟩ := p
    simp only [SpecP.cells]
    go_wp2_with fail
    have BB1 : Below w.heap.size w w1 := hB1
    have e1 : Ext no w w1 := Below.toExt hB1 no
    have e2 : Ext no w1 (w1.alloc (.cells #[.bool rk, .slice a1 ms.length c1, .slice a2 ts.length c2, .slice a3 ss.length c3, .slice a4 cs.length c4, .slice a5 js.length c5] 33)) := (Ext.refl no w1).alloc _
    have hb2 := block_new w1 (.cells #[.bool rk, .slice a1 ms.length c1, .slice a2 ts.length c2, .slice a3 ss.length c3, .slice a4 cs.length c4, .slice a5 js.length c5] 33)
    generalize w1.alloc (.cells #[.bool rk, .slice a1 ms.length c1, .slice a2 ts.length c2, .slice a3 ss.length c3, .slice a4 cs.length c4, .slice a5 js.length c5] 33) = w2 at *
    have ho2 := ho.keep e2
    have BB2 := BB1.trans (e2.below BB1.size (fun _ h => absurd h (not_no _)))
    refine (vocab_build w2 ⟨rk, ms, ts, ss, cs, js⟩ ⟨a1, c1, a2, c2, a3, c3, a4, c4, a5, c5⟩ ho2.spec (hfit.small (by omega)) (hfit.ok (by omega)).s3 (r ⟨rk, ms, ts, ss, cs, js⟩) (hr _) (fun w3 e3 => HLo.out w3 _ ((e1.trans e2).trans e3) (ho2.spec.ext e3))).mono ?_
    rintro e w3 ⟨hB3, o, rfl, hV⟩
    have hbnd := HB.out
    obtain ⟨bv, hbv⟩ : ∃ bv, buildV (r ⟨rk, ms, ts, ss, cs, js⟩) ⟨rk, ms, ts, ss, cs, js⟩ = bv := ⟨_, rfl⟩
    have hld := HLD.out
    first | rw [if_pos (show (0 : Int) = 0 from rfl)] at hld | simp only [if_true] at hld
    simp only [hbv] at hld hV hbnd ⊢
    clear hbv HLD
    obtain ⟨V, part, bn, be⟩ := bv
    simp only at hV hbnd hld ⊢
    obtain ⟨g1, g2⟩ := hbnd
    have hm1 := hfit.n1
    have hm2 := hfit.n2
    simp only at hm1 hm2
    have e3 : Ext no w2 w3 := Below.toExt hB3 no
    have hb3 := e3.heap hb2 (not_no _)
    have BB3 := BB2.trans (hB3.mono BB2.size)
    have hV' : VocOpt w.heap.size w3 V o := by
      clear hld
      cases V with
      | none => cases o with
        | none => trivial
        | some v => exact hV
      | some V => cases o with
        | none => exact hV
        | some v =>
          obtain ⟨p, t, b, m, h⟩ := hV
          exact ⟨p, t, b, m, h.low BB2.size⟩
    have HV := Lib.hid hV'
    clear hV hV'
    have k1 : w3.cell? ⟨w1.heap.size, 1, none⟩ = some (.slice a1 ms.length c1) := by rw [cell_of_block hb3]; rfl
    have k2 : w3.cell? ⟨w1.heap.size, 2, none⟩ = some (.slice a2 ts.length c2) := by rw [cell_of_block hb3]; rfl
    by_cases h1 : part = 1
    · subst h1
      have HD := Lib.hid hld
      clear hld
      go_wp2
      go_ret3
      refine ⟨BB3, o, ?_, ?_⟩
      · rw [HD.out]; rfl
      · rw [HD.out]; exact HV.out
    · rw [if_neg h1] at hld
      by_cases h2 : part = 2
      · subst h2
        have HD := Lib.hid hld
        clear hld
        go_wp2
        go_ret3
        refine ⟨BB3, o, ?_, ?_⟩
        · rw [HD.out]; rfl
        · rw [HD.out]; exact HV.out
      · rw [if_neg h2] at hld
        have HD := Lib.hid hld
        clear hld
        go_wp2
        go_ret3
        refine ⟨BB3, o, ?_, ?_⟩
        · rw [HD.out]; rfl
        · rw [HD.out]; exact HV.out
  · have hld := HLD.out
    try dsimp only at hld
    first | rw [if_neg he] at hld | simp only [if_false] at hld
    have HD := Lib.hid hld
    clear hld
    have BB1 : Below w.heap.size w (w1.alloc (.cells (SpecP.cells p S) 33)) := hB1.trans (((Ext.refl no w1).alloc _).below hB1.size (fun _ h => absurd h (not_no _)))
    obtain ⟨a1, c1, a2, c2, a3, c3, a4, c4, a5, c5⟩ := p
    simp only [SpecP.cells] at BB1 ⊢
    go_wp2
    go_ret3
    refine ⟨BB1, none, ?_, ?_⟩
    · rw [HD.out]; rfl
    · rw [HD.out]; trivial
end Go.Proofs.YtiiaklaojlnokaaGreatDoor.B
