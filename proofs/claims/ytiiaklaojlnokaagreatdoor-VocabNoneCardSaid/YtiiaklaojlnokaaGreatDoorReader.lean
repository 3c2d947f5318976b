/- Package spec (seat ZD): the reader: numbers, head, merge ..: contracts. -/
import Derived.Test.YtiiaklaojlnokaaGreatDoorUnhex
set_option linter.unusedVariables false
set_option linter.unusedSimpArgs false
namespace Go.Proofs.YtiiaklaojlnokaaGreatDoor.B
open Go Go.RowKit
set_option maxRecDepth 100000
set_option maxHeartbeats 1000000

theorem i_int : (Tryz.prog.info? 3).map (fun i => (i.zero, i.size, i.bytes)) = some (some (.int .i64 0), 1, 8) := by kernel_rfl
def intC (xs : List Int) : List Value := xs.map (Value.int .i64)
def numbersL : List ByteArray → List Int → Option (List Int)
  | [], acc => some acc
  | s :: l, acc => if (wordParse s 1073741824).2 then numbersL l (acc ++ [(wordParse s 1073741824).1]) else none
def numbersD (l : List ByteArray) (many : Nat) : Option (List Int) := if l.length = many then numbersL l [] else none
def NumAt (w : World) (l : List ByteArray) (r : Option (List Int)) (v i : Value) (wr : World) : Prop :=
  ∃ (k : Nat) (acc : List Int), i = .int .i64 (k : Int) ∧ k ≤ l.length ∧ acc.length = k ∧ numbersL (l.drop k) acc = r ∧ wr.ownsRow w.heap.size 3 1 v acc.length (intC acc) ∧ Below w.heap.size w wr
/-- Numbers, or false. -/
def NumPost (w : World) (r : Option (List Int)) (e : Ending) (w' : World) : Prop :=
  Below w.heap.size w w' ∧ match r with
    | some xs => ∃ v, e = .returned (.tuple #[v, .bool true]) ∧ w'.ownsRow w.heap.size 3 1 v xs.length (intC xs)
    | none => e = .returned (.tuple #[.slice none 0 0, .bool false])
theorem spec_numbers (w : World) (hS : Std w) (A : Option Addr) (c : Nat) (l : List ByteArray) (hR : RowAt w A (l.flatMap textC)) (hn : l.length ≤ 1048576) (hs : ∀ x ∈ l, x.size ≤ 281474976710656) (many : Nat) (hm : many ≤ 100) :
    Calls Tryz.prog 180 #[.slice A l.length c, .int .i64 (many : Int)] w (NumPost w (numbersD l many)) := by
  have HS := Lib.hid hS
  by_cases hl : l.length = many
  · obtain ⟨r, hr⟩ : ∃ r, numbersL l [] = r := ⟨_, rfl⟩
    have hd : numbersD l many = r := by unfold numbersD; rw [if_pos hl, hr]
    rw [hd]
    subst hl
    clear hd
    go_enter Tryz.func180, Tryz.ntmps180
    go_wp2_with fail
    go_loopw [6, 17] (fun v i wr => NumAt w l r v i wr) (fun _ i _ => l.length - (intOf i).toNat)
    case atStart => exact ⟨0, [], rfl, by omega, rfl, hr, own_nil _ _ _ _, Below.refl _ _⟩
    case round =>
      clear hr
      obtain ⟨k, acc, rfl, hk, hak, hl, hown, hB⟩ := hrel
      obtain ⟨Av, cv, hv, _⟩ := own_at hown
      subst hv
      subst hak
      by_cases hlt : acc.length < l.length
      · obtain ⟨s, hp⟩ : ∃ s, l[acc.length]? = some s := ⟨_, List.getElem?_eq_getElem hlt⟩
        have hss := hs s (List.mem_of_getElem? hp)
        obtain ⟨b, o, rfl, hcs⟩ := hR.form (by rw [flatMap_len textC 1 (fun _ => rfl)]; omega)
        have c0 : wr.cell? ⟨b, o + acc.length, none⟩ = some (.string s) := by
          have h1 := flatMap_at textC 1 (fun _ => rfl) l acc.length s hp 0 (by omega)
          have h2 := hcs (acc.length * 1 + 0) (.string s) (h1.trans rfl)
          rw [Nat.mul_one, Nat.add_zero] at h2
          exact (hB.cell (lt_of_cell h2)).trans h2
        have hd : l.drop acc.length = s :: l.drop (acc.length + 1) := by
          obtain ⟨hl, he⟩ := List.getElem?_eq_some_iff.1 hp
          rw [List.drop_eq_getElem_cons hl, he]
        rw [hd, numbersL] at hl
        have HL := Lib.hid hl
        clear hl hd hp
        go_wp2_with fail
        clear c0
        refine (word_parse wr (HS.out.ext (Below.toExt hB no)) s hss 1073741824 (by omega)).mono ?_
        rintro e w2 ⟨rfl, e2⟩
        have hown2 := own_ext hown e2 (fun _ _ => not_no _)
        have hB2 := hB.trans (e2.below hB.size (fun _ h => absurd h (not_no _)))
        clear hown hB e2
        cases hw : wordParse s 1073741824 with
        | mk n ok =>
        have HL2 := HL.out
        rw [hw] at HL2
        clear hw HL
        simp only at HL2 ⊢
        cases ok with
        | false =>
          have hA : r = none := by simpa using HL2.symm
          subst hA
          clear HL2
          go_wp2
          go_ret2
          exact ⟨hB2, rfl⟩
        | true =>
          rw [if_pos rfl] at HL2
          have HL3 := Lib.hid HL2
          clear HL2
          go_wp2_with (at_builtin; refine wpList_append1 rfl _ _ _ rfl w.heap.size 3 Tryz.underlying64 i_int rfl (by decide) (.slice Av acc.length cv) acc.length (intC acc) rfl hown2 #[.int .i64 n] rfl rfl (by simp [Value.oneCell']) (by unfold maxLen; omega) (by omega) hB2.size ?_; intro g cap w4 hown4 e4 hwh hlt4)
          go_roundw
          case measure => simp [intOf]; omega
          case rel =>
            refine ⟨acc.length + 1, acc ++ [n], by go_num, by omega, by simp, HL3.out, ?_, ?_⟩
            · rw [List.length_append, List.length_singleton, intC, List.map_append]; exact hown4
            · exact hB2.trans (e4.below hB2.size (fun k hk => (own_row hown2 hk).2))
      · have hA : r = some acc := by
          rw [List.drop_eq_nil_of_le (by omega)] at hl
          exact hl.symm
        subst hA
        clear hl
        go_wp2
        go_ret2
        exact ⟨hB, _, rfl, hown⟩
  · have hd : numbersD l many = none := by unfold numbersD; rw [if_neg hl]
    rw [hd]
    have hb : ((l.length : Int) != (many : Int)) = true := by
      have : ¬ (l.length : Int) = (many : Int) := by omega
      simp [this]
    have hb2 : (l.length != many) = true := by simp [hl]
    clear hd
    go_enter Tryz.func180, Tryz.ntmps180
    go_wp2
    go_ret2
    exact ⟨Below.refl _ _, rfl⟩
end Go.Proofs.YtiiaklaojlnokaaGreatDoor.B
