/- Package vocab: Table, Marks, Size, Has: contracts; of no vocabulary too. -/
import Derived.Test.YtiiaklaojlnokaaGreatDoorBuild
set_option linter.unusedVariables false
set_option linter.unusedSimpArgs false
namespace Go.Proofs.YtiiaklaojlnokaaGreatDoor.B
open Go Go.RowKit
set_option maxRecDepth 100000
set_option maxHeartbeats 1000000

section
variable {B : Nat} {w : World} {v : Nat} {V : VocD} {p : SpecP} {t b m : Nat} {rest : List Value}
theorem voc_table (h : VocIn B w v V p t b m rest) : Calls Tryz.prog 34 #[.pointer (some ⟨v, 0, none⟩)] w fun e w' => e = .returned (.pointer (some ⟨t, 0, none⟩)) ∧ w = w' := by
  have c6 : w.cell? ⟨v, 6, none⟩ = some (.pointer (some ⟨t, 0, none⟩)) := by rw [cell_of_block h.hv]; rfl
  go_enter Tryz.func34, Tryz.ntmps34
  go_wp2
  go_ret
  exact ⟨rfl, rfl⟩
theorem voc_marks (h : VocIn B w v V p t b m rest) : Calls Tryz.prog 36 #[.pointer (some ⟨v, 0, none⟩)] w fun e w' => e = .returned (.pointer (some ⟨m, 0, none⟩)) ∧ w = w' := by
  have c8 : w.cell? ⟨v, 8, none⟩ = some (.pointer (some ⟨m, 0, none⟩)) := by rw [cell_of_block h.hv]; rfl
  go_enter Tryz.func36, Tryz.ntmps36
  go_wp2
  go_ret
  exact ⟨rfl, rfl⟩
theorem voc_size (h : VocIn B w v V p t b m rest) : Calls Tryz.prog 30 #[.pointer (some ⟨v, 0, none⟩)] w fun e w' => e = .returned (.int .i64 V.T.es.length) ∧ w = w' := by
  go_enter Tryz.func30, Tryz.ntmps30
  go_wp2_with fail
  refine (voc_table h).mono ?_
  rintro e w' ⟨rfl, rfl⟩
  go_wp2_with fail
  refine (tab_len h.ht).mono ?_
  rintro e w' ⟨rfl, rfl⟩
  go_wp2
  go_ret
  exact ⟨rfl, rfl⟩
def VocD.has (V : VocD) (id : Int) : Bool := (V.M.mark id).2 || hasB V.T.es.length id
theorem voc_has (h : VocIn B w v V p t b m rest) (hi : ∀ id i, mget V.M.ids id = some i → i ≤ 4611686018427387903) (id : Int) : Calls Tryz.prog 29 #[.pointer (some ⟨v, 0, none⟩), .int .i64 id] w fun e w' => e = .returned (.bool (V.has id)) ∧ w = w' := by
  go_enter Tryz.func29, Tryz.ntmps29
  go_wp2_with fail
  refine (voc_marks h).mono ?_
  rintro e w' ⟨rfl, rfl⟩
  go_wp2_with fail
  refine (mark_mark h.hm hi id).mono ?_
  rintro e w' ⟨rfl, rfl⟩
  cases hm : V.M.mark id with
  | mk mi ok =>
  have HM := Lib.hid hm
  clear hm
  simp only
  cases ok with
  | true =>
    go_wp2
    go_ret
    exact ⟨by rw [VocD.has, HM.out]; rfl, rfl⟩
  | false =>
    by_cases h0 : 0 ≤ id
    · go_wp2_with fail
      refine (voc_size h).mono ?_
      rintro e w' ⟨rfl, rfl⟩
      go_wp2
      go_ret
      exact ⟨by rw [VocD.has, HM.out]; simp [hasB, h0], rfl⟩
    · have h1 : id < 0 := by omega
      go_wp2
      go_ret
      have hb : hasB V.T.es.length id = false := decide_eq_false (by omega)
      exact ⟨by rw [VocD.has, HM.out, hb]; rfl, rfl⟩
end
end Go.Proofs.YtiiaklaojlnokaaGreatDoor.B
