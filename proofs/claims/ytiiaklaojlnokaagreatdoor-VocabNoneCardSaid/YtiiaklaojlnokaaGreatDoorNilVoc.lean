/- Package vocab (seat ZD): of no vocabulary nothing comes. -/
import Derived.Test.YtiiaklaojlnokaaGreatDoorAwake10
set_option linter.unusedVariables false
set_option linter.unusedSimpArgs false
namespace Go.Proofs.YtiiaklaojlnokaaGreatDoor.B
open Go Go.RowKit
set_option maxRecDepth 100000
set_option maxHeartbeats 1000000

theorem nil_table (w : World) : Calls Tryz.prog 34 #[.pointer none] w fun e w' => e = .returned (.pointer none) ∧ w = w' := by
  go_enter Tryz.func34, Tryz.ntmps34
  go_wp2
  go_ret
  exact ⟨rfl, rfl⟩
theorem nil_bounds (w : World) : Calls Tryz.prog 35 #[.pointer none] w fun e w' => e = .returned (.pointer none) ∧ w = w' := by
  go_enter Tryz.func35, Tryz.ntmps35
  go_wp2
  go_ret
  exact ⟨rfl, rfl⟩
theorem nil_marks (w : World) : Calls Tryz.prog 36 #[.pointer none] w fun e w' => e = .returned (.pointer none) ∧ w = w' := by
  go_enter Tryz.func36, Tryz.ntmps36
  go_wp2
  go_ret
  exact ⟨rfl, rfl⟩
theorem nil_size (w : World) : Calls Tryz.prog 30 #[.pointer none] w fun e w' => e = .returned (.int .i64 0) ∧ w = w' := by
  go_enter Tryz.func30, Tryz.ntmps30
  go_wp2_with fail
  refine (nil_table w).mono ?_
  rintro e w' ⟨rfl, rfl⟩
  go_wp2_with fail
  refine (tab_len_nil w).mono ?_
  rintro e w' ⟨rfl, rfl⟩
  go_wp2
  go_ret
  exact ⟨rfl, rfl⟩
theorem nil_uses (w : World) : Calls Tryz.prog 31 #[.pointer none] w fun e w' => e = .returned (.int .i64 0) ∧ w = w' := by
  go_enter Tryz.func31, Tryz.ntmps31
  go_wp2
  go_ret
  exact ⟨rfl, rfl⟩
theorem nil_alone (w : World) (id : Int) : Calls Tryz.prog 22 #[.pointer none, .int .i64 id] w fun e w' => e = .returned (.bool false) ∧ w = w' := by
  go_enter Tryz.func22, Tryz.ntmps22
  go_wp2
  go_ret
  exact ⟨rfl, rfl⟩
theorem nil_has (w : World) (id : Int) : Calls Tryz.prog 29 #[.pointer none, .int .i64 id] w fun e w' => e = .returned (.bool false) ∧ w = w' := by
  by_cases h0 : 0 ≤ id
  · have h1 : decide (id < 0) = false := decide_eq_false (by omega)
    go_enter Tryz.func29, Tryz.ntmps29
    go_wp2_with fail
    refine (nil_marks w).mono ?_
    rintro e w' ⟨rfl, rfl⟩
    go_wp2_with fail
    refine (mark_mark_nil w id).mono ?_
    rintro e w' ⟨rfl, rfl⟩
    go_wp2_with fail
    refine (nil_size w).mono ?_
    rintro e w' ⟨rfl, rfl⟩
    go_wp2
    go_ret
    exact ⟨rfl, rfl⟩
  · have h1 : id < 0 := by omega
    go_enter Tryz.func29, Tryz.ntmps29
    go_wp2_with fail
    refine (nil_marks w).mono ?_
    rintro e w' ⟨rfl, rfl⟩
    go_wp2_with fail
    refine (mark_mark_nil w id).mono ?_
    rintro e w' ⟨rfl, rfl⟩
    go_wp2
    go_ret
    exact ⟨rfl, rfl⟩
theorem nil_items (w : World) (A : Option Addr) (n c : Nat) : Calls Tryz.prog 26 #[.pointer none, .slice A n c] w fun e w' => e = .returned (.tuple #[.slice none 0 0, .int .i64 0, .int .i64 1]) ∧ w = w' := by
  go_enter Tryz.func26, Tryz.ntmps26
  go_wp2
  go_ret3
  exact ⟨rfl, rfl⟩
theorem nil_all (w : World) : Calls Tryz.prog 61 #[.pointer none] w fun e w' => e = .returned (.slice none 0 0) ∧ w = w' := by
  go_enter Tryz.func61, Tryz.ntmps61
  go_wp2
  go_ret
  exact ⟨rfl, rfl⟩
theorem nil_ids (w : World) : Calls Tryz.prog 28 #[.pointer none] w fun e w' => e = .returned (.slice none 0 0) ∧ Below w.heap.size w w' := by
  go_enter Tryz.func28, Tryz.ntmps28
  go_wp2_with fail
  refine (nil_size w).mono ?_
  rintro e w1 ⟨rfl, h1⟩
  have b1 : Below w.heap.size w w1 := h1 ▸ Below.refl _ _
  clear h1
  go_wp2_with fail
  go_loopw [3, 9] (fun v i wr => v = .slice none 0 0 ∧ i = .int .i64 0 ∧ Below w.heap.size w wr) (fun _ i _ => 0)
  case atStart => exact ⟨rfl, rfl, b1⟩
  case round =>
    clear b1
    obtain ⟨rfl, rfl, hb⟩ := hrel
    go_wp2_with fail
    refine (nil_marks _).mono ?_
    rintro e w2 ⟨rfl, h2⟩
    have b2 : Below w.heap.size w w2 := h2 ▸ hb
    clear h2 hb
    go_wp2_with fail
    refine (nil_all _).mono ?_
    rintro e w3 ⟨rfl, h3⟩
    have b3 : Below w.heap.size w w3 := h3 ▸ b2
    clear h3 b2
    go_wp2_with fail
    go_loopw [3, 21] (fun v i wr => v = .slice none 0 0 ∧ i = .int .i64 0 ∧ Below w.heap.size w wr) (fun _ i _ => 0)
    case atStart => exact ⟨rfl, rfl, b3⟩
    case round =>
      clear b3
      obtain ⟨rfl, rfl, hb⟩ := hrel
      go_wp2_with fail
      refine (Tryz.slices_Sort_int_none none 0 _).mono ?_
      rintro e w4 ⟨rfl, h4⟩
      have b4 : Below w.heap.size w w4 := h4 ▸ hb
      clear h4 hb
      go_wp2
      go_ret
      exact ⟨rfl, b4⟩
def zeroSpec : Value := .agg (SpecP.cells SpecP.empty SpecD.empty)
theorem nil_spec (w : World) : Calls Tryz.prog 14 #[.pointer none] w fun e w' => e = .returned (.agg #[.bool false, .slice none 0 0, .slice none 0 0, .slice none 0 0, .slice none 0 0, .slice none 0 0]) ∧ Below w.heap.size w w' := by
  go_enter Tryz.func14, Tryz.ntmps14
  go_wp2
  have hb0 := block_new w (.cells #[.bool false, .slice none 0 0, .slice none 0 0, .slice none 0 0, .slice none 0 0, .slice none 0 0] 33)
  have BB0 : Below w.heap.size w (w.alloc (.cells #[.bool false, .slice none 0 0, .slice none 0 0, .slice none 0 0, .slice none 0 0, .slice none 0 0] 33)) := ((Ext.refl no w).alloc _).toBelow
  generalize w.alloc (.cells #[.bool false, .slice none 0 0, .slice none 0 0, .slice none 0 0, .slice none 0 0, .slice none 0 0] 33) = u at *
  have y0 : u.cell? ⟨w.heap.size, 0, none⟩ = some (.bool false) := by rw [cell_of_block hb0]; rfl
  have y1 : u.cell? ⟨w.heap.size, 1, none⟩ = some (.slice none 0 0) := by rw [cell_of_block hb0]; rfl
  have y2 : u.cell? ⟨w.heap.size, 2, none⟩ = some (.slice none 0 0) := by rw [cell_of_block hb0]; rfl
  have y3 : u.cell? ⟨w.heap.size, 3, none⟩ = some (.slice none 0 0) := by rw [cell_of_block hb0]; rfl
  have y4 : u.cell? ⟨w.heap.size, 4, none⟩ = some (.slice none 0 0) := by rw [cell_of_block hb0]; rfl
  have y5 : u.cell? ⟨w.heap.size, 5, none⟩ = some (.slice none 0 0) := by rw [cell_of_block hb0]; rfl
  refine bodyPost_ret (v := .agg #[.bool false, .slice none 0 0, .slice none 0 0, .slice none 0 0, .slice none 0 0, .slice none 0 0]) (by simp [results, Tryz.results14, go_sem, y0, y1, y2, y3, y4, y5]) rfl ?_
  exact ⟨rfl, BB0⟩
end Go.Proofs.YtiiaklaojlnokaaGreatDoor.B
