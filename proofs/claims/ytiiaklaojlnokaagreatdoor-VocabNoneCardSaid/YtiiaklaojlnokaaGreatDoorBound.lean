/- Package bound: what a table is in memory (BTabAt); New, Cuts: contracts. -/
import Derived.Test.YtiiaklaojlnokaaGreatDoorClone
set_option linter.unusedVariables false
set_option linter.unusedSimpArgs false
namespace Go.Proofs.YtiiaklaojlnokaaGreatDoor.B
open Go Go.RowKit
set_option maxRecDepth 100000
set_option maxHeartbeats 1000000

/-- Classes of bytes, and which are joined (a, b at 16 a + b). -/
structure BTab where
  cls : Nat → Int
  join : Nat → Bool
def BTab.empty : BTab := ⟨fun _ => 0, fun _ => false⟩
def BTab.cells (T : BTab) : List Value := (List.range 256).map (fun i => Value.int .i64 (T.cls i)) ++ (List.range 256).map (fun i => Value.bool (T.join i))
theorem set_range (n i : Nat) (f : Nat → Value) (v : Value) : ((List.range n).map f).set i v = (List.range n).map (fun k => if k = i then v else f k) := by
  apply List.ext_getElem
  · simp
  · intro k h1 h2
    simp only [List.getElem_set, List.getElem_map, List.getElem_range]
    by_cases h : i = k
    · simp [h]
    · simp [h, Ne.symm h]
theorem bcells_cls (T : BTab) (i : Nat) (v : Int) (hi : i < 256) : T.cells.toArray.setIfInBounds i (.int .i64 v) = (BTab.cells ⟨fun k => if k = i then v else T.cls k, T.join⟩).toArray := by
  rw [List.setIfInBounds_toArray]
  simp only [BTab.cells]
  rw [List.set_append_left _ _ (by simp; exact hi), set_range]
  congr 2
  apply List.map_congr_left
  intro k _
  split <;> rfl
theorem bcells_join (T : BTab) (i : Nat) (v : Bool) (hi : i < 256) : T.cells.toArray.setIfInBounds (256 + i) (.bool v) = (BTab.cells ⟨T.cls, fun k => if k = i then v else T.join k⟩).toArray := by
  rw [List.setIfInBounds_toArray]
  simp only [BTab.cells]
  rw [List.set_append_right _ _ (by simp)]
  simp only [List.length_map, List.length_range, Nat.add_sub_cancel_left]
  rw [set_range]
  congr 2
  apply List.map_congr_left
  intro k _
  split <;> rfl
theorem bcell_cls (T : BTab) (i : Nat) (hi : i < 256) : T.cells.toArray[i]? = some (.int .i64 (T.cls i)) := by
  simp only [BTab.cells, List.getElem?_toArray]
  rw [List.getElem?_append_left (by simp; exact hi), List.getElem?_map, List.getElem?_range hi]; rfl
theorem bcell_join (T : BTab) (i : Nat) (hi : i < 256) : T.cells.toArray[256 + i]? = some (.bool (T.join i)) := by
  simp only [BTab.cells, List.getElem?_toArray]
  rw [List.getElem?_append_right (by simp)]
  simp only [List.length_map, List.length_range, Nat.add_sub_cancel_left]
  rw [List.getElem?_map, List.getElem?_range hi]; rfl
def BTabAt (w : World) (t : Nat) (T : BTab) : Prop := w.heap[t]? = some (.cells T.cells.toArray 204 (0, 0))
theorem zero_bound : Tryz.zeroCells204 = BTab.empty.cells.toArray := by kernel_rfl

/-! ### what may be -/
def classB (n : Int) : Bool := decide (0 ≤ n ∧ n < 16)
theorem bound_class (w : World) (n : Int) : Calls Tryz.prog 116 #[.int .i64 n] w fun e w' => e = .returned (.bool (classB n)) ∧ w = w' := by
  by_cases h : 0 ≤ n
  · go_enter Tryz.func116, Tryz.ntmps116
    go_wp2
    go_ret
    exact ⟨by simp [classB, h], rfl⟩
  · have h' : n < 0 := by omega
    go_enter Tryz.func116, Tryz.ntmps116
    go_wp2
    go_ret
    have : classB n = false := decide_eq_false (by omega)
    exact ⟨by rw [this]; rfl, rfl⟩
def spanB (c : Int × Int × Int) : Bool := decide (0 ≤ c.1 ∧ c.1 ≤ c.2.1 ∧ c.2.1 < 256) && classB c.2.2
theorem bound_span (w : World) (c : Int × Int × Int) : Calls Tryz.prog 115 #[classV c] w fun e w' => e = .returned (.bool (spanB c)) ∧ Ext no w w' := by
  obtain ⟨x, y, z⟩ := c
  unfold classV
  have e1 : Ext no w (w.alloc (.cells #[.int .i64 x, .int .i64 y, .int .i64 z] 58)) := (Ext.refl _ _).alloc _
  by_cases h : 0 ≤ x ∧ x ≤ y ∧ y < 256
  · have hs : spanB (x, y, z) = classB z := by simp only [spanB, decide_eq_true h, Bool.true_and]
    obtain ⟨h1, h2, h3⟩ := h
    go_enter Tryz.func115, Tryz.ntmps115
    go_wp2_with (go_at_call 116; refine (bound_class _ _).mono ?_; rintro e w' ⟨rfl, rfl⟩)
    go_ret
    exact ⟨by rw [hs]; rfl, e1⟩
  · have hs : spanB (x, y, z) = false := by simp only [spanB, decide_eq_false h, Bool.false_and]
    have HS := Lib.hid hs
    have HH := Lib.hid h
    clear hs h
    go_enter Tryz.func115, Tryz.ntmps115
    go_wp2_with (go_at_call 116; exact absurd ⟨by omega, by omega, by omega⟩ HH.out)
    all_goals
      go_ret
      exact ⟨by rw [HS.out]; rfl, e1⟩
end Go.Proofs.YtiiaklaojlnokaaGreatDoor.B
