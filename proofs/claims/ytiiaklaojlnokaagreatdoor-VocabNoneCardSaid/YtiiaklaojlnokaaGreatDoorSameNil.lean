/- The reference's Same at two specs of nothing (seat ZD). -/
import Derived.Test.YtiiaklaojlnokaaGreatDoorNilVoc
set_option linter.unusedVariables false
set_option linter.unusedSimpArgs false
namespace Go.Proofs.YtiiaklaojlnokaaGreatDoor.B
open Go Go.RowKit
set_option maxRecDepth 100000
set_option maxHeartbeats 1000000

theorem texts_nil (w : World) : Calls Tryz.prog 46 #[.slice none 0 0, .slice none 0 0] w fun e w' => e = .returned (.bool true) ∧ Ext no w w' := by
  go_enter Tryz.func46, Tryz.ntmps46
  go_wp2_with fail
  go_loopw [5] (fun i wr => i = .int .i64 0 ∧ Ext no w wr) (fun i _ => 0)
  case atStart => exact ⟨rfl, Ext.refl _ _⟩
  case round =>
    obtain ⟨rfl, hb⟩ := hrel
    go_wp2
    go_ret
    exact ⟨rfl, hb⟩
def ZAt (w : World) (i : Value) (wr : World) : Prop := i = .int .i64 0 ∧ Below w.heap.size w wr ∧
  wr.heap[w.heap.size]? = some (.cells #[.bool false, .slice none 0 0, .slice none 0 0, .slice none 0 0, .slice none 0 0, .slice none 0 0] 33 (0, 0)) ∧
  wr.heap[w.heap.size + 1]? = some (.cells #[.bool false, .slice none 0 0, .slice none 0 0, .slice none 0 0, .slice none 0 0, .slice none 0 0] 33 (0, 0))
theorem same_nil (w : World) : Calls Tryz.prog 13 #[.agg #[.bool false, .slice none 0 0, .slice none 0 0, .slice none 0 0, .slice none 0 0, .slice none 0 0], .agg #[.bool false, .slice none 0 0, .slice none 0 0, .slice none 0 0, .slice none 0 0, .slice none 0 0]] w fun e w' => e = .returned (.bool true) ∧ Below w.heap.size w w' := by
  have hb1 := block_alloc (o' := (.cells #[.bool false, .slice none 0 0, .slice none 0 0, .slice none 0 0, .slice none 0 0, .slice none 0 0] 33)) (block_new w (.cells #[.bool false, .slice none 0 0, .slice none 0 0, .slice none 0 0, .slice none 0 0, .slice none 0 0] 33))
  have hb2 := block_new (w.alloc (.cells #[.bool false, .slice none 0 0, .slice none 0 0, .slice none 0 0, .slice none 0 0, .slice none 0 0] 33)) (.cells #[.bool false, .slice none 0 0, .slice none 0 0, .slice none 0 0, .slice none 0 0, .slice none 0 0] 33)
  rw [show (w.alloc (.cells #[.bool false, .slice none 0 0, .slice none 0 0, .slice none 0 0, .slice none 0 0, .slice none 0 0] 33)).heap.size = w.heap.size + 1 by simp] at hb2
  have e1 : Ext no w ((w.alloc (.cells #[.bool false, .slice none 0 0, .slice none 0 0, .slice none 0 0, .slice none 0 0, .slice none 0 0] 33)).alloc (.cells #[.bool false, .slice none 0 0, .slice none 0 0, .slice none 0 0, .slice none 0 0, .slice none 0 0] 33)) := ((Ext.refl no w).alloc _).alloc _
  go_enter Tryz.func13, Tryz.ntmps13
  go_wp2_with fail
  generalize (w.alloc (.cells #[.bool false, .slice none 0 0, .slice none 0 0, .slice none 0 0, .slice none 0 0, .slice none 0 0] 33)).alloc (.cells #[.bool false, .slice none 0 0, .slice none 0 0, .slice none 0 0, .slice none 0 0, .slice none 0 0] 33) = w1 at *
  refine (texts_nil w1).mono ?_
  rintro e w2 ⟨rfl, e2⟩
  have c1 := e2.heap hb1 (not_no _)
  have c2 := e2.heap hb2 (not_no _)
  have bb : Below w.heap.size w w2 := (e1.trans e2).toBelow
  have z : ∀ o v, (#[Value.bool false, .slice none 0 0, .slice none 0 0, .slice none 0 0, .slice none 0 0, .slice none 0 0])[o]? = some v → w2.cell? ⟨w.heap.size, o, none⟩ = some v ∧ w2.cell? ⟨w.heap.size + 1, o, none⟩ = some v := fun o v hv => ⟨(cell_of_block c1 o).trans hv, (cell_of_block c2 o).trans hv⟩
  obtain ⟨z1, y1⟩ := z 1 _ rfl
  obtain ⟨z3, y3⟩ := z 3 _ rfl
  obtain ⟨z4, y4⟩ := z 4 _ rfl
  obtain ⟨z5, y5⟩ := z 5 _ rfl
  clear hb1 hb2 e1 e2 z
  go_wp2_with fail
  go_loopw [5] (fun i wr => ZAt w i wr) (fun i _ => 0)
  case atStart => exact ⟨rfl, bb, c1, c2⟩
  case round =>
    clear bb c1 c2 z1 z3 z4 z5 y1 y3 y4 y5
    obtain ⟨rfl, bb, c1, c2⟩ := hrel
    have z1 := (cell_of_block c1 1).trans (show _ = some (Value.slice none 0 0) from rfl)
    have z3 := (cell_of_block c1 3).trans (show _ = some (Value.slice none 0 0) from rfl)
    go_wp2_with fail
    go_loopw [6] (fun i wr => ZAt w i wr) (fun i _ => 0)
    case atStart => exact ⟨rfl, bb, c1, c2⟩
    case round =>
      clear bb c1 c2 z1
      clear z3
      obtain ⟨rfl, bb, c1, c2⟩ := hrel
      have z3 := (cell_of_block c1 3).trans (show _ = some (Value.slice none 0 0) from rfl)
      have z4 := (cell_of_block c1 4).trans (show _ = some (Value.slice none 0 0) from rfl)
      go_wp2_with fail
      go_loopw [7] (fun i wr => ZAt w i wr) (fun i _ => 0)
      case atStart => exact ⟨rfl, bb, c1, c2⟩
      case round =>
        clear bb c1 c2 z3
        clear z4
        obtain ⟨rfl, bb, c1, c2⟩ := hrel
        have z4 := (cell_of_block c1 4).trans (show _ = some (Value.slice none 0 0) from rfl)
        have z5 := (cell_of_block c1 5).trans (show _ = some (Value.slice none 0 0) from rfl)
        go_wp2_with fail
        go_loopw [8] (fun i wr => ZAt w i wr) (fun i _ => 0)
        case atStart => exact ⟨rfl, bb, c1, c2⟩
        case round =>
          clear bb c1 c2 z4
          clear z5
          obtain ⟨rfl, bb, c1, c2⟩ := hrel
          have z5 := (cell_of_block c1 5).trans (show _ = some (Value.slice none 0 0) from rfl)
          go_wp2
          go_ret
          exact ⟨rfl, bb⟩
end Go.Proofs.YtiiaklaojlnokaaGreatDoor.B
