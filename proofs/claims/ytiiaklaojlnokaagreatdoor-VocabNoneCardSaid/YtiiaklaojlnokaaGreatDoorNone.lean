/- VocabNone (seat ZD): its function answers true, for every number. -/
import Derived.Test.YtiiaklaojlnokaaGreatDoorSameNil
set_option linter.unusedVariables false
set_option linter.unusedSimpArgs false
namespace Go.Proofs.YtiiaklaojlnokaaGreatDoor.B
open Go Go.RowKit
set_option maxRecDepth 100000
set_option maxHeartbeats 1000000

theorem vocab_none (w : World) (hS : Std w) (id : Int) : Calls Tryz.prog 8 #[.int .i64 id] w fun e w' => e = .returned (.bool true) ∧ Below w.heap.size w w' := by
  have HS := Lib.hid hS
  have e1 : ∀ o, Ext no w (w.alloc o) := fun o => (Ext.refl no w).alloc o
  go_enter Tryz.func8, Tryz.ntmps8
  go_wp2_with fail
  have b1 := (e1 (.cells #[.int .i64 id] 3)).toBelow
  generalize w.alloc (.cells #[.int .i64 id] 3) = w1 at *
  clear e1
  refine (nil_items w1 _ _ _).mono ?_
  rintro e w2 ⟨rfl, rfl⟩
  go_wp2_with fail
  refine (nil_alone _ id).mono ?_
  rintro e w2 ⟨rfl, rfl⟩
  go_wp2_with fail
  refine (nil_has _ id).mono ?_
  rintro e w2 ⟨rfl, rfl⟩
  go_wp2_with fail
  refine (nil_size _).mono ?_
  rintro e w2 ⟨rfl, rfl⟩
  go_wp2_with fail
  refine (nil_ids _).mono ?_
  rintro e w3 ⟨rfl, h3⟩
  have b3 := b1.trans (h3.mono b1.size)
  clear h3
  go_wp2_with fail
  refine (nil_uses _).mono ?_
  rintro e w4 ⟨rfl, rfl⟩
  go_wp2_with fail
  refine (nil_table _).mono ?_
  rintro e w4 ⟨rfl, rfl⟩
  go_wp2_with fail
  refine (nil_bounds _).mono ?_
  rintro e w4 ⟨rfl, rfl⟩
  go_wp2_with fail
  refine (nil_marks _).mono ?_
  rintro e w4 ⟨rfl, rfl⟩
  go_wp2_with fail
  refine (nil_spec _).mono ?_
  rintro e w5 ⟨rfl, h5⟩
  have b5 := b3.trans (h5.mono b3.size)
  clear h5
  go_wp2_with fail
  refine (same_nil _).mono ?_
  rintro e w6 ⟨rfl, h6⟩
  have b6 := b5.trans (h6.mono b5.size)
  clear h6
  go_wp2_with fail
  refine (awake10 _ (HS.out.ext (Below.toExt b6 no))).mono ?_
  rintro e w7 ⟨rfl, h7⟩
  have b7 := b6.trans (h7.mono b6.size)
  clear h7
  go_wp2
  go_ret
  exact ⟨rfl, b7⟩
end Go.Proofs.YtiiaklaojlnokaaGreatDoor.B
