/- Package vocab: copied: contract. -/
import Derived.Test.YtiiaklaojlnokaaGreatDoorBoundNew
set_option linter.unusedVariables false
set_option linter.unusedSimpArgs false
namespace Go.Proofs.YtiiaklaojlnokaaGreatDoor.B
open Go Go.RowKit
set_option maxRecDepth 100000
set_option maxHeartbeats 1000000

structure SpecD.Small (S : SpecD) : Prop where
  n1 : S.merges.length ≤ 1048576
  n2 : S.tokens.length ≤ 1048576
  n3 : S.specials.length ≤ 1048576
  n4 : S.classes.length ≤ 1048576
  n5 : S.joins.length ≤ 1048576
/-- A spec whose lists are the call's own. -/
structure SpecOwn (B : Nat) (w : World) (S : SpecD) (p : SpecP) : Prop where
  r1 : w.ownsRow B 54 2 (.slice p.a1 S.merges.length p.c1) S.merges.length (S.merges.flatMap mergeC)
  r2 : w.ownsRow B 9 1 (.slice p.a2 S.tokens.length p.c2) S.tokens.length (S.tokens.flatMap textC)
  r3 : w.ownsRow B 56 2 (.slice p.a3 S.specials.length p.c3) S.specials.length (S.specials.flatMap specialC)
  r4 : w.ownsRow B 58 3 (.slice p.a4 S.classes.length p.c4) S.classes.length (S.classes.flatMap classC)
  r5 : w.ownsRow B 87 2 (.slice p.a5 S.joins.length p.c5) S.joins.length (S.joins.flatMap joinC)
theorem row_of_own {w : World} {B n m size : Nat} {e : TypeId} {A : Option Addr} {c : Nat} {xs : List Value} (h : w.ownsRow B e size (.slice A m c) n xs) : RowAt w A xs := by
  obtain ⟨A', c', he, hr⟩ := own_at h
  cases he; exact hr
theorem SpecOwn.spec {B : Nat} {w : World} {S : SpecD} {p : SpecP} (h : SpecOwn B w S p) : SpecIn w S p := ⟨row_of_own h.r1, row_of_own h.r2, row_of_own h.r3, row_of_own h.r4, row_of_own h.r5⟩
theorem SpecOwn.keep {B : Nat} {w w' : World} {S : SpecD} {p : SpecP} (h : SpecOwn B w S p) (e : Ext no w w') : SpecOwn B w' S p :=
  ⟨own_ext h.r1 e (fun _ _ => not_no _), own_ext h.r2 e (fun _ _ => not_no _), own_ext h.r3 e (fun _ _ => not_no _), own_ext h.r4 e (fun _ _ => not_no _), own_ext h.r5 e (fun _ _ => not_no _)⟩
theorem vocab_copied (w : World) (S : SpecD) (p : SpecP) (h : SpecIn w S p) (hs : S.Small) :
    Calls Tryz.prog 47 #[.agg (p.cells S)] w fun e w' => ∃ p', e = .returned (.agg (SpecP.cells p' S)) ∧ Ext no w w' ∧ SpecOwn w.heap.size w' S p' := by
  obtain ⟨rk, ms, ts, ss, cs, js⟩ := S
  obtain ⟨n1, n2, n3, n4, n5⟩ := hs
  obtain ⟨a1, c1, a2, c2, a3, c3, a4, c4, a5, c5⟩ := p
  obtain ⟨r1, r2, r3, r4, r5⟩ := h
  simp only at n1 n2 n3 n4 n5 r1 r2 r3 r4 r5
  show Calls _ _ #[.agg #[.bool rk, .slice a1 ms.length c1, .slice a2 ts.length c2, .slice a3 ss.length c3, .slice a4 cs.length c4, .slice a5 js.length c5]] _ _
  go_enter Tryz.func47, Tryz.ntmps47
  go_wp2_with fail
  have e2 : Ext no w ((w.alloc (.cells #[.bool rk, .slice a1 ms.length c1, .slice a2 ts.length c2, .slice a3 ss.length c3, .slice a4 cs.length c4, .slice a5 js.length c5] 33)).alloc (.cells #[.bool false, .slice none 0 0, .slice none 0 0, .slice none 0 0, .slice none 0 0, .slice none 0 0] 33)) := ((Ext.refl no w).alloc _).alloc _
  have hb1 := block_alloc (o' := (.cells #[.bool false, .slice none 0 0, .slice none 0 0, .slice none 0 0, .slice none 0 0, .slice none 0 0] 33)) (block_new w (.cells #[.bool rk, .slice a1 ms.length c1, .slice a2 ts.length c2, .slice a3 ss.length c3, .slice a4 cs.length c4, .slice a5 js.length c5] 33))
  have hb2 := block_new (w.alloc (.cells #[.bool rk, .slice a1 ms.length c1, .slice a2 ts.length c2, .slice a3 ss.length c3, .slice a4 cs.length c4, .slice a5 js.length c5] 33)) (.cells #[.bool false, .slice none 0 0, .slice none 0 0, .slice none 0 0, .slice none 0 0, .slice none 0 0] 33)
  rw [show (w.alloc (.cells #[.bool rk, .slice a1 ms.length c1, .slice a2 ts.length c2, .slice a3 ss.length c3, .slice a4 cs.length c4, .slice a5 js.length c5] 33)).heap.size = w.heap.size + 1 by simp] at hb2
  refine wp_region_ser [(0, false, []), (1, false, []), (3, false, []), (4, false, []), (6, false, []), (7, false, []), (2, true, [3, 4, 6, 7]), (9, false, []), (5, true, [6, 7, 9]), (8, true, [9]), (10, true, []), (11, false, []), (12, true, []), (13, false, []), (14, true, [])] (by kernel_rfl) (by kernel_rfl) ?_
  generalize (w.alloc (.cells #[.bool rk, .slice a1 ms.length c1, .slice a2 ts.length c2, .slice a3 ss.length c3, .slice a4 cs.length c4, .slice a5 js.length c5] 33)).alloc (.cells #[.bool false, .slice none 0 0, .slice none 0 0, .slice none 0 0, .slice none 0 0, .slice none 0 0] 33) = u at *
  have eu : Ext no u u.drew := (Ext.refl no u).drew
  have e3 := e2.trans eu
  replace hb1 := eu.heap hb1 (not_no _)
  replace hb2 := eu.heap hb2 (not_no _)
  generalize u.drew = v at *
  clear e2 eu
  have k1 : v.cell? ⟨w.heap.size, 1, none⟩ = some (.slice a1 ms.length c1) := by rw [cell_of_block hb1]; rfl
  have k2 : v.cell? ⟨w.heap.size, 2, none⟩ = some (.slice a2 ts.length c2) := by rw [cell_of_block hb1]; rfl
  have k3 : v.cell? ⟨w.heap.size, 3, none⟩ = some (.slice a3 ss.length c3) := by rw [cell_of_block hb1]; rfl
  repeat (first | (refine ser_next (by rfl) (by rfl) (by rfl) (fun K hK => ?_); (first | go_big_move | go_big_op); refine hK _ ?_; clear hK K) | (refine ser_off (by rfl) (by rfl) ?_; simp only [Act.put, List.setIfInBounds_toArray, List.set_cons_zero, List.set_cons_succ]))
  refine ser_eff (by rfl) (by rfl) (fun K hK => ?_)
  go_big_op
  refine (clone_merge v _ _ ms (r1.ext e3 (fun _ _ _ => not_no _)) n1).mono ?_
  rintro e v1 ⟨x1, rfl, f1, o1⟩
  obtain ⟨A1, C1, rfl, _⟩ := own_at o1
  replace o1 := ownsRow_lower o1 (show w.heap.size ≤ _ from e3.size)
  have E1 := e3.trans f1
  replace hb1 := f1.heap hb1 (not_no _)
  replace hb2 := f1.heap hb2 (not_no _)
  clear k1 k2 k3
  have k2 : v1.cell? ⟨w.heap.size, 2, none⟩ = some (.slice a2 ts.length c2) := by rw [cell_of_block hb1]; rfl
  have k3 : v1.cell? ⟨w.heap.size, 3, none⟩ = some (.slice a3 ss.length c3) := by rw [cell_of_block hb1]; rfl
  refine hK _ _ ?_ ?_
  · repeat (first | exact ag_nil | (refine ag_cons (by rfl) (by rfl) (by rfl) (by rfl) (by rfl) (fun K hK => ?_) ?_; · ((first | go_big_move | go_big_op); exact hK)) | (refine ag_off (by rfl) (by rfl) (by rfl) (by rfl) ?_))
  clear hK K
  repeat (first | (refine ser_next (by rfl) (by rfl) (by rfl) (fun K hK => ?_); (first | go_big_move | go_big_op); refine hK _ ?_; clear hK K) | (refine ser_off (by rfl) (by rfl) ?_; simp only [Act.put, List.setIfInBounds_toArray, List.set_cons_zero, List.set_cons_succ]))
  refine ser_eff (by rfl) (by rfl) (fun K hK => ?_)
  go_big_op
  refine (clone_text v1 _ _ ts (r2.ext E1 (fun _ _ _ => not_no _)) n2).mono ?_
  rintro e v2 ⟨x2, rfl, f2, o2⟩
  obtain ⟨A2, C2, rfl, _⟩ := own_at o2
  replace o2 := ownsRow_lower o2 (show w.heap.size ≤ _ from E1.size)
  have E2 := E1.trans f2
  replace hb1 := f2.heap hb1 (not_no _)
  replace hb2 := f2.heap hb2 (not_no _)
  replace o1 := own_ext o1 f2 (fun _ _ => not_no _)
  clear k2 k3
  have k3 : v2.cell? ⟨w.heap.size, 3, none⟩ = some (.slice a3 ss.length c3) := by rw [cell_of_block hb1]; rfl
  refine hK _ _ ?_ ?_
  · repeat (first | exact ag_nil | (refine ag_cons (by rfl) (by rfl) (by rfl) (by rfl) (by rfl) (fun K hK => ?_) ?_; · ((first | go_big_move | go_big_op); exact hK)) | (refine ag_off (by rfl) (by rfl) (by rfl) (by rfl) ?_))
  clear hK K
  refine ser_eff (by rfl) (by rfl) (fun K hK => ?_)
  go_big_op
  refine (clone_special v2 _ _ ss (r3.ext E2 (fun _ _ _ => not_no _)) n3).mono ?_
  rintro e v3 ⟨x3, rfl, f3, o3⟩
  obtain ⟨A3, C3, rfl, _⟩ := own_at o3
  replace o3 := ownsRow_lower o3 (show w.heap.size ≤ _ from E2.size)
  have E3 := E2.trans f3
  replace hb1 := f3.heap hb1 (not_no _)
  replace hb2 := f3.heap hb2 (not_no _)
  replace o1 := own_ext o1 f3 (fun _ _ => not_no _)
  replace o2 := own_ext o2 f3 (fun _ _ => not_no _)
  clear k3
  refine hK _ _ ?_ ?_
  · repeat (first | exact ag_nil | (refine ag_cons (by rfl) (by rfl) (by rfl) (by rfl) (by rfl) (fun K hK => ?_) ?_; · ((first | go_big_move | go_big_op); exact hK)) | (refine ag_off (by rfl) (by rfl) (by rfl) (by rfl) ?_))
  clear hK K
  clear f1 f2 f3 E1 E2 e3
  have off : ∀ {u : World} {ty : TypeId} {size n : Nat} {x : Value} {xs : List Value} {c : Array Value}, u.heap[w.heap.size]? = some (.cells c 33 (0, 0)) → ty ≠ 33 → u.ownsRow w.heap.size ty size x n xs → ∀ (o : Nat) (y : Value), (u.setCell ⟨w.heap.size, o, none⟩ y).ownsRow w.heap.size ty size x n xs := by
    intro u ty size n x xs c hu hne ho o y
    refine own_ext ho ((Ext.refl (at1 w.heap.size) u).setCell (p := ⟨w.heap.size, o, none⟩) (fun _ => rfl) y) (fun k hk he => ?_)
    obtain ⟨⟨cur, hc⟩, _⟩ := own_row ho hk
    rw [he, hu] at hc; cases hc; exact hne rfl
  have lt2 : w.heap.size + 1 ≠ w.heap.size := by omega
  have k1 : v3.cell? ⟨w.heap.size, 1, none⟩ = some (.slice a1 ms.length c1) := by rw [cell_of_block hb1]; rfl
  have g1 := free_of_block hb1 1
  refine ser_eff (by rfl) (by rfl) (fun K hK => ?_)
  go_big_op
  replace o1 := off hb1 (by decide) o1 1 (.slice A1 ms.length C1)
  replace o2 := off hb1 (by decide) o2 1 (.slice A1 ms.length C1)
  replace o3 := off hb1 (by decide) o3 1 (.slice A1 ms.length C1)
  replace hb2 := (block_setCell_other (a := ⟨w.heap.size, 1, none⟩) (.slice A1 ms.length C1) lt2).trans hb2
  replace hb1 := block_setCell hb1 1 (.slice A1 ms.length C1)
  have E4 : Ext no w (v3.setCell ⟨w.heap.size, 1, none⟩ (.slice A1 ms.length C1)) := E3.setCell (p := ⟨w.heap.size, 1, none⟩) (fun h => absurd h (Nat.lt_irrefl _)) _
  generalize v3.setCell ⟨w.heap.size, 1, none⟩ (.slice A1 ms.length C1) = w4 at *
  clear k1 g1
  refine hK _ _ ag_nil ?_
  clear hK K
  repeat (first | (refine ser_next (by rfl) (by rfl) (by rfl) (fun K hK => ?_); (first | go_big_move | go_big_op); refine hK _ ?_; clear hK K) | (refine ser_off (by rfl) (by rfl) ?_; simp only [Act.put, List.setIfInBounds_toArray, List.set_cons_zero, List.set_cons_succ]))
  have k2 : w4.cell? ⟨w.heap.size, 2, none⟩ = some (.slice a2 ts.length c2) := by rw [cell_of_block hb1]; rfl
  have g2 := free_of_block hb1 2
  refine ser_eff (by rfl) (by rfl) (fun K hK => ?_)
  go_big_op
  replace o1 := off hb1 (by decide) o1 2 (.slice A2 ts.length C2)
  replace o2 := off hb1 (by decide) o2 2 (.slice A2 ts.length C2)
  replace o3 := off hb1 (by decide) o3 2 (.slice A2 ts.length C2)
  replace hb2 := (block_setCell_other (a := ⟨w.heap.size, 2, none⟩) (.slice A2 ts.length C2) lt2).trans hb2
  replace hb1 := block_setCell hb1 2 (.slice A2 ts.length C2)
  have E5 : Ext no w (w4.setCell ⟨w.heap.size, 2, none⟩ (.slice A2 ts.length C2)) := E4.setCell (p := ⟨w.heap.size, 2, none⟩) (fun h => absurd h (Nat.lt_irrefl _)) _
  generalize w4.setCell ⟨w.heap.size, 2, none⟩ (.slice A2 ts.length C2) = w5 at *
  clear k2 g2
  refine hK _ _ ag_nil ?_
  clear hK K
  repeat (first | (refine ser_next (by rfl) (by rfl) (by rfl) (fun K hK => ?_); (first | go_big_move | go_big_op); refine hK _ ?_; clear hK K) | (refine ser_off (by rfl) (by rfl) ?_; simp only [Act.put, List.setIfInBounds_toArray, List.set_cons_zero, List.set_cons_succ]))
  have k3 : w5.cell? ⟨w.heap.size, 3, none⟩ = some (.slice a3 ss.length c3) := by rw [cell_of_block hb1]; rfl
  have g3 := free_of_block hb1 3
  refine ser_eff (by rfl) (by rfl) (fun K hK => ?_)
  go_big_op
  replace o1 := off hb1 (by decide) o1 3 (.slice A3 ss.length C3)
  replace o2 := off hb1 (by decide) o2 3 (.slice A3 ss.length C3)
  replace o3 := off hb1 (by decide) o3 3 (.slice A3 ss.length C3)
  replace hb2 := (block_setCell_other (a := ⟨w.heap.size, 3, none⟩) (.slice A3 ss.length C3) lt2).trans hb2
  replace hb1 := block_setCell hb1 3 (.slice A3 ss.length C3)
  have E6 : Ext no w (w5.setCell ⟨w.heap.size, 3, none⟩ (.slice A3 ss.length C3)) := E5.setCell (p := ⟨w.heap.size, 3, none⟩) (fun h => absurd h (Nat.lt_irrefl _)) _
  generalize w5.setCell ⟨w.heap.size, 3, none⟩ (.slice A3 ss.length C3) = w6 at *
  clear k3 g3
  refine hK _ _ ag_nil ?_
  clear hK K
  refine ser_nil ?_
  go_wp2_with fail
  refine wp_region_ser [(0, false, []), (1, false, []), (3, false, []), (4, false, []), (2, true, [3, 4]), (6, false, []), (5, true, [6]), (7, true, []), (8, false, []), (9, true, [])] (by kernel_rfl) (by kernel_rfl) ?_
  have eu : Ext no w6 w6.drew := (Ext.refl no w6).drew
  have E7 := E6.trans eu
  replace hb1 := eu.heap hb1 (not_no _)
  replace hb2 := eu.heap hb2 (not_no _)
  replace o1 := own_ext o1 eu (fun _ _ => not_no _)
  replace o2 := own_ext o2 eu (fun _ _ => not_no _)
  replace o3 := own_ext o3 eu (fun _ _ => not_no _)
  clear E4 E5 E6
  generalize w6.drew = w7 at *
  clear eu
  have k4 : w7.cell? ⟨w.heap.size, 4, none⟩ = some (.slice a4 cs.length c4) := by rw [cell_of_block hb1]; rfl
  have k5 : w7.cell? ⟨w.heap.size, 5, none⟩ = some (.slice a5 js.length c5) := by rw [cell_of_block hb1]; rfl
  repeat (first | (refine ser_next (by rfl) (by rfl) (by rfl) (fun K hK => ?_); (first | go_big_move | go_big_op); refine hK _ ?_; clear hK K) | (refine ser_off (by rfl) (by rfl) ?_; simp only [Act.put, List.setIfInBounds_toArray, List.set_cons_zero, List.set_cons_succ]))
  refine ser_eff (by rfl) (by rfl) (fun K hK => ?_)
  go_big_op
  refine (clone_class w7 _ _ cs (r4.ext E7 (fun _ _ _ => not_no _)) n4).mono ?_
  rintro e w8 ⟨x4, rfl, f4, o4⟩
  obtain ⟨A4, C4, rfl, _⟩ := own_at o4
  replace o4 := ownsRow_lower o4 (show w.heap.size ≤ _ from E7.size)
  have E4 := E7.trans f4
  replace hb1 := f4.heap hb1 (not_no _)
  replace hb2 := f4.heap hb2 (not_no _)
  replace o1 := own_ext o1 f4 (fun _ _ => not_no _)
  replace o2 := own_ext o2 f4 (fun _ _ => not_no _)
  replace o3 := own_ext o3 f4 (fun _ _ => not_no _)
  have E8 := E4
  clear E4
  clear k4 k5
  have k5 : w8.cell? ⟨w.heap.size, 5, none⟩ = some (.slice a5 js.length c5) := by rw [cell_of_block hb1]; rfl
  refine hK _ _ ?_ ?_
  · repeat (first | exact ag_nil | (refine ag_cons (by rfl) (by rfl) (by rfl) (by rfl) (by rfl) (fun K hK => ?_) ?_; · ((first | go_big_move | go_big_op); exact hK)) | (refine ag_off (by rfl) (by rfl) (by rfl) (by rfl) ?_))
  clear hK K
  repeat (first | (refine ser_next (by rfl) (by rfl) (by rfl) (fun K hK => ?_); (first | go_big_move | go_big_op); refine hK _ ?_; clear hK K) | (refine ser_off (by rfl) (by rfl) ?_; simp only [Act.put, List.setIfInBounds_toArray, List.set_cons_zero, List.set_cons_succ]))
  refine ser_eff (by rfl) (by rfl) (fun K hK => ?_)
  go_big_op
  refine (clone_join w8 _ _ js (r5.ext E8 (fun _ _ _ => not_no _)) n5).mono ?_
  rintro e w9 ⟨x5, rfl, f5, o5⟩
  obtain ⟨A5, C5, rfl, _⟩ := own_at o5
  replace o5 := ownsRow_lower o5 (show w.heap.size ≤ _ from E8.size)
  have E9 := E8.trans f5
  replace hb1 := f5.heap hb1 (not_no _)
  replace hb2 := f5.heap hb2 (not_no _)
  replace o1 := own_ext o1 f5 (fun _ _ => not_no _)
  replace o2 := own_ext o2 f5 (fun _ _ => not_no _)
  replace o3 := own_ext o3 f5 (fun _ _ => not_no _)
  replace o4 := own_ext o4 f5 (fun _ _ => not_no _)
  clear k5
  refine hK _ _ ?_ ?_
  · repeat (first | exact ag_nil | (refine ag_cons (by rfl) (by rfl) (by rfl) (by rfl) (by rfl) (fun K hK => ?_) ?_; · ((first | go_big_move | go_big_op); exact hK)) | (refine ag_off (by rfl) (by rfl) (by rfl) (by rfl) ?_))
  clear hK K
  have k4 : w9.cell? ⟨w.heap.size, 4, none⟩ = some (.slice a4 cs.length c4) := by rw [cell_of_block hb1]; rfl
  have g4 := free_of_block hb1 4
  refine ser_eff (by rfl) (by rfl) (fun K hK => ?_)
  go_big_op
  replace o1 := off hb1 (by decide) o1 4 (.slice A4 cs.length C4)
  replace o2 := off hb1 (by decide) o2 4 (.slice A4 cs.length C4)
  replace o3 := off hb1 (by decide) o3 4 (.slice A4 cs.length C4)
  replace o4 := off hb1 (by decide) o4 4 (.slice A4 cs.length C4)
  replace o5 := off hb1 (by decide) o5 4 (.slice A4 cs.length C4)
  replace hb2 := (block_setCell_other (a := ⟨w.heap.size, 4, none⟩) (.slice A4 cs.length C4) lt2).trans hb2
  replace hb1 := block_setCell hb1 4 (.slice A4 cs.length C4)
  have E10 : Ext no w (w9.setCell ⟨w.heap.size, 4, none⟩ (.slice A4 cs.length C4)) := E9.setCell (p := ⟨w.heap.size, 4, none⟩) (fun h => absurd h (Nat.lt_irrefl _)) _
  generalize w9.setCell ⟨w.heap.size, 4, none⟩ (.slice A4 cs.length C4) = w10 at *
  clear k4 g4
  refine hK _ _ ag_nil ?_
  clear hK K
  repeat (first | (refine ser_next (by rfl) (by rfl) (by rfl) (fun K hK => ?_); (first | go_big_move | go_big_op); refine hK _ ?_; clear hK K) | (refine ser_off (by rfl) (by rfl) ?_; simp only [Act.put, List.setIfInBounds_toArray, List.set_cons_zero, List.set_cons_succ]))
  have k5 : w10.cell? ⟨w.heap.size, 5, none⟩ = some (.slice a5 js.length c5) := by rw [cell_of_block hb1]; rfl
  have g5 := free_of_block hb1 5
  refine ser_eff (by rfl) (by rfl) (fun K hK => ?_)
  go_big_op
  replace o1 := off hb1 (by decide) o1 5 (.slice A5 js.length C5)
  replace o2 := off hb1 (by decide) o2 5 (.slice A5 js.length C5)
  replace o3 := off hb1 (by decide) o3 5 (.slice A5 js.length C5)
  replace o4 := off hb1 (by decide) o4 5 (.slice A5 js.length C5)
  replace o5 := off hb1 (by decide) o5 5 (.slice A5 js.length C5)
  replace hb2 := (block_setCell_other (a := ⟨w.heap.size, 5, none⟩) (.slice A5 js.length C5) lt2).trans hb2
  replace hb1 := block_setCell hb1 5 (.slice A5 js.length C5)
  have E11 : Ext no w (w10.setCell ⟨w.heap.size, 5, none⟩ (.slice A5 js.length C5)) := E10.setCell (p := ⟨w.heap.size, 5, none⟩) (fun h => absurd h (Nat.lt_irrefl _)) _
  generalize w10.setCell ⟨w.heap.size, 5, none⟩ (.slice A5 js.length C5) = w11 at *
  clear k5 g5
  refine hK _ _ ag_nil ?_
  clear hK K
  refine ser_nil ?_
  have q0 : w11.cell? ⟨w.heap.size, 0, none⟩ = some (.bool rk) := by rw [cell_of_block hb1]; rfl
  have q1 : w11.cell? ⟨w.heap.size, 1, none⟩ = some (.slice A1 ms.length C1) := by rw [cell_of_block hb1]; rfl
  have q2 : w11.cell? ⟨w.heap.size, 2, none⟩ = some (.slice A2 ts.length C2) := by rw [cell_of_block hb1]; rfl
  have q3 : w11.cell? ⟨w.heap.size, 3, none⟩ = some (.slice A3 ss.length C3) := by rw [cell_of_block hb1]; rfl
  have q4 : w11.cell? ⟨w.heap.size, 4, none⟩ = some (.slice A4 cs.length C4) := by rw [cell_of_block hb1]; rfl
  have q5 : w11.cell? ⟨w.heap.size, 5, none⟩ = some (.slice A5 js.length C5) := by rw [cell_of_block hb1]; rfl
  have p0 : w11.cell? ⟨w.heap.size + 1, 0, none⟩ = some (.bool false) := by rw [cell_of_block hb2]; rfl
  have p1 : w11.cell? ⟨w.heap.size + 1, 1, none⟩ = some (.slice none 0 0) := by rw [cell_of_block hb2]; rfl
  have p2 : w11.cell? ⟨w.heap.size + 1, 2, none⟩ = some (.slice none 0 0) := by rw [cell_of_block hb2]; rfl
  have p3 : w11.cell? ⟨w.heap.size + 1, 3, none⟩ = some (.slice none 0 0) := by rw [cell_of_block hb2]; rfl
  have p4 : w11.cell? ⟨w.heap.size + 1, 4, none⟩ = some (.slice none 0 0) := by rw [cell_of_block hb2]; rfl
  have p5 : w11.cell? ⟨w.heap.size + 1, 5, none⟩ = some (.slice none 0 0) := by rw [cell_of_block hb2]; rfl
  have fz : ∀ o, w11.frozen? ⟨w.heap.size + 1, o, none⟩ = false := free_of_block hb2
  go_wp2
  have off2 : ∀ {u : World} {ty : TypeId} {size n : Nat} {x : Value} {xs : List Value} {c : Array Value}, u.heap[w.heap.size + 1]? = some (.cells c 33 (0, 0)) → ty ≠ 33 → u.ownsRow w.heap.size ty size x n xs → ∀ (o : Nat) (y : Value), (u.setCell ⟨w.heap.size + 1, o, none⟩ y).ownsRow w.heap.size ty size x n xs := by
    intro u ty size n x xs c hu hne ho o y
    refine own_ext ho ((Ext.refl (at1 (w.heap.size + 1)) u).setCell (p := ⟨w.heap.size + 1, o, none⟩) (fun _ => rfl) y) (fun k hk he => ?_)
    obtain ⟨⟨cur, hc⟩, _⟩ := own_row ho hk
    rw [he, hu] at hc; cases hc; exact hne rfl
  clear q0 q1 q2 q3 q4 q5 p0 p1 p2 p3 p4 p5 fz hb1
  replace o1 := off2 hb2 (by decide) o1 0 (.bool rk)
  replace o2 := off2 hb2 (by decide) o2 0 (.bool rk)
  replace o3 := off2 hb2 (by decide) o3 0 (.bool rk)
  replace o4 := off2 hb2 (by decide) o4 0 (.bool rk)
  replace o5 := off2 hb2 (by decide) o5 0 (.bool rk)
  replace hb2 := block_setCell hb2 0 (.bool rk)
  replace E11 := E11.setCell (p := ⟨w.heap.size + 1, 0, none⟩) (fun h => absurd (show w.heap.size + 1 < w.heap.size from h) (by omega)) (.bool rk)
  generalize w11.setCell ⟨w.heap.size + 1, 0, none⟩ (.bool rk) = y0 at *
  replace o1 := off2 hb2 (by decide) o1 1 (.slice A1 ms.length C1)
  replace o2 := off2 hb2 (by decide) o2 1 (.slice A1 ms.length C1)
  replace o3 := off2 hb2 (by decide) o3 1 (.slice A1 ms.length C1)
  replace o4 := off2 hb2 (by decide) o4 1 (.slice A1 ms.length C1)
  replace o5 := off2 hb2 (by decide) o5 1 (.slice A1 ms.length C1)
  replace hb2 := block_setCell hb2 1 (.slice A1 ms.length C1)
  replace E11 := E11.setCell (p := ⟨w.heap.size + 1, 1, none⟩) (fun h => absurd (show w.heap.size + 1 < w.heap.size from h) (by omega)) (.slice A1 ms.length C1)
  generalize y0.setCell ⟨w.heap.size + 1, 1, none⟩ (.slice A1 ms.length C1) = y1 at *
  replace o1 := off2 hb2 (by decide) o1 2 (.slice A2 ts.length C2)
  replace o2 := off2 hb2 (by decide) o2 2 (.slice A2 ts.length C2)
  replace o3 := off2 hb2 (by decide) o3 2 (.slice A2 ts.length C2)
  replace o4 := off2 hb2 (by decide) o4 2 (.slice A2 ts.length C2)
  replace o5 := off2 hb2 (by decide) o5 2 (.slice A2 ts.length C2)
  replace hb2 := block_setCell hb2 2 (.slice A2 ts.length C2)
  replace E11 := E11.setCell (p := ⟨w.heap.size + 1, 2, none⟩) (fun h => absurd (show w.heap.size + 1 < w.heap.size from h) (by omega)) (.slice A2 ts.length C2)
  generalize y1.setCell ⟨w.heap.size + 1, 2, none⟩ (.slice A2 ts.length C2) = y2 at *
  replace o1 := off2 hb2 (by decide) o1 3 (.slice A3 ss.length C3)
  replace o2 := off2 hb2 (by decide) o2 3 (.slice A3 ss.length C3)
  replace o3 := off2 hb2 (by decide) o3 3 (.slice A3 ss.length C3)
  replace o4 := off2 hb2 (by decide) o4 3 (.slice A3 ss.length C3)
  replace o5 := off2 hb2 (by decide) o5 3 (.slice A3 ss.length C3)
  replace hb2 := block_setCell hb2 3 (.slice A3 ss.length C3)
  replace E11 := E11.setCell (p := ⟨w.heap.size + 1, 3, none⟩) (fun h => absurd (show w.heap.size + 1 < w.heap.size from h) (by omega)) (.slice A3 ss.length C3)
  generalize y2.setCell ⟨w.heap.size + 1, 3, none⟩ (.slice A3 ss.length C3) = y3 at *
  replace o1 := off2 hb2 (by decide) o1 4 (.slice A4 cs.length C4)
  replace o2 := off2 hb2 (by decide) o2 4 (.slice A4 cs.length C4)
  replace o3 := off2 hb2 (by decide) o3 4 (.slice A4 cs.length C4)
  replace o4 := off2 hb2 (by decide) o4 4 (.slice A4 cs.length C4)
  replace o5 := off2 hb2 (by decide) o5 4 (.slice A4 cs.length C4)
  replace hb2 := block_setCell hb2 4 (.slice A4 cs.length C4)
  replace E11 := E11.setCell (p := ⟨w.heap.size + 1, 4, none⟩) (fun h => absurd (show w.heap.size + 1 < w.heap.size from h) (by omega)) (.slice A4 cs.length C4)
  generalize y3.setCell ⟨w.heap.size + 1, 4, none⟩ (.slice A4 cs.length C4) = y4 at *
  replace o1 := off2 hb2 (by decide) o1 5 (.slice A5 js.length C5)
  replace o2 := off2 hb2 (by decide) o2 5 (.slice A5 js.length C5)
  replace o3 := off2 hb2 (by decide) o3 5 (.slice A5 js.length C5)
  replace o4 := off2 hb2 (by decide) o4 5 (.slice A5 js.length C5)
  replace o5 := off2 hb2 (by decide) o5 5 (.slice A5 js.length C5)
  replace hb2 := block_setCell hb2 5 (.slice A5 js.length C5)
  replace E11 := E11.setCell (p := ⟨w.heap.size + 1, 5, none⟩) (fun h => absurd (show w.heap.size + 1 < w.heap.size from h) (by omega)) (.slice A5 js.length C5)
  generalize y4.setCell ⟨w.heap.size + 1, 5, none⟩ (.slice A5 js.length C5) = y5 at *
  have z0 : y5.cell? ⟨w.heap.size + 1, 0, none⟩ = some (.bool rk) := by rw [cell_of_block hb2]; rfl
  have z1 : y5.cell? ⟨w.heap.size + 1, 1, none⟩ = some (.slice A1 ms.length C1) := by rw [cell_of_block hb2]; rfl
  have z2 : y5.cell? ⟨w.heap.size + 1, 2, none⟩ = some (.slice A2 ts.length C2) := by rw [cell_of_block hb2]; rfl
  have z3 : y5.cell? ⟨w.heap.size + 1, 3, none⟩ = some (.slice A3 ss.length C3) := by rw [cell_of_block hb2]; rfl
  have z4 : y5.cell? ⟨w.heap.size + 1, 4, none⟩ = some (.slice A4 cs.length C4) := by rw [cell_of_block hb2]; rfl
  have z5 : y5.cell? ⟨w.heap.size + 1, 5, none⟩ = some (.slice A5 js.length C5) := by rw [cell_of_block hb2]; rfl
  refine bodyPost_ret (v := .agg #[(.bool rk), (.slice A1 ms.length C1), (.slice A2 ts.length C2), (.slice A3 ss.length C3), (.slice A4 cs.length C4), (.slice A5 js.length C5)]) (by simp [results, Tryz.results47, go_sem, z0, z1, z2, z3, z4, z5]) rfl ?_
  exact ⟨⟨A1, C1, A2, C2, A3, C3, A4, C4, A5, C5⟩, rfl, E11, ⟨o1, o2, o3, o4, o5⟩⟩
end Go.Proofs.YtiiaklaojlnokaaGreatDoor.B
