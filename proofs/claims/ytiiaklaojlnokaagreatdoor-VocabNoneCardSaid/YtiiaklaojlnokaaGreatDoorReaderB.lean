/- Package spec (seat ZD): the reader's methods: merge, class, join: contracts. -/
import Derived.Test.YtiiaklaojlnokaaGreatDoorReader
set_option linter.unusedVariables false
set_option linter.unusedSimpArgs false
namespace Go.Proofs.YtiiaklaojlnokaaGreatDoor.B
open Go Go.RowKit
set_option maxRecDepth 100000
set_option maxHeartbeats 1000000

def rdCells (p : SpecP) (S : SpecD) (kind : Int) : List Value := .bool S.ranked :: .slice p.a1 S.merges.length p.c1 :: .slice p.a2 S.tokens.length p.c2 :: .slice p.a3 S.specials.length p.c3 :: .slice p.a4 S.classes.length p.c4 :: .slice p.a5 S.joins.length p.c5 :: .int .i64 kind :: []
structure RdIn (B : Nat) (w : World) (r : Nat) (S : SpecD) (p : SpecP) (kind : Int) : Prop where
  hr : w.heap[r]? = some (.cells (rdCells p S kind).toArray 137 (0, 0))
  hs : SpecOwn B w S p
  rB : B ≤ r
theorem RdIn.keep {B : Nat} {w w' : World} {r : Nat} {S : SpecD} {p : SpecP} {kind : Int} (h : RdIn B w r S p kind) (e : Ext no w w') : RdIn B w' r S p kind := ⟨e.heap h.hr (not_no _), h.hs.keep e, h.rB⟩
theorem own_sep {w : World} {B1 B2 n1 n2 s1 s2 : Nat} {e1 e2 : TypeId} {v1 v2 : Value} {x1 x2 : List Value} (h1 : w.ownsRow B1 e1 s1 v1 n1 x1) (h2 : w.ownsRow B2 e2 s2 v2 n2 x2) (hne : e1 ≠ e2) : ∀ k, rowOf v1 k → ¬ rowOf v2 k := by
  intro k hk hk'
  obtain ⟨⟨c1, h1⟩, _⟩ := own_row h1 hk
  obtain ⟨⟨c2, h2⟩, _⟩ := own_row h2 hk'
  rw [h1] at h2; cases h2; exact hne rfl
theorem own_store {w : World} {B n s : Nat} {e t : TypeId} {v : Value} {xs : List Value} {r : Nat} {c : Array Value} (h : w.ownsRow B e s v n xs) (hr : w.heap[r]? = some (.cells c t (0, 0))) (hne : e ≠ t) (o : Nat) (y : Value) : (w.setCell ⟨r, o, none⟩ y).ownsRow B e s v n xs := by
  refine own_ext h ((Ext.refl (at1 r) w).setCell (p := ⟨r, o, none⟩) (fun _ => rfl) y) (fun k hk he => ?_)
  obtain ⟨⟨c2, h2⟩, _⟩ := own_row h hk
  rw [he, hr] at h2; cases h2; exact hne rfl
theorem numbersL_len : ∀ (l : List ByteArray) (acc xs : List Int), numbersL l acc = some xs → xs.length = acc.length + l.length
  | [], acc, xs, h => by cases h; rfl
  | s :: l, acc, xs, h => by
    unfold numbersL at h
    split at h
    · have := numbersL_len l _ xs h
      rw [this]; simp; omega
    · cases h
theorem numbersD_len {l : List ByteArray} {m : Nat} {xs : List Int} (h : numbersD l m = some xs) : xs.length = m := by
  unfold numbersD at h
  split at h
  · rename_i hl
    have := numbersL_len l [] xs h
    simp only [List.length_nil] at this
    omega
  · cases h
/-- Behind a method of the reader: the spec as it is then, or what it was, and false. -/
def RdPost (B : Nat) (w : World) (r : Nat) (S : SpecD) (p : SpecP) (kind : Int) (q : Option SpecD) (e : Ending) (w' : World) : Prop :=
  Below B w w' ∧ match q with
    | some S' => e = .returned (.bool true) ∧ ∃ p', RdIn B w' r S' p' kind
    | none => e = .returned (.bool false) ∧ RdIn B w' r S p kind
def of2 : Option (List Int) → Option (Int × Int)
  | some [x, y] => some (x, y)
  | _ => none
def of3 : Option (List Int) → Option (Int × Int × Int)
  | some [x, y, z] => some (x, y, z)
  | _ => none
theorem reader_merge (B : Nat) (w : World) (hS : Std w) (r : Nat) (S : SpecD) (p : SpecP) (kind : Int) (h : RdIn B w r S p kind) (hB : B ≤ w.heap.size) (hs : S.Small) (A : Option Addr) (c : Nat) (l : List ByteArray) (hR : RowAt w A (l.flatMap textC)) (hn : l.length ≤ 1048576) (hsz : ∀ x ∈ l, x.size ≤ 281474976710656) :
    Calls Tryz.prog 151 #[.pointer (some ⟨r, 0, none⟩), .slice A l.length c] w (RdPost B w r S p kind ((of2 (numbersD l 2)).map fun q => { S with merges := S.merges ++ [q] })) := by
  obtain ⟨rk, ms, ts, ss, cl, js⟩ := S
  obtain ⟨a1, c1, a2, c2, a3, c3, a4, c4, a5, c5⟩ := p
  obtain ⟨n1, n2, n3, n4, n5⟩ := hs
  simp only at n1 n2 n3 n4 n5
  go_enter Tryz.func151, Tryz.ntmps151
  go_wp2_with fail
  refine (spec_numbers w hS A c l hR hn hsz 2 (by omega)).mono ?_
  rintro e w1 ⟨hB1, hp⟩
  have e1 : Ext no w w1 := Below.toExt hB1 no
  have h1 := h.keep e1
  have BB1 : Below B w w1 := hB1.mono hB
  clear h hB1
  cases hnd : numbersD l 2 with
  | none =>
    rw [hnd] at hp
    obtain rfl := hp
    have HND := Lib.hid hnd
    clear hnd
    go_wp2
    go_ret
    rw [HND.out]
    exact ⟨BB1, rfl, h1⟩
  | some xs =>
    have hlen := numbersD_len hnd
    rw [hnd] at hp
    obtain ⟨v, rfl, hv⟩ := hp
    have HND := Lib.hid hnd
    clear hnd
    obtain ⟨x, y, rfl⟩ : ∃ x y, xs = [x, y] := by
      match xs, hlen with
      | [x, y], _ => exact ⟨x, y, rfl⟩
    clear hlen
    obtain ⟨g, cv, cur, he, hg, hh, _⟩ := hv.2.resolve_left (fun h => absurd h.2 (by simp))
    subst he
    have hcv := hv.cells (g := g) rfl
    have add : ∀ i, (⟨g, 0, none⟩ : Addr).add i = ⟨g, i, none⟩ := fun i => by unfold Addr.add; split <;> simp_all
    go_wp2_with fail
    refine wp_region_ser [(0, false, []), (1, false, []), (2, false, []), (3, false, []), (4, false, []), (5, false, []), (6, false, []), (7, false, []), (8, false, []), (9, false, []), (10, false, []), (11, false, []), (12, false, []), (13, true, [0, 1, 2, 3, 4, 5]), (14, true, [0]), (15, false, []), (16, false, []), (17, false, []), (18, true, [])] (by kernel_rfl) (by kernel_rfl) ?_
    have eu : Ext no w1 w1.drew := (Ext.refl no w1).drew
    have h2 := h1.keep eu
    have BB2 : Below B w w1.drew := BB1.drew
    have hcv2 := fun i u hu => eu.cell (hcv i u hu) (not_no _)
    generalize w1.drew = w2 at *
    clear h1 BB1 eu hcv
    have x0 := hcv2 0 _ rfl
    have x1 := hcv2 1 _ rfl
    have triv : True := trivial
    simp only [add] at x0 x1
    clear hcv2
    obtain ⟨hrd, ho, rB⟩ := h2
    obtain ⟨o1, o2, o3, o4, o5⟩ := ho
    simp only at o1 o2 o3 o4 o5
    have k0 : w2.cell? ⟨r, 1, none⟩ = some (.slice a1 ms.length c1) := by rw [cell_of_block hrd]; rfl
    have B2 := Nat.le_trans hB BB2.size
    repeat (first | (refine ser_next (by rfl) (by rfl) (by rfl) (fun K hK => ?_); (first | go_big_move | go_big_op); refine hK _ ?_; clear hK K) | (refine ser_off (by rfl) (by rfl) ?_; simp only [Act.put, List.setIfInBounds_toArray, List.set_cons_zero, List.set_cons_succ]))
    refine ser_eff (by rfl) (by rfl) (fun K hK => ?_)
    go_big_op
    generalize hw3 : w2.alloc (.cells #[.int .i64 x, .int .i64 y] 54) = w3
    have e3 : Ext no w2 w3 := by rw [← hw3]; exact (Ext.refl _ _).alloc _
    have y0 := e3.cell x0 (not_no _)
    have y1 := e3.cell x1 (not_no _)
    clear triv
    have z0 := e3.cell k0 (not_no _)
    clear x0 x1 k0
    refine hK _ _ ?_ ?_
    · repeat (first | exact ag_nil | (refine ag_cons (by rfl) (by rfl) (by rfl) (by rfl) (by rfl) (fun K hK => ?_) ?_; · ((first | go_big_move | go_big_op); exact hK)) | (refine ag_off (by rfl) (by rfl) (by rfl) (by rfl) ?_))
    clear hK K
    refine ser_eff (by rfl) (by rfl) (fun K hK => ?_)
    subst hw3
    refine wp_append1 rfl _ _ _ rfl B 54 Tryz.underlying27 i_merge rfl (by decide) _ _ _ rfl o1 #[.int .i64 x, .int .i64 y] rfl rfl (by simp [Value.oneCell']) (by unfold maxLen; omega) (by omega) B2 ?_
    intro g4 cap w4 hown e4 hwh hlt
    clear y0 y1 z0 e3
    have hrn : ¬ rowOf (.slice a1 ms.length c1) r := fun hk => by
      obtain ⟨⟨c2, hc2⟩, _⟩ := own_row o1 hk
      rw [hrd] at hc2; cases hc2
    have hr4 := e4.heap hrd hrn
    have ow2 := own_ext o2 e4 (fun k hk => own_sep o2 o1 (by decide) k hk)
    have ow3 := own_ext o3 e4 (fun k hk => own_sep o3 o1 (by decide) k hk)
    have ow4 := own_ext o4 e4 (fun k hk => own_sep o4 o1 (by decide) k hk)
    have ow5 := own_ext o5 e4 (fun k hk => own_sep o5 o1 (by decide) k hk)
    have BB4 := BB2.trans (e4.below B2 (fun k hk => (own_row o1 hk).2))
    have z0 : w4.cell? ⟨r, 1, none⟩ = some (.slice a1 ms.length c1) := by rw [cell_of_block hr4]; rfl
    have f0 := free_of_block hr4 1
    simp only [Act.put, List.setIfInBounds_toArray, List.set_cons_zero, List.set_cons_succ]
    refine hK _ _ ?_ ?_
    · repeat (first | exact ag_nil | (refine ag_cons (by rfl) (by rfl) (by rfl) (by rfl) (by rfl) (fun K hK => ?_) ?_; · ((first | go_big_move | go_big_op); exact hK)) | (refine ag_off (by rfl) (by rfl) (by rfl) (by rfl) ?_))
    clear hK K
    repeat (first | (refine ser_next (by rfl) (by rfl) (by rfl) (fun K hK => ?_); (first | go_big_move | go_big_op); refine hK _ ?_; clear hK K) | (refine ser_off (by rfl) (by rfl) ?_; simp only [Act.put, List.setIfInBounds_toArray, List.set_cons_zero, List.set_cons_succ]))
    refine ser_eff (by rfl) (by rfl) (fun K hK => ?_)
    go_big_op
    have u1 := own_store hown hr4 (by decide) 1 (.slice (some ⟨g4, 0, none⟩) (ms.length + 1) cap)
    have u2 := own_store ow2 hr4 (by decide) 1 (.slice (some ⟨g4, 0, none⟩) (ms.length + 1) cap)
    have u3 := own_store ow3 hr4 (by decide) 1 (.slice (some ⟨g4, 0, none⟩) (ms.length + 1) cap)
    have u4 := own_store ow4 hr4 (by decide) 1 (.slice (some ⟨g4, 0, none⟩) (ms.length + 1) cap)
    have u5 := own_store ow5 hr4 (by decide) 1 (.slice (some ⟨g4, 0, none⟩) (ms.length + 1) cap)
    have hr5 := block_setCell hr4 1 (.slice (some ⟨g4, 0, none⟩) (ms.length + 1) cap)
    have BB5 := BB4.setCell (p := ⟨r, 1, none⟩) rB (.slice (some ⟨g4, 0, none⟩) (ms.length + 1) cap)
    generalize w4.setCell ⟨r, 1, none⟩ (.slice (some ⟨g4, 0, none⟩) (ms.length + 1) cap) = w5 at *
    refine hK _ _ ag_nil ?_
    clear hK K
    refine ser_nil ?_
    clear z0 f0
    go_wp2
    go_ret
    rw [HND.out]
    refine ⟨BB5, rfl, ⟨some ⟨g4, 0, none⟩, cap, a2, c2, a3, c3, a4, c4, a5, c5⟩, ?_, ⟨?_, u2, u3, u4, u5⟩, rB⟩
    · rw [hr5]
      simp only [rdCells, List.length_append, List.length_singleton]
      rfl
    all_goals first | assumption | (simp only [List.flatMap_append, List.length_append, List.length_singleton]; assumption)
theorem reader_class (B : Nat) (w : World) (hS : Std w) (r : Nat) (S : SpecD) (p : SpecP) (kind : Int) (h : RdIn B w r S p kind) (hB : B ≤ w.heap.size) (hs : S.Small) (A : Option Addr) (c : Nat) (l : List ByteArray) (hR : RowAt w A (l.flatMap textC)) (hn : l.length ≤ 1048576) (hsz : ∀ x ∈ l, x.size ≤ 281474976710656) :
    Calls Tryz.prog 154 #[.pointer (some ⟨r, 0, none⟩), .slice A l.length c] w (RdPost B w r S p kind ((of3 (numbersD l 3)).map fun q => { S with classes := S.classes ++ [q] })) := by
  obtain ⟨rk, ms, ts, ss, cl, js⟩ := S
  obtain ⟨a1, c1, a2, c2, a3, c3, a4, c4, a5, c5⟩ := p
  obtain ⟨n1, n2, n3, n4, n5⟩ := hs
  simp only at n1 n2 n3 n4 n5
  go_enter Tryz.func154, Tryz.ntmps154
  go_wp2_with fail
  refine (spec_numbers w hS A c l hR hn hsz 3 (by omega)).mono ?_
  rintro e w1 ⟨hB1, hp⟩
  have e1 : Ext no w w1 := Below.toExt hB1 no
  have h1 := h.keep e1
  have BB1 : Below B w w1 := hB1.mono hB
  clear h hB1
  cases hnd : numbersD l 3 with
  | none =>
    rw [hnd] at hp
    obtain rfl := hp
    have HND := Lib.hid hnd
    clear hnd
    go_wp2
    go_ret
    rw [HND.out]
    exact ⟨BB1, rfl, h1⟩
  | some xs =>
    have hlen := numbersD_len hnd
    rw [hnd] at hp
    obtain ⟨v, rfl, hv⟩ := hp
    have HND := Lib.hid hnd
    clear hnd
    obtain ⟨x, y, z, rfl⟩ : ∃ x y z, xs = [x, y, z] := by
      match xs, hlen with
      | [x, y, z], _ => exact ⟨x, y, z, rfl⟩
    clear hlen
    obtain ⟨g, cv, cur, he, hg, hh, _⟩ := hv.2.resolve_left (fun h => absurd h.2 (by simp))
    subst he
    have hcv := hv.cells (g := g) rfl
    have add : ∀ i, (⟨g, 0, none⟩ : Addr).add i = ⟨g, i, none⟩ := fun i => by unfold Addr.add; split <;> simp_all
    go_wp2_with fail
    refine wp_region_ser [(0, false, []), (1, false, []), (2, false, []), (3, false, []), (4, false, []), (5, false, []), (6, false, []), (7, false, []), (8, false, []), (9, false, []), (10, false, []), (11, false, []), (12, false, []), (13, false, []), (14, false, []), (15, false, []), (16, true, [0, 1, 2, 3, 4, 5]), (17, true, [0]), (18, false, []), (19, false, []), (20, false, []), (21, true, [])] (by kernel_rfl) (by kernel_rfl) ?_
    have eu : Ext no w1 w1.drew := (Ext.refl no w1).drew
    have h2 := h1.keep eu
    have BB2 : Below B w w1.drew := BB1.drew
    have hcv2 := fun i u hu => eu.cell (hcv i u hu) (not_no _)
    generalize w1.drew = w2 at *
    clear h1 BB1 eu hcv
    have x0 := hcv2 0 _ rfl
    have x1 := hcv2 1 _ rfl
    have x2 := hcv2 2 _ rfl
    rw [add] at x2
    simp only [add] at x0 x1
    clear hcv2
    obtain ⟨hrd, ho, rB⟩ := h2
    obtain ⟨o1, o2, o3, o4, o5⟩ := ho
    simp only at o1 o2 o3 o4 o5
    have k0 : w2.cell? ⟨r, 4, none⟩ = some (.slice a4 cl.length c4) := by rw [cell_of_block hrd]; rfl
    have B2 := Nat.le_trans hB BB2.size
    repeat (first | (refine ser_next (by rfl) (by rfl) (by rfl) (fun K hK => ?_); (first | go_big_move | go_big_op); refine hK _ ?_; clear hK K) | (refine ser_off (by rfl) (by rfl) ?_; simp only [Act.put, List.setIfInBounds_toArray, List.set_cons_zero, List.set_cons_succ]))
    refine ser_eff (by rfl) (by rfl) (fun K hK => ?_)
    go_big_op
    generalize hw3 : w2.alloc (.cells #[.int .i64 x, .int .i64 y, .int .i64 z] 58) = w3
    have e3 : Ext no w2 w3 := by rw [← hw3]; exact (Ext.refl _ _).alloc _
    have y0 := e3.cell x0 (not_no _)
    have y1 := e3.cell x1 (not_no _)
    have y2 := e3.cell x2 (not_no _)
    clear x2
    have z0 := e3.cell k0 (not_no _)
    clear x0 x1 k0
    refine hK _ _ ?_ ?_
    · repeat (first | exact ag_nil | (refine ag_cons (by rfl) (by rfl) (by rfl) (by rfl) (by rfl) (fun K hK => ?_) ?_; · ((first | go_big_move | go_big_op); exact hK)) | (refine ag_off (by rfl) (by rfl) (by rfl) (by rfl) ?_))
    clear hK K
    refine ser_eff (by rfl) (by rfl) (fun K hK => ?_)
    subst hw3
    refine wp_append1 rfl _ _ _ rfl B 58 Tryz.underlying30 i_class rfl (by decide) _ _ _ rfl o4 #[.int .i64 x, .int .i64 y, .int .i64 z] rfl rfl (by simp [Value.oneCell']) (by unfold maxLen; omega) (by omega) B2 ?_
    intro g4 cap w4 hown e4 hwh hlt
    clear y0 y1 z0 e3
    have hrn : ¬ rowOf (.slice a4 cl.length c4) r := fun hk => by
      obtain ⟨⟨c2, hc2⟩, _⟩ := own_row o4 hk
      rw [hrd] at hc2; cases hc2
    have hr4 := e4.heap hrd hrn
    have ow1 := own_ext o1 e4 (fun k hk => own_sep o1 o4 (by decide) k hk)
    have ow2 := own_ext o2 e4 (fun k hk => own_sep o2 o4 (by decide) k hk)
    have ow3 := own_ext o3 e4 (fun k hk => own_sep o3 o4 (by decide) k hk)
    have ow5 := own_ext o5 e4 (fun k hk => own_sep o5 o4 (by decide) k hk)
    have BB4 := BB2.trans (e4.below B2 (fun k hk => (own_row o4 hk).2))
    have z0 : w4.cell? ⟨r, 4, none⟩ = some (.slice a4 cl.length c4) := by rw [cell_of_block hr4]; rfl
    have f0 := free_of_block hr4 4
    simp only [Act.put, List.setIfInBounds_toArray, List.set_cons_zero, List.set_cons_succ]
    refine hK _ _ ?_ ?_
    · repeat (first | exact ag_nil | (refine ag_cons (by rfl) (by rfl) (by rfl) (by rfl) (by rfl) (fun K hK => ?_) ?_; · ((first | go_big_move | go_big_op); exact hK)) | (refine ag_off (by rfl) (by rfl) (by rfl) (by rfl) ?_))
    clear hK K
    repeat (first | (refine ser_next (by rfl) (by rfl) (by rfl) (fun K hK => ?_); (first | go_big_move | go_big_op); refine hK _ ?_; clear hK K) | (refine ser_off (by rfl) (by rfl) ?_; simp only [Act.put, List.setIfInBounds_toArray, List.set_cons_zero, List.set_cons_succ]))
    refine ser_eff (by rfl) (by rfl) (fun K hK => ?_)
    go_big_op
    have u4 := own_store hown hr4 (by decide) 4 (.slice (some ⟨g4, 0, none⟩) (cl.length + 1) cap)
    have u1 := own_store ow1 hr4 (by decide) 4 (.slice (some ⟨g4, 0, none⟩) (cl.length + 1) cap)
    have u2 := own_store ow2 hr4 (by decide) 4 (.slice (some ⟨g4, 0, none⟩) (cl.length + 1) cap)
    have u3 := own_store ow3 hr4 (by decide) 4 (.slice (some ⟨g4, 0, none⟩) (cl.length + 1) cap)
    have u5 := own_store ow5 hr4 (by decide) 4 (.slice (some ⟨g4, 0, none⟩) (cl.length + 1) cap)
    have hr5 := block_setCell hr4 4 (.slice (some ⟨g4, 0, none⟩) (cl.length + 1) cap)
    have BB5 := BB4.setCell (p := ⟨r, 4, none⟩) rB (.slice (some ⟨g4, 0, none⟩) (cl.length + 1) cap)
    generalize w4.setCell ⟨r, 4, none⟩ (.slice (some ⟨g4, 0, none⟩) (cl.length + 1) cap) = w5 at *
    refine hK _ _ ag_nil ?_
    clear hK K
    refine ser_nil ?_
    clear z0 f0
    go_wp2
    go_ret
    rw [HND.out]
    refine ⟨BB5, rfl, ⟨a1, c1, a2, c2, a3, c3, some ⟨g4, 0, none⟩, cap, a5, c5⟩, ?_, ⟨u1, u2, u3, ?_, u5⟩, rB⟩
    · rw [hr5]
      simp only [rdCells, List.length_append, List.length_singleton]
      rfl
    all_goals first | assumption | (simp only [List.flatMap_append, List.length_append, List.length_singleton]; assumption)
theorem reader_join (B : Nat) (w : World) (hS : Std w) (r : Nat) (S : SpecD) (p : SpecP) (kind : Int) (h : RdIn B w r S p kind) (hB : B ≤ w.heap.size) (hs : S.Small) (A : Option Addr) (c : Nat) (l : List ByteArray) (hR : RowAt w A (l.flatMap textC)) (hn : l.length ≤ 1048576) (hsz : ∀ x ∈ l, x.size ≤ 281474976710656) :
    Calls Tryz.prog 155 #[.pointer (some ⟨r, 0, none⟩), .slice A l.length c] w (RdPost B w r S p kind ((of2 (numbersD l 2)).map fun q => { S with joins := S.joins ++ [q] })) := by
  obtain ⟨rk, ms, ts, ss, cl, js⟩ := S
  obtain ⟨a1, c1, a2, c2, a3, c3, a4, c4, a5, c5⟩ := p
  obtain ⟨n1, n2, n3, n4, n5⟩ := hs
  simp only at n1 n2 n3 n4 n5
  go_enter Tryz.func155, Tryz.ntmps155
  go_wp2_with fail
  refine (spec_numbers w hS A c l hR hn hsz 2 (by omega)).mono ?_
  rintro e w1 ⟨hB1, hp⟩
  have e1 : Ext no w w1 := Below.toExt hB1 no
  have h1 := h.keep e1
  have BB1 : Below B w w1 := hB1.mono hB
  clear h hB1
  cases hnd : numbersD l 2 with
  | none =>
    rw [hnd] at hp
    obtain rfl := hp
    have HND := Lib.hid hnd
    clear hnd
    go_wp2
    go_ret
    rw [HND.out]
    exact ⟨BB1, rfl, h1⟩
  | some xs =>
    have hlen := numbersD_len hnd
    rw [hnd] at hp
    obtain ⟨v, rfl, hv⟩ := hp
    have HND := Lib.hid hnd
    clear hnd
    obtain ⟨x, y, rfl⟩ : ∃ x y, xs = [x, y] := by
      match xs, hlen with
      | [x, y], _ => exact ⟨x, y, rfl⟩
    clear hlen
    obtain ⟨g, cv, cur, he, hg, hh, _⟩ := hv.2.resolve_left (fun h => absurd h.2 (by simp))
    subst he
    have hcv := hv.cells (g := g) rfl
    have add : ∀ i, (⟨g, 0, none⟩ : Addr).add i = ⟨g, i, none⟩ := fun i => by unfold Addr.add; split <;> simp_all
    go_wp2_with fail
    refine wp_region_ser [(0, false, []), (1, false, []), (2, false, []), (3, false, []), (4, false, []), (5, false, []), (6, false, []), (7, false, []), (8, false, []), (9, false, []), (10, false, []), (11, false, []), (12, false, []), (13, true, [0, 1, 2, 3, 4, 5]), (14, true, [0]), (15, false, []), (16, false, []), (17, false, []), (18, true, [])] (by kernel_rfl) (by kernel_rfl) ?_
    have eu : Ext no w1 w1.drew := (Ext.refl no w1).drew
    have h2 := h1.keep eu
    have BB2 : Below B w w1.drew := BB1.drew
    have hcv2 := fun i u hu => eu.cell (hcv i u hu) (not_no _)
    generalize w1.drew = w2 at *
    clear h1 BB1 eu hcv
    have x0 := hcv2 0 _ rfl
    have x1 := hcv2 1 _ rfl
    have triv : True := trivial
    simp only [add] at x0 x1
    clear hcv2
    obtain ⟨hrd, ho, rB⟩ := h2
    obtain ⟨o1, o2, o3, o4, o5⟩ := ho
    simp only at o1 o2 o3 o4 o5
    have k0 : w2.cell? ⟨r, 5, none⟩ = some (.slice a5 js.length c5) := by rw [cell_of_block hrd]; rfl
    have B2 := Nat.le_trans hB BB2.size
    repeat (first | (refine ser_next (by rfl) (by rfl) (by rfl) (fun K hK => ?_); (first | go_big_move | go_big_op); refine hK _ ?_; clear hK K) | (refine ser_off (by rfl) (by rfl) ?_; simp only [Act.put, List.setIfInBounds_toArray, List.set_cons_zero, List.set_cons_succ]))
    refine ser_eff (by rfl) (by rfl) (fun K hK => ?_)
    go_big_op
    generalize hw3 : w2.alloc (.cells #[.int .i64 x, .int .i64 y] 87) = w3
    have e3 : Ext no w2 w3 := by rw [← hw3]; exact (Ext.refl _ _).alloc _
    have y0 := e3.cell x0 (not_no _)
    have y1 := e3.cell x1 (not_no _)
    clear triv
    have z0 := e3.cell k0 (not_no _)
    clear x0 x1 k0
    refine hK _ _ ?_ ?_
    · repeat (first | exact ag_nil | (refine ag_cons (by rfl) (by rfl) (by rfl) (by rfl) (by rfl) (fun K hK => ?_) ?_; · ((first | go_big_move | go_big_op); exact hK)) | (refine ag_off (by rfl) (by rfl) (by rfl) (by rfl) ?_))
    clear hK K
    refine ser_eff (by rfl) (by rfl) (fun K hK => ?_)
    subst hw3
    refine wp_append1 rfl _ _ _ rfl B 87 Tryz.underlying31 i_join rfl (by decide) _ _ _ rfl o5 #[.int .i64 x, .int .i64 y] rfl rfl (by simp [Value.oneCell']) (by unfold maxLen; omega) (by omega) B2 ?_
    intro g4 cap w4 hown e4 hwh hlt
    clear y0 y1 z0 e3
    have hrn : ¬ rowOf (.slice a5 js.length c5) r := fun hk => by
      obtain ⟨⟨c2, hc2⟩, _⟩ := own_row o5 hk
      rw [hrd] at hc2; cases hc2
    have hr4 := e4.heap hrd hrn
    have ow1 := own_ext o1 e4 (fun k hk => own_sep o1 o5 (by decide) k hk)
    have ow2 := own_ext o2 e4 (fun k hk => own_sep o2 o5 (by decide) k hk)
    have ow3 := own_ext o3 e4 (fun k hk => own_sep o3 o5 (by decide) k hk)
    have ow4 := own_ext o4 e4 (fun k hk => own_sep o4 o5 (by decide) k hk)
    have BB4 := BB2.trans (e4.below B2 (fun k hk => (own_row o5 hk).2))
    have z0 : w4.cell? ⟨r, 5, none⟩ = some (.slice a5 js.length c5) := by rw [cell_of_block hr4]; rfl
    have f0 := free_of_block hr4 5
    simp only [Act.put, List.setIfInBounds_toArray, List.set_cons_zero, List.set_cons_succ]
    refine hK _ _ ?_ ?_
    · repeat (first | exact ag_nil | (refine ag_cons (by rfl) (by rfl) (by rfl) (by rfl) (by rfl) (fun K hK => ?_) ?_; · ((first | go_big_move | go_big_op); exact hK)) | (refine ag_off (by rfl) (by rfl) (by rfl) (by rfl) ?_))
    clear hK K
    repeat (first | (refine ser_next (by rfl) (by rfl) (by rfl) (fun K hK => ?_); (first | go_big_move | go_big_op); refine hK _ ?_; clear hK K) | (refine ser_off (by rfl) (by rfl) ?_; simp only [Act.put, List.setIfInBounds_toArray, List.set_cons_zero, List.set_cons_succ]))
    refine ser_eff (by rfl) (by rfl) (fun K hK => ?_)
    go_big_op
    have u5 := own_store hown hr4 (by decide) 5 (.slice (some ⟨g4, 0, none⟩) (js.length + 1) cap)
    have u1 := own_store ow1 hr4 (by decide) 5 (.slice (some ⟨g4, 0, none⟩) (js.length + 1) cap)
    have u2 := own_store ow2 hr4 (by decide) 5 (.slice (some ⟨g4, 0, none⟩) (js.length + 1) cap)
    have u3 := own_store ow3 hr4 (by decide) 5 (.slice (some ⟨g4, 0, none⟩) (js.length + 1) cap)
    have u4 := own_store ow4 hr4 (by decide) 5 (.slice (some ⟨g4, 0, none⟩) (js.length + 1) cap)
    have hr5 := block_setCell hr4 5 (.slice (some ⟨g4, 0, none⟩) (js.length + 1) cap)
    have BB5 := BB4.setCell (p := ⟨r, 5, none⟩) rB (.slice (some ⟨g4, 0, none⟩) (js.length + 1) cap)
    generalize w4.setCell ⟨r, 5, none⟩ (.slice (some ⟨g4, 0, none⟩) (js.length + 1) cap) = w5 at *
    refine hK _ _ ag_nil ?_
    clear hK K
    refine ser_nil ?_
    clear z0 f0
    go_wp2
    go_ret
    rw [HND.out]
    refine ⟨BB5, rfl, ⟨a1, c1, a2, c2, a3, c3, a4, c4, some ⟨g4, 0, none⟩, cap⟩, ?_, ⟨u1, u2, u3, u4, ?_⟩, rB⟩
    · rw [hr5]
      simp only [rdCells, List.length_append, List.length_singleton]
      rfl
    all_goals first | assumption | (simp only [List.flatMap_append, List.length_append, List.length_singleton]; assumption)
end Go.Proofs.YtiiaklaojlnokaaGreatDoor.B
