/- Package token: Add, begin, New: contracts, for every table and every world. -/
import Derived.Test.YtiiaklaojlnokaaGreatDoorTok
set_option linter.unusedVariables false
set_option linter.unusedSimpArgs false
namespace Go.Proofs.YtiiaklaojlnokaaGreatDoor.B
open Go Go.RowKit

def Tab.bts (T : Tab) (i : Int) : ByteArray := ((T.es[i.toNat]?).map (·.b)).getD ByteArray.empty
/-- What Add does: the table behind it, the number, the error. -/
def Tab.add (T : Tab) (x y : Int) : Tab × Int × Int :=
  if !(hasB T.es.length x) || !(hasB T.es.length y) then (T, 0, 4)
  else if (T.bts x ++ T.bts y).size > 64 then (T, 0, 3)
  else if T.es.length ≥ 1000 then (T, 0, 5)
  else if (mget T.bm (T.bts x ++ T.bts y)).isSome then (T, 0, 10)
  else ({ es := T.es ++ [⟨T.bts x ++ T.bts y, x, y⟩], bm := mput T.bm (T.bts x ++ T.bts y) T.es.length, pm := mput T.pm (x, y) T.es.length, longest := max T.longest (T.bts x ++ T.bts y).size }, T.es.length, 0)

set_option maxHeartbeats 1000000
set_option maxRecDepth 100000
theorem tab_add_ok {B : Nat} {w : World} {t : Nat} {T : Tab} (h : TabAt B w t T) (hB : B ≤ w.heap.size) (x y : Int) (ex ey : Entry) (hx : hasB T.es.length x = true) (hy : hasB T.es.length y = true) (hex : T.es[x.toNat]? = some ex) (hey : T.es[y.toNat]? = some ey)
    (hs : ex.b.size + ey.b.size ≤ 64) (hn : T.es.length < 1000) (hg : mget T.bm (ex.b ++ ey.b) = none) :
    Calls Tryz.prog 157 #[.pointer (some ⟨t, 0, none⟩), pairV (x, y)] w fun e w' => e = .returned (.tuple #[.int .i64 T.es.length, .int .i64 0]) ∧ Below B w w' ∧
      TabAt B w' t { es := T.es ++ [⟨ex.b ++ ey.b, x, y⟩], bm := mput T.bm (ex.b ++ ey.b) T.es.length, pm := mput T.pm (x, y) T.es.length, longest := max T.longest (ex.b ++ ey.b).size } := by
  obtain ⟨hx0, hx1⟩ := hasB_of hx
  obtain ⟨hy0, hy1⟩ := hasB_of hy
  obtain ⟨v, bm, pm, hI⟩ := h
  obtain ⟨g, c, rfl, sx, _, _⟩ := hI.entry hex
  obtain ⟨g', c', hv', sy, _, _⟩ := hI.entry hey
  cases hv'
  have HX := Lib.hid hx; clear hx
  have HY := Lib.hid hy; clear hy
  have HG := Lib.hid hg; clear hg
  unfold pairV
  go_enter Tryz.func157, Tryz.ntmps157
  go_wp2_with fail
  generalize hw1 : w.alloc (.cells #[.int .i64 x, .int .i64 y] 54) = w1
  have e1 : Ext no w w1 := by rw [← hw1]; exact (Ext.refl _ _).alloc _
  have hm1 : w1.heap[w.heap.size]? = some (.cells #[.int .i64 x, .int .i64 y] 54 (0, 0)) := by rw [← hw1]; exact block_new _ _
  have hI1 : TabIn B w1 t T (.slice (some ⟨g, 0, none⟩) T.es.length c) bm pm := hI.ext e1 (fun _ hs => absurd hs (not_no _))
  have sx1 := e1.cell sx (not_no _)
  have sy1 := e1.cell sy (not_no _)
  have c0 := hI1.c0
  have c1 := hI1.c1
  have m0 : w1.cell? ⟨w.heap.size, 0, none⟩ = some (.int .i64 x) := by rw [cell_of_block hm1]; rfl
  have m1 : w1.cell? ⟨w.heap.size, 1, none⟩ = some (.int .i64 y) := by rw [cell_of_block hm1]; rfl
  clear sx sy hw1
  refine (tab_has ⟨_, _, _, hI1⟩ _).mono ?_
  rintro e w' ⟨rfl, rfl⟩
  rw [HX.out]
  go_wp2_with fail
  refine (tab_has ⟨_, _, _, hI1⟩ _).mono ?_
  rintro e w' ⟨rfl, rfl⟩
  rw [HY.out]
  go_wp2_with fail
  go_quiet (fail)
  go_wp2_with (at_lookup; refine wpList_lookup_none rfl _ _ _ _ rfl k_str Tryz.underlying176 (hI1.hb.ext ((Ext.refl no _).drewN _) (not_no _)) (z_int _) (ex.b ++ ey.b) rfl rfl HG.out ?_)
  refine wp_region_ser [(0, false, []), (1, false, []), (2, false, []), (3, false, []), (4, false, []), (5, false, []), (6, false, []), (7, false, []), (8, true, [0, 1, 2, 3, 4]), (9, true, [0]), (10, false, []), (11, false, []), (12, true, [])] (by kernel_rfl) (by kernel_rfl) ?_
  generalize hw2 : (w1.drewN _).drew = w2
  have e2 : Ext no w1 w2 := by rw [← hw2]; exact ((Ext.refl _ _).drewN _).drew
  have hI2 := hI1.ext e2 (fun _ hs => absurd hs (not_no _))
  have hm2 := e2.heap hm1 (not_no _)
  clear hw2 c0 c1 m0 m1 sx1 sy1 hm1 hI1
  have c0 := hI2.c0
  have m0 : w2.cell? ⟨w.heap.size, 0, none⟩ = some (.int .i64 x) := by rw [cell_of_block hm2]; rfl
  have m1 : w2.cell? ⟨w.heap.size, 1, none⟩ = some (.int .i64 y) := by rw [cell_of_block hm2]; rfl
  repeat (first | (refine ser_next (by rfl) (by rfl) (by rfl) (fun K hK => ?_); (first | go_big_move | go_big_op); refine hK _ ?_; clear hK K) | (refine ser_off (by rfl) (by rfl) ?_; simp only [Act.put, List.setIfInBounds_toArray, List.set_cons_zero, List.set_cons_succ]))
  refine ser_eff (by rfl) (by rfl) (fun K hK => ?_)
  go_big_op
  generalize hw3 : w2.alloc (.cells #[.string (ex.b ++ ey.b), .int .i64 x, .int .i64 y] 216) = w3
  have e3 : Ext no w2 w3 := by rw [← hw3]; exact (Ext.refl _ _).alloc _
  have hnew : w3.heap[w2.heap.size]? = some (.cells #[.string (ex.b ++ ey.b), .int .i64 x, .int .i64 y] 216 (0, 0)) := by rw [← hw3]; exact block_new _ _
  have hI3 := hI2.ext e3 (fun _ hs => absurd hs (not_no _))
  have hm3 := e3.heap hm2 (not_no _)
  obtain ⟨cur, hrow, hgB⟩ := hI3.row
  have hgt : t ≠ g := ne_of_types hI3.ht hrow (by decide)
  have hbg : bm ≠ g := hI3.hb.ne hrow
  have hpg : pm ≠ g := hI3.hp.ne hrow
  have hgM : w.heap.size ≠ g := ne_of_types hm3 hrow (by decide)
  have hBw : B ≤ w3.heap.size := Nat.le_trans hB (Nat.le_trans e1.size (Nat.le_trans e2.size e3.size))
  clear hw3 c0 m0 m1 hm2
  have c0 := hI3.c0
  refine hK _ _ ?_ ?_
  · repeat (first | exact ag_nil | (refine ag_cons (by rfl) (by rfl) (by rfl) (by rfl) (by rfl) (fun K hK => ?_) ?_; · ((first | go_big_move | go_big_op); exact hK)) | (refine ag_off (by rfl) (by rfl) (by rfl) (by rfl) ?_))
  clear hK K
  refine ser_eff (by rfl) (by rfl) (fun K hK => ?_)
  refine wp_append_own rfl _ _ _ rfl B 216 Tryz.underlying189 i_entry rfl (by decide) _ _ _ rfl hI3.hl ⟨w2.heap.size, 0, none⟩ 1 1 [.string (ex.b ++ ey.b), .int .i64 x, .int .i64 y] rfl rfl (World.news_of_block hnew) (by simp [Value.oneCell']) (by decide) (by unfold maxLen; omega) (by omega) hBw ?_
  intro g2 cap2 w4 hown hgr hwhere hlt
  have keep : ∀ k o, w3.heap[k]? = some o → k ≠ g → w4.heap[k]? = some o := fun k o hk hne => (hgr.block k (lt_of_block hk) (fun hh => hne (Option.some.inj hh))).trans hk
  have e4 : Below B w3 w4 := (Below.refl _ _).grown hgr hBw (fun k hk => by cases hk; exact hgB)
  have ht4 := keep t _ hI3.ht hgt
  have hm4 := keep _ _ hm3 hgM
  have hb4 : MapAt w4 bm Value.string natV T.bm := by
    obtain ⟨es, cl, hh, r⟩ := hI3.hb
    exact ⟨es, cl, keep bm _ hh hbg, r⟩
  have hp4 : MapAt w4 pm pairV natV T.pm := by
    obtain ⟨es, cl, hh, r⟩ := hI3.hp
    exact ⟨es, cl, keep pm _ hh hpg, r⟩
  clear c0
  simp only [Act.put, List.setIfInBounds_toArray, List.set_cons_zero, List.set_cons_succ]
  refine hK _ _ ?_ ?_
  · repeat (first | exact ag_nil | (refine ag_cons (by rfl) (by rfl) (by rfl) (by rfl) (by rfl) (fun K hK => ?_) ?_; · ((first | go_big_move | go_big_op); exact hK)) | (refine ag_off (by rfl) (by rfl) (by rfl) (by rfl) ?_))
  clear hK K
  repeat (first | (refine ser_next (by rfl) (by rfl) (by rfl) (fun K hK => ?_); (first | go_big_move | go_big_op); refine hK _ ?_; clear hK K) | (refine ser_off (by rfl) (by rfl) ?_; simp only [Act.put, List.setIfInBounds_toArray, List.set_cons_zero, List.set_cons_succ]))
  refine ser_eff (by rfl) (by rfl) (fun K hK => ?_)
  have f4 : w4.frozen? ⟨t, 0, none⟩ = false := free_of_block ht4 0
  have k4 : w4.cell? ⟨t, 0, none⟩ = some (.slice (some ⟨g, 0, none⟩) T.es.length c) := by rw [cell_of_block ht4]; rfl
  go_big_op
  have ht5 := block_setCell ht4 0 (.slice (some ⟨g2, 0, none⟩) (T.es.length + 1) cap2)
  have hgt2 : g2 ≠ t := by
    rcases hwhere with h | h
    · cases h; exact Ne.symm hgt
    · intro e; have := lt_of_block hI3.ht; omega
  have hmt : w.heap.size ≠ t := ne_of_types hm3 hI3.ht (by decide)
  have hm5 := (block_setCell_other (a := ⟨t, 0, none⟩) (.slice (some ⟨g2, 0, none⟩) (T.es.length + 1) cap2) hmt).trans hm4
  have e5 : Ext (at1 t) w4 (w4.setCell ⟨t, 0, none⟩ (.slice (some ⟨g2, 0, none⟩) (T.es.length + 1) cap2)) := (Ext.refl (at1 t) w4).setCell (p := ⟨t, 0, none⟩) (fun _ => rfl) _
  have hb5 := hb4.ext e5 (hb4.ne ht4)
  have hp5 := hp4.ext e5 (hp4.ne ht4)
  have hown5 : (w4.setCell ⟨t, 0, none⟩ (.slice (some ⟨g2, 0, none⟩) (T.es.length + 1) cap2)).ownsRow B 216 3 (.slice (some ⟨g2, 0, none⟩) (T.es.length + 1) cap2) (T.es.length + 1) (flat T.es ++ [.string (ex.b ++ ey.b), .int .i64 x, .int .i64 y]) := by
    refine ⟨hown.1, ?_⟩
    rcases hown.2 with ⟨h, _⟩ | ⟨g', cp, cu, hv, hg', hh, r⟩
    · cases h
    · cases hv; exact .inr ⟨g2, cap2, cu, rfl, hg', (block_setCell_other (a := ⟨t, 0, none⟩) _ hgt2).trans hh, r⟩
  generalize hw5 : w4.setCell ⟨t, 0, none⟩ (.slice (some ⟨g2, 0, none⟩) (T.es.length + 1) cap2) = w5 at *
  refine hK _ _ ag_nil ?_
  clear hK K f4 k4 ht4 hm4 hb4 hp4 hown hw5 keep
  refine ser_nil ?_
  go_wp2
  refine wp_region_ser [(0, false, []), (1, false, []), (2, false, []), (3, false, []), (4, false, []), (5, false, []), (6, false, []), (7, false, []), (8, false, []), (9, false, []), (10, false, []), (11, false, []), (12, true, [9, 10, 11]), (13, false, []), (14, true, [9, 11]), (15, true, [11]), (16, false, []), (17, true, [])] (by kernel_rfl) (by kernel_rfl) ?_
  have e6 : Ext no w5 w5.drew := (Ext.refl _ _).drew
  have ht6 := e6.heap ht5 (not_no _)
  have hm6 := e6.heap hm5 (not_no _)
  have hb6 := hb5.ext e6 (not_no _)
  have hp6 := hp5.ext e6 (not_no _)
  have hown6 := hown5.drew
  generalize hw6 : w5.drew = w6 at *
  have c1 : w6.cell? ⟨t, 1, none⟩ = some (.map (some bm)) := by rw [cell_of_block ht6]; rfl
  have c2 : w6.cell? ⟨t, 2, none⟩ = some (.map (some pm)) := by rw [cell_of_block ht6]; rfl
  have m0 : w6.cell? ⟨w.heap.size, 0, none⟩ = some (.int .i64 x) := by rw [cell_of_block hm6]; rfl
  have m1 : w6.cell? ⟨w.heap.size, 1, none⟩ = some (.int .i64 y) := by rw [cell_of_block hm6]; rfl
  have hbt : t ≠ bm := Ne.symm (hb6.ne ht6)
  have hpt : t ≠ pm := Ne.symm (hp6.ne ht6)
  have hbm : w.heap.size ≠ bm := Ne.symm (hb6.ne hm6)
  have hpm : w.heap.size ≠ pm := Ne.symm (hp6.ne hm6)
  clear hw6 hb5 hp5 ht5 hm5 hown5
  repeat (first | (refine ser_next (by rfl) (by rfl) (by rfl) (fun K hK => ?_); (first | go_big_move | go_big_op); refine hK _ ?_; clear hK K) | (refine ser_off (by rfl) (by rfl) ?_; simp only [Act.put, List.setIfInBounds_toArray, List.set_cons_zero, List.set_cons_succ]))
  refine ser_eff (by rfl) (by rfl) (fun K hK => ?_)
  refine wp_mapEntry _ _ _ rfl k_str Tryz.underlying176 hb6 (z_int _) (ex.b ++ ey.b) rfl rfl ?_
  intro w7 s1 hb7 e7 _
  have ht7 := e7.heap1 ht6 hbt
  have hm7 := e7.heap1 hm6 hbm
  have hp7 := hp6.ext e7 (Ne.symm hI.hne)
  clear c1 c2 m0 m1
  have m0 : w7.cell? ⟨w.heap.size, 0, none⟩ = some (.int .i64 x) := by rw [cell_of_block hm7]; rfl
  have m1 : w7.cell? ⟨w.heap.size, 1, none⟩ = some (.int .i64 y) := by rw [cell_of_block hm7]; rfl
  simp only [Act.put, List.setIfInBounds_toArray, List.set_cons_zero, List.set_cons_succ]
  refine hK _ _ ?_ ?_
  · repeat (first | exact ag_nil | (refine ag_cons (by rfl) (by rfl) (by rfl) (by rfl) (by rfl) (fun K hK => ?_) ?_; · ((first | go_big_move | go_big_op); exact hK)) | (refine ag_off (by rfl) (by rfl) (by rfl) (by rfl) ?_))
  clear hK K
  repeat (first | (refine ser_next (by rfl) (by rfl) (by rfl) (fun K hK => ?_); (first | go_big_move | go_big_op); refine hK _ ?_; clear hK K) | (refine ser_off (by rfl) (by rfl) ?_; simp only [Act.put, List.setIfInBounds_toArray, List.set_cons_zero, List.set_cons_succ]))
  refine ser_eff (by rfl) (by rfl) (fun K hK => ?_)
  refine wp_entryStore _ _ _ _ rfl hb7 rfl rfl T.es.length rfl ?_
  intro w8 hb8 e8 _
  have ht8 := e8.heap1 ht7 hbt
  have hm8 := e8.heap1 hm7 hbm
  have hp8 := hp7.ext e8 (Ne.symm hI.hne)
  clear m0 m1
  have m0 : w8.cell? ⟨w.heap.size, 0, none⟩ = some (.int .i64 x) := by rw [cell_of_block hm8]; rfl
  have m1 : w8.cell? ⟨w.heap.size, 1, none⟩ = some (.int .i64 y) := by rw [cell_of_block hm8]; rfl
  simp only [Act.put, List.setIfInBounds_toArray, List.set_cons_zero, List.set_cons_succ]
  refine hK _ _ ?_ ?_
  · repeat (first | exact ag_nil | (refine ag_cons (by rfl) (by rfl) (by rfl) (by rfl) (by rfl) (fun K hK => ?_) ?_; · ((first | go_big_move | go_big_op); exact hK)) | (refine ag_off (by rfl) (by rfl) (by rfl) (by rfl) ?_))
  clear hK K
  refine ser_eff (by rfl) (by rfl) (fun K hK => ?_)
  refine wp_mapEntry _ _ _ rfl k_pair Tryz.underlying190 hp8 (z_int _) (x, y) rfl rfl ?_
  intro w9 s2 hp9 e9 _
  have ht9 := e9.heap1 ht8 hpt
  have hb9 := hb8.ext e9 hI.hne
  clear m0 m1 hm8 hm7 hm6
  simp only [Act.put, List.setIfInBounds_toArray, List.set_cons_zero, List.set_cons_succ]
  refine hK _ _ ?_ ?_
  · repeat (first | exact ag_nil | (refine ag_cons (by rfl) (by rfl) (by rfl) (by rfl) (by rfl) (fun K hK => ?_) ?_; · ((first | go_big_move | go_big_op); exact hK)) | (refine ag_off (by rfl) (by rfl) (by rfl) (by rfl) ?_))
  clear hK K
  repeat (first | (refine ser_next (by rfl) (by rfl) (by rfl) (fun K hK => ?_); (first | go_big_move | go_big_op); refine hK _ ?_; clear hK K) | (refine ser_off (by rfl) (by rfl) ?_; simp only [Act.put, List.setIfInBounds_toArray, List.set_cons_zero, List.set_cons_succ]))
  refine ser_eff (by rfl) (by rfl) (fun K hK => ?_)
  refine wp_entryStore _ _ _ _ rfl hp9 rfl rfl T.es.length rfl ?_
  intro w10 hp10 e10 _
  have ht10 := e10.heap1 ht9 hpt
  have hb10 := hb9.ext e10 hI.hne
  simp only [Act.put, List.setIfInBounds_toArray, List.set_cons_zero, List.set_cons_succ]
  refine hK _ _ ag_nil ?_
  clear hK K
  refine ser_nil ?_
  have c3 : w10.cell? ⟨t, 3, none⟩ = some (.int .i64 T.longest) := by rw [cell_of_block ht10]; rfl
  have f3 : w10.frozen? ⟨t, 3, none⟩ = false := free_of_block ht10 3
  have fin : ∀ L : Nat, Below B w (w10.setCell ⟨t, 3, none⟩ (.int .i64 (L : Int))) ∧ TabAt B (w10.setCell ⟨t, 3, none⟩ (.int .i64 (L : Int))) t { es := T.es ++ [⟨ex.b ++ ey.b, x, y⟩], bm := mput T.bm (ex.b ++ ey.b) T.es.length, pm := mput T.pm (x, y) T.es.length, longest := L } := by
    intro L
    have s3 : w.heap.size ≤ w3.heap.size := Nat.le_trans e1.size (Nat.le_trans e2.size e3.size)
    have s4 : B ≤ w4.heap.size := Nat.le_trans hBw e4.size
    have s5 : B ≤ w5.heap.size := Nat.le_trans s4 e5.size
    have s6 : B ≤ w6.heap.size := Nat.le_trans s5 e6.size
    have s7 : B ≤ w7.heap.size := Nat.le_trans s6 e7.size
    have s8 : B ≤ w8.heap.size := Nat.le_trans s7 e8.size
    have s9 : B ≤ w9.heap.size := Nat.le_trans s8 e9.size
    have b3 : Below B w w3 := ((e1.trans e2).trans e3).below hB (fun _ h => absurd h (not_no _))
    have b5 := e5.below s4 (fun k hk => by rw [hk]; exact hI.tB)
    have b6 := e6.below s5 (fun k hk => absurd hk (not_no _))
    have b7 := e7.below s6 (fun k hk => by rw [hk]; exact hI.bB)
    have b8 := e8.below s7 (fun k hk => by rw [hk]; exact hI.bB)
    have b9 := e9.below s8 (fun k hk => by rw [hk]; exact hI.pB)
    have b10 := e10.below s9 (fun k hk => by rw [hk]; exact hI.pB)
    have b := ((((((b3.trans e4).trans b5).trans b6).trans b7).trans b8).trans b9).trans b10
    have e11 : Ext (at1 t) w10 (w10.setCell ⟨t, 3, none⟩ (.int .i64 (L : Int))) := (Ext.refl (at1 t) w10).setCell (p := ⟨t, 3, none⟩) (fun _ => rfl) _
    have n7 : g2 ≠ bm := by
      rcases hown6.2 with ⟨h, _⟩ | ⟨g', cp, cu, hv, hg', hh, r⟩
      · cases h
      · cases hv; exact Ne.symm (hb6.ne hh)
    have n8 : g2 ≠ pm := by
      rcases hown6.2 with ⟨h, _⟩ | ⟨g', cp, cu, hv, hg', hh, r⟩
      · cases h
      · cases hv; exact Ne.symm (hp6.ne hh)
    refine ⟨b.setCell hI.tB _, .slice (some ⟨g2, 0, none⟩) (T.es.length + 1) cap2, bm, pm, ?_, ?_, hb10.ext e11 (hb10.ne ht10), hp10.ext e11 (hp10.ne ht10), hI.hne, hI.tB, hI.bB, hI.pB⟩
    · exact block_setCell ht10 3 _
    · have hfl : flat (T.es ++ [⟨ex.b ++ ey.b, x, y⟩]) = flat T.es ++ [.string (ex.b ++ ey.b), .int .i64 x, .int .i64 y] := by rw [flat_append]; rfl
      rw [hfl, List.length_append, List.length_singleton]
      refine ⟨hown6.1, ?_⟩
      rcases hown6.2 with ⟨h, _⟩ | ⟨g', cp, cu, hv, hg', hh, r⟩
      · cases h
      · cases hv
        have h7 := e7.heap1 hh n7
        have h8 := e8.heap1 h7 n7
        have h9 := e9.heap1 h8 n8
        have h10 := e10.heap1 h9 n8
        exact .inr ⟨g2, cap2, cu, rfl, hg', e11.heap1 h10 hgt2, r⟩
  have FIN := Lib.hid fin; clear fin
  go_wp2
  all_goals
    go_ret2
    refine ⟨rfl, (FIN.out _).1, ?_⟩
  · have hm : max T.longest (ex.b.size + ey.b.size) = ex.b.size + ey.b.size := by omega
    rw [hm]; exact (FIN.out _).2
  · have hm : max T.longest (ex.b.size + ey.b.size) = T.longest := by omega
    rw [hm]; exact (FIN.out _).2
theorem tab_add_no1 {B : Nat} {w : World} {t : Nat} {T : Tab} (h : TabAt B w t T) (x y : Int) (hx : hasB T.es.length x = false) :
    Calls Tryz.prog 157 #[.pointer (some ⟨t, 0, none⟩), pairV (x, y)] w fun e w' => e = .returned (.tuple #[.int .i64 0, .int .i64 4]) ∧ Ext no w w' := by
  have HX := Lib.hid hx; clear hx
  unfold pairV
  go_enter Tryz.func157, Tryz.ntmps157
  go_wp2_with fail
  generalize hw1 : w.alloc (.cells #[.int .i64 x, .int .i64 y] 54) = w1
  have e1 : Ext no w w1 := by rw [← hw1]; exact (Ext.refl _ _).alloc _
  have hm1 : w1.heap[w.heap.size]? = some (.cells #[.int .i64 x, .int .i64 y] 54 (0, 0)) := by rw [← hw1]; exact block_new _ _
  have hT1 := h.keep e1
  have m0 : w1.cell? ⟨w.heap.size, 0, none⟩ = some (.int .i64 x) := by rw [cell_of_block hm1]; rfl
  have m1 : w1.cell? ⟨w.heap.size, 1, none⟩ = some (.int .i64 y) := by rw [cell_of_block hm1]; rfl
  clear hw1
  refine (tab_has hT1 _).mono ?_
  rintro e w' ⟨rfl, rfl⟩
  rw [HX.out]
  go_wp2
  go_ret2
  exact ⟨rfl, e1⟩
theorem tab_add_no2 {B : Nat} {w : World} {t : Nat} {T : Tab} (h : TabAt B w t T) (x y : Int) (hx : hasB T.es.length x = true) (hy : hasB T.es.length y = false) :
    Calls Tryz.prog 157 #[.pointer (some ⟨t, 0, none⟩), pairV (x, y)] w fun e w' => e = .returned (.tuple #[.int .i64 0, .int .i64 4]) ∧ Ext no w w' := by
  have HX := Lib.hid hx; clear hx
  have HY := Lib.hid hy; clear hy
  unfold pairV
  go_enter Tryz.func157, Tryz.ntmps157
  go_wp2_with fail
  generalize hw1 : w.alloc (.cells #[.int .i64 x, .int .i64 y] 54) = w1
  have e1 : Ext no w w1 := by rw [← hw1]; exact (Ext.refl _ _).alloc _
  have hm1 : w1.heap[w.heap.size]? = some (.cells #[.int .i64 x, .int .i64 y] 54 (0, 0)) := by rw [← hw1]; exact block_new _ _
  have hT1 := h.keep e1
  have m0 : w1.cell? ⟨w.heap.size, 0, none⟩ = some (.int .i64 x) := by rw [cell_of_block hm1]; rfl
  have m1 : w1.cell? ⟨w.heap.size, 1, none⟩ = some (.int .i64 y) := by rw [cell_of_block hm1]; rfl
  clear hw1
  refine (tab_has hT1 _).mono ?_
  rintro e w' ⟨rfl, rfl⟩
  rw [HX.out]
  go_wp2_with fail
  refine (tab_has hT1 _).mono ?_
  rintro e w' ⟨rfl, rfl⟩
  rw [HY.out]
  go_wp2
  go_ret2
  exact ⟨rfl, e1⟩
theorem tab_add_no3 {B : Nat} {w : World} {t : Nat} {T : Tab} (h : TabAt B w t T) (x y : Int) (ex ey : Entry) (hx : hasB T.es.length x = true) (hy : hasB T.es.length y = true) (hex : T.es[x.toNat]? = some ex) (hey : T.es[y.toNat]? = some ey)
    (hz : ex.b.size ≤ 4611686018427387903) (hz' : ey.b.size ≤ 4611686018427387903) (r : Int) (hr : (ex.b.size + ey.b.size > 64 ∧ r = 3) ∨ (ex.b.size + ey.b.size ≤ 64 ∧ 1000 ≤ T.es.length ∧ r = 5) ∨ (ex.b.size + ey.b.size ≤ 64 ∧ T.es.length < 1000 ∧ r = 10 ∧ ∃ k, mget T.bm (ex.b ++ ey.b) = some k)) :
    Calls Tryz.prog 157 #[.pointer (some ⟨t, 0, none⟩), pairV (x, y)] w fun e w' => e = .returned (.tuple #[.int .i64 0, .int .i64 r]) ∧ Ext no w w' := by
  obtain ⟨hx0, hx1⟩ := hasB_of hx
  obtain ⟨hy0, hy1⟩ := hasB_of hy
  have HX := Lib.hid hx; clear hx
  have HY := Lib.hid hy; clear hy
  unfold pairV
  go_enter Tryz.func157, Tryz.ntmps157
  go_wp2_with fail
  generalize hw1 : w.alloc (.cells #[.int .i64 x, .int .i64 y] 54) = w1
  have e1 : Ext no w w1 := by rw [← hw1]; exact (Ext.refl _ _).alloc _
  have hm1 : w1.heap[w.heap.size]? = some (.cells #[.int .i64 x, .int .i64 y] 54 (0, 0)) := by rw [← hw1]; exact block_new _ _
  have hT1 := h.keep e1
  have m0 : w1.cell? ⟨w.heap.size, 0, none⟩ = some (.int .i64 x) := by rw [cell_of_block hm1]; rfl
  have m1 : w1.cell? ⟨w.heap.size, 1, none⟩ = some (.int .i64 y) := by rw [cell_of_block hm1]; rfl
  clear hw1
  refine (tab_has hT1 _).mono ?_
  rintro e w' ⟨rfl, rfl⟩
  rw [HX.out]
  go_wp2_with fail
  refine (tab_has hT1 _).mono ?_
  rintro e w' ⟨rfl, rfl⟩
  rw [HY.out]
  obtain ⟨v, bm, pm, hI1⟩ := hT1
  obtain ⟨g, c, rfl, sx1, _, _⟩ := hI1.entry hex
  obtain ⟨g', c', hv', sy1, _, _⟩ := hI1.entry hey
  cases hv'
  have c0 := hI1.c0
  have c1 := hI1.c1
  have hl64 : T.es.length ≤ 9223372036854775807 := by
    rcases hI1.hl.2 with ⟨_, h⟩ | ⟨g', cap, cur, he, _, _, h1, h2, _⟩
    · omega
    · simp only [maxLen] at h2; omega
  rcases hr with ⟨h1, rfl⟩ | ⟨h1, h2, rfl⟩ | ⟨h1, h2, rfl, k, hg⟩
  · go_wp2_with fail
    go_quiet (fail)
    go_wp2
    go_ret2
    exact ⟨rfl, e1.drewN _⟩
  · go_wp2_with fail
    go_quiet (fail)
    go_wp2
    go_ret2
    exact ⟨rfl, e1.drewN _⟩
  · have HG := Lib.hid hg; clear hg
    go_wp2_with fail
    go_quiet (fail)
    go_wp2_with (at_lookup; refine wpList_lookup_some rfl _ _ _ _ rfl k_str Tryz.underlying176 (hI1.hb.ext ((Ext.refl no _).drewN _) (not_no _)) (ex.b ++ ey.b) rfl rfl k HG.out ?_)
    go_ret2
    exact ⟨rfl, e1.drewN _⟩

/-- Add, whatever is added. -/
theorem tab_add {B : Nat} {w : World} {t : Nat} {T : Tab} (h : TabAt B w t T) (hB : B ≤ w.heap.size) (hsz : ∀ e ∈ T.es, e.b.size ≤ 64) (x y : Int) :
    Calls Tryz.prog 157 #[.pointer (some ⟨t, 0, none⟩), pairV (x, y)] w fun e w' => e = .returned (.tuple #[.int .i64 (T.add x y).2.1, .int .i64 (T.add x y).2.2]) ∧ Below B w w' ∧ TabAt B w' t (T.add x y).1 := by
  have no_ : ∀ {e : Ending} {w' : World} {r : Int}, (T.add x y) = (T, 0, r) → e = .returned (.tuple #[.int .i64 0, .int .i64 r]) ∧ Ext no w w' → e = .returned (.tuple #[.int .i64 (T.add x y).2.1, .int .i64 (T.add x y).2.2]) ∧ Below B w w' ∧ TabAt B w' t (T.add x y).1 := by
    intro e w' r he hh
    rw [he]
    exact ⟨hh.1, hh.2.below hB (fun _ hk => absurd hk (not_no _)), h.keep hh.2⟩
  cases hx : hasB T.es.length x with
  | false => exact (tab_add_no1 h x y hx).mono fun e w' hh => no_ (by simp [Tab.add, hx]) hh
  | true =>
    cases hy : hasB T.es.length y with
    | false => exact (tab_add_no2 h x y hx hy).mono fun e w' hh => no_ (by simp [Tab.add, hy]) hh
    | true =>
      obtain ⟨ex, hex⟩ := entry_of hx
      obtain ⟨ey, hey⟩ := entry_of hy
      have bx : T.bts x = ex.b := by simp [Tab.bts, hex]
      have by_ : T.bts y = ey.b := by simp [Tab.bts, hey]
      have sx := hsz ex (List.mem_of_getElem? hex)
      have sy := hsz ey (List.mem_of_getElem? hey)
      by_cases h1 : ex.b.size + ey.b.size > 64
      · exact (tab_add_no3 h x y ex ey hx hy hex hey (by omega) (by omega) 3 (.inl ⟨h1, rfl⟩)).mono fun e w' hh => no_ (by simp [Tab.add, hx, hy, bx, by_, h1]) hh
      · by_cases h2 : 1000 ≤ T.es.length
        · exact (tab_add_no3 h x y ex ey hx hy hex hey (by omega) (by omega) 5 (.inr (.inl ⟨by omega, h2, rfl⟩))).mono fun e w' hh => no_ (by simp [Tab.add, hx, hy, bx, by_, h1, h2]) hh
        · cases hg : mget T.bm (ex.b ++ ey.b) with
          | some k => exact (tab_add_no3 h x y ex ey hx hy hex hey (by omega) (by omega) 10 (.inr (.inr ⟨by omega, by omega, rfl, k, hg⟩))).mono fun e w' hh => no_ (by simp [Tab.add, hx, hy, bx, by_, h1, h2, hg]) hh
          | none =>
            refine (tab_add_ok h hB x y ex ey hx hy hex hey (by omega) (by omega) hg).mono fun e w' hh => ?_
            have he : T.add x y = ({ es := T.es ++ [⟨ex.b ++ ey.b, x, y⟩], bm := mput T.bm (ex.b ++ ey.b) T.es.length, pm := mput T.pm (x, y) T.es.length, longest := max T.longest (ex.b ++ ey.b).size }, (T.es.length : Int), 0) := by
              simp [Tab.add, hx, hy, bx, by_, h1, h2, hg]
            rw [he]
            exact hh
end Go.Proofs.YtiiaklaojlnokaaGreatDoor.B
