/- Package bound: New: contract. -/
import Derived.Test.YtiiaklaojlnokaaGreatDoorBound
set_option linter.unusedVariables false
set_option linter.unusedSimpArgs false
namespace Go.Proofs.YtiiaklaojlnokaaGreatDoor.B
open Go Go.RowKit
set_option maxRecDepth 100000
set_option maxHeartbeats 1000000

def BTab.span (T : BTab) (c : Int × Int × Int) : BTab := ⟨fun k => if c.1 ≤ (k : Int) ∧ (k : Int) ≤ c.2.1 then c.2.2 else T.cls k, T.join⟩
def BTab.upto (T : BTab) (lo b n : Int) : BTab := ⟨fun k => if lo ≤ (k : Int) ∧ (k : Int) < b then n else T.cls k, T.join⟩
def BTab.joined (T : BTab) (j : Int × Int) : BTab := ⟨T.cls, fun k => if (k : Int) = 16 * j.1 + j.2 then true else T.join k⟩
def boundClasses : BTab → List (Int × Int × Int) → Option BTab
  | T, [] => some T
  | T, c :: cs => if spanB c then boundClasses (T.span c) cs else none
def boundJoins : BTab → List (Int × Int) → Option BTab
  | T, [] => some T
  | T, j :: js => if classB j.1 && classB j.2 then boundJoins (T.joined j) js else none
def boundNew (cs : List (Int × Int × Int)) (js : List (Int × Int)) : Option BTab := (boundClasses BTab.empty cs).bind fun T => boundJoins T js
theorem upto_start (T : BTab) (lo n : Int) : T.upto lo lo n = T := by
  simp only [BTab.upto]
  congr
  funext k
  rw [if_neg (by omega)]
theorem upto_end (T : BTab) (c : Int × Int × Int) : T.upto c.1 (c.2.1 + 1) c.2.2 = T.span c := by
  simp only [BTab.upto, BTab.span]
  congr
  funext k
  by_cases h : c.1 ≤ (k : Int) ∧ (k : Int) ≤ c.2.1
  · rw [if_pos h, if_pos (by omega)]
  · rw [if_neg h, if_neg (by omega)]
theorem upto_step (T : BTab) (lo b n : Int) (h : lo ≤ b) (h0 : 0 ≤ b) : (⟨fun k => if k = b.toNat then n else (T.upto lo b n).cls k, (T.upto lo b n).join⟩ : BTab) = T.upto lo (b + 1) n := by
  simp only [BTab.upto]
  congr
  funext k
  by_cases h1 : k = b.toNat
  · rw [if_pos h1, if_pos (by omega)]
  · rw [if_neg h1]
    by_cases h2 : lo ≤ (k : Int) ∧ (k : Int) < b
    · rw [if_pos h2, if_pos (by omega)]
    · rw [if_neg h2, if_neg (by omega)]
theorem BTabAt.ext {S : Nat → Prop} {w w' : World} {t : Nat} {T : BTab} (h : BTabAt w t T) (e : Ext S w w') (hs : ¬ S t) : BTabAt w' t T := e.heap h hs
def BoundPost (w : World) (cs : List (Int × Int × Int)) (js : List (Int × Int)) (e : Ending) (w' : World) : Prop :=
  Below w.heap.size w w' ∧ match boundNew cs js with
    | some T => ∃ t, e = .returned (.tuple #[.pointer (some ⟨t, 0, none⟩), .int .i64 0]) ∧ BTabAt w' t T ∧ w.heap.size ≤ t
    | none => e = .returned (.tuple #[.pointer none, .int .i64 1])
def BoundAt (w : World) (t : Nat) (cs : List (Int × Int × Int)) (js : List (Int × Int)) (i : Value) (wr : World) : Prop :=
  ∃ (k : Nat) (T : BTab), k ≤ cs.length ∧ i = .int .i64 k ∧ BTabAt wr t T ∧ w.heap.size ≤ t ∧ boundNew cs js = (boundClasses T (cs.drop k)).bind (fun T => boundJoins T js) ∧ Below w.heap.size w wr
def BoundIn (w : World) (t v : Nat) (T : BTab) (x y z : Int) (i : Value) (wr : World) : Prop :=
  ∃ b : Int, x ≤ b ∧ b ≤ y + 1 ∧ i = .int .i64 b ∧ BTabAt wr t (T.upto x b z) ∧ wr.heap[v]? = some (.cells #[.int .i64 x, .int .i64 y, .int .i64 z] 58 (0, 0)) ∧ Below w.heap.size w wr
def BoundAt2 (w : World) (t : Nat) (cs : List (Int × Int × Int)) (js : List (Int × Int)) (i : Value) (wr : World) : Prop :=
  ∃ (k : Nat) (T : BTab), k ≤ js.length ∧ i = .int .i64 k ∧ BTabAt wr t T ∧ w.heap.size ≤ t ∧ boundNew cs js = boundJoins T (js.drop k) ∧ Below w.heap.size w wr
theorem bound_new (w : World) (A A' : Option Addr) (c c' : Nat) (cs : List (Int × Int × Int)) (js : List (Int × Int)) (hR : RowAt w A (cs.flatMap classC)) (hR' : RowAt w A' (js.flatMap joinC)) (hn : cs.length ≤ 4611686018427387903) (hn' : js.length ≤ 4611686018427387903) :
    Calls Tryz.prog 71 #[.slice A cs.length c, .slice A' js.length c'] w (BoundPost w cs js) := by
  have h0 : BTabAt (w.alloc (.cells BTab.empty.cells.toArray 204)) w.heap.size BTab.empty := block_new _ _
  have hb0 : Below w.heap.size w (w.alloc (.cells BTab.empty.cells.toArray 204)) := ((Ext.refl no w).alloc _).below (Nat.le_refl _) (fun k hk => absurd hk (not_no _))
  go_enter Tryz.func71, Tryz.ntmps71
  go_upto_region 2 with fail
  rw [zero_bound]
  have ht : w.heap.size ≤ w.heap.size := Nat.le_refl _
  generalize w.alloc (.cells BTab.empty.cells.toArray 204) = w1 at *
  obtain ⟨t, het⟩ : ∃ t, t = w.heap.size := ⟨_, rfl⟩
  rw [← het] at h0
  rw [← het]
  have ht : w.heap.size ≤ t := by omega
  clear het
  go_wp2_with fail
  go_loopw [16] (fun i wr => BoundAt w t cs js i wr) (fun i _ => cs.length - (intOf i).toNat)
  case atStart => exact ⟨0, _, by omega, rfl, h0, ht, rfl, hb0⟩
  case round =>
    clear h0 hb0
    obtain ⟨k, T, hk, rfl, hT, ht', HA, hB⟩ := hrel
    have HA := Lib.hid HA
    by_cases hlt : k < cs.length
    · obtain ⟨⟨x, y, z⟩, hp⟩ : ∃ p, cs[k]? = some p := ⟨_, List.getElem?_eq_getElem hlt⟩
      obtain ⟨b, o, rfl, hcs⟩ := hR.form (by rw [flatMap_len classC 3 (fun _ => rfl)]; omega)
      have hcell : ∀ i v, i < 3 → (classC (x, y, z))[i]? = some v → wr.cell? ⟨b, o + k * 3 + i, none⟩ = some v := by
        intro i v hi hv
        have := hcs _ _ ((flatMap_at classC 3 (fun _ => rfl) cs k _ hp i hi).trans hv)
        have := hB.cell (lt_of_cell this) |>.trans this
        rwa [← Nat.add_assoc] at this
      have c0 := hcell 0 _ (by omega) rfl
      have c1 := hcell 1 _ (by omega) rfl
      have c2 := hcell 2 _ (by omega) rfl
      simp only [Nat.add_zero] at c0
      clear hcell
      have hd : cs.drop k = (x, y, z) :: cs.drop (k + 1) := by
        obtain ⟨hl, he⟩ := List.getElem?_eq_some_iff.1 hp
        rw [List.drop_eq_getElem_cons hl, he]
      have HD := Lib.hid hd
      clear hd hp
      go_wp2_with fail
      have e1 : Ext no wr (wr.alloc (.cells #[.int .i64 x, .int .i64 y, .int .i64 z] 58)) := (Ext.refl no wr).alloc _
      have hm1 := block_new wr (.cells #[.int .i64 x, .int .i64 y, .int .i64 z] 58)
      generalize wr.alloc (.cells #[.int .i64 x, .int .i64 y, .int .i64 z] 58) = w2 at *
      generalize hvv : wr.heap.size = v at *
      have hvt : v ≠ t := by have := lt_of_block hT; omega
      have hBv : w.heap.size ≤ v := by have := hB.size; omega
      clear hvv c0 c1 c2
      refine (bound_span w2 (x, y, z)).mono ?_
      rintro e w3 ⟨rfl, e3⟩
      have hB3 : Below w.heap.size w w3 := hB.trans ((e1.trans e3).below hB.size (fun _ h => absurd h (not_no _)))
      have hT3 := (hT.ext e1 (not_no _)).ext e3 (not_no _)
      have hm3 := e3.heap hm1 (not_no _)
      clear hT hB e1 e3 hm1
      cases hs : spanB (x, y, z) with
      | false =>
        have HS := Lib.hid hs
        clear hs
        go_wp2
        go_ret2
        have hA : boundNew cs js = none := by
          rw [HA.out, HD.out, boundClasses, HS.out]; rfl
        refine ⟨hB3, ?_⟩
        rw [hA]; rfl
      | true =>
        have HS := Lib.hid hs
        have hx : 0 ≤ x ∧ x ≤ y ∧ y < 256 := by
          simp only [spanB, Bool.and_eq_true, decide_eq_true_eq] at hs
          exact hs.1
        clear hs
        have d0 : w3.cell? ⟨v, 0, none⟩ = some (.int .i64 x) := by rw [cell_of_block hm3]; rfl
        obtain ⟨x0, xy, y2⟩ := hx
        go_wp2_with fail
        clear d0
        go_loopw [9] (fun i wr => BoundIn w t v T x y z i wr) (fun i _ => (y + 1 - intOf i).toNat)
        case atStart => exact ⟨x, by omega, by omega, rfl, by rw [upto_start]; exact hT3, hm3, hB3⟩
        case round =>
          clear hT3 hm3 hB3
          obtain ⟨b, hb1, hb2, rfl, hT, hm, hB⟩ := hrel
          have d1 : wr.cell? ⟨v, 1, none⟩ = some (.int .i64 y) := by rw [cell_of_block hm]; rfl
          by_cases hby : b ≤ y
          · go_wp2_with fail
            refine wp_region_ser [(0, false, []), (1, false, []), (2, false, []), (3, false, []), (4, false, []), (5, false, []), (6, false, []), (7, true, [])] (by kernel_rfl) (by kernel_rfl) ?_
            have e4 : Ext no wr wr.drew := (Ext.refl no wr).drew
            have hm4 := e4.heap hm (not_no _)
            have hT4 := hT.ext e4 (not_no _)
            have hB4 : Below w.heap.size w wr.drew := hB.drew
            generalize wr.drew = w4 at *
            clear hm hT hB e4 d1
            have d2 : w4.cell? ⟨v, 2, none⟩ = some (.int .i64 z) := by rw [cell_of_block hm4]; rfl
            have b0 : 0 ≤ b := by omega
            have b256 : b < 256 := by omega
            obtain ⟨bn, rfl⟩ : ∃ bn : Nat, b = (bn : Int) := ⟨b.toNat, by omega⟩
            have hbn : bn < 256 := by omega
            have x1 := (cell_of_block hT4 bn).trans (bcell_cls _ bn hbn)
            have f1 := free_of_block hT4 bn
            repeat (first | (refine ser_next (by rfl) (by rfl) (by rfl) (fun K hK => ?_); (first | go_big_move | go_big_op); refine hK _ ?_; clear hK K) | (refine ser_off (by rfl) (by rfl) ?_; simp only [Act.put, List.setIfInBounds_toArray, List.set_cons_zero, List.set_cons_succ]))
            refine ser_eff (by rfl) (by rfl) (fun K hK => ?_)
            go_big_op
            have hT5 := block_setCell hT4 bn (.int .i64 z)
            rw [bcells_cls _ bn z hbn] at hT5
            have hus := upto_step T x bn z hb1 b0
            simp only [Int.toNat_natCast] at hus
            rw [hus] at hT5
            have e5 : Ext (at1 t) w4 (w4.setCell ⟨t, bn, none⟩ (.int .i64 z)) := (Ext.refl (at1 t) w4).setCell (p := ⟨t, bn, none⟩) (fun _ => rfl) _
            have hm5 := e5.heap1 hm4 hvt
            have hB5 := hB4.setCell (p := ⟨t, bn, none⟩) ht' (.int .i64 z)
            generalize w4.setCell ⟨t, bn, none⟩ (.int .i64 z) = w5 at *
            refine hK _ _ ag_nil ?_
            clear hK K
            refine ser_nil ?_
            clear d2 x1 f1 hm4 hT4 hB4 e5
            go_wp2
            go_roundw
            case measure => simp [intOf]; omega
            case rel => exact ⟨(bn : Int) + 1, by omega, by omega, by go_num, hT5, hm5, hB5⟩
          · obtain rfl : b = y + 1 := by omega
            have hbf : decide (y + 1 ≤ y) = false := decide_eq_false (by omega)
            go_wp2
            go_roundw
            case measure => simp [intOf]; omega
            case rel =>
              refine ⟨k + 1, T.span (x, y, z), by omega, by go_num, ?_, ht', ?_, hB⟩
              · have := upto_end T (x, y, z)
                simp only at this
                rw [← this]; exact hT
              · rw [HA.out, HD.out, boundClasses, HS.out]; rfl
    · obtain rfl : k = cs.length := by omega
      have HA2 := Lib.hid (show boundNew cs js = boundJoins T js by rw [HA.out, List.drop_eq_nil_of_le (Nat.le_refl _)]; rfl)
      clear HA
      go_wp2_with fail
      go_loopw [41] (fun i wr => BoundAt2 w t cs js i wr) (fun i _ => js.length - (intOf i).toNat)
      case atStart => exact ⟨0, T, by omega, rfl, hT, ht', HA2.out, hB⟩
      case round =>
        clear hT hB HA2
        obtain ⟨k, T, hk, rfl, hT, ht', HA, hB⟩ := hrel
        have HA := Lib.hid HA
        by_cases hlt : k < js.length
        · obtain ⟨⟨x, y⟩, hp⟩ : ∃ p, js[k]? = some p := ⟨_, List.getElem?_eq_getElem hlt⟩
          obtain ⟨b, o, rfl, hcs⟩ := hR'.form (by rw [flatMap_len joinC 2 (fun _ => rfl)]; omega)
          have hcell : ∀ i v, i < 2 → (joinC (x, y))[i]? = some v → wr.cell? ⟨b, o + k * 2 + i, none⟩ = some v := by
            intro i v hi hv
            have := hcs _ _ ((flatMap_at joinC 2 (fun _ => rfl) js k _ hp i hi).trans hv)
            have := hB.cell (lt_of_cell this) |>.trans this
            rwa [← Nat.add_assoc] at this
          have c0 := hcell 0 _ (by omega) rfl
          have c1 := hcell 1 _ (by omega) rfl
          simp only [Nat.add_zero] at c0
          clear hcell
          have hd : js.drop k = (x, y) :: js.drop (k + 1) := by
            obtain ⟨hl, he⟩ := List.getElem?_eq_some_iff.1 hp
            rw [List.drop_eq_getElem_cons hl, he]
          have HD := Lib.hid hd
          clear hd hp
          go_upto_region 15 with fail
          have e1 : Ext no wr (wr.alloc (.cells #[.int .i64 x, .int .i64 y] 87)) := (Ext.refl no wr).alloc _
          have hm1 := block_new wr (.cells #[.int .i64 x, .int .i64 y] 87)
          generalize wr.alloc (.cells #[.int .i64 x, .int .i64 y] 87) = w2 at *
          generalize hvv : wr.heap.size = v at *
          have hvt : v ≠ t := by have := lt_of_block hT; omega
          clear hvv c0 c1
          have d0 : w2.cell? ⟨v, 0, none⟩ = some (.int .i64 x) := by rw [cell_of_block hm1]; rfl
          have d1 : w2.cell? ⟨v, 1, none⟩ = some (.int .i64 y) := by rw [cell_of_block hm1]; rfl
          have hT2 := hT.ext e1 (not_no _)
          have hB2 : Below w.heap.size w w2 := hB.trans (e1.below hB.size (fun _ h => absurd h (not_no _)))
          clear hT hB e1
          go_wp2_with fail
          refine (bound_class _ _).mono ?_
          rintro e w3 ⟨rfl, rfl⟩
          cases hx : classB x with
          | false =>
            have hA := Lib.hid (show boundNew cs js = none by rw [HA.out, HD.out, boundJoins, hx]; rfl)
            clear hx
            go_wp2
            go_ret2
            refine ⟨hB2, ?_⟩
            rw [hA.out]; rfl
          | true =>
          have HX := Lib.hid hx
          have hx := of_decide_eq_true (show decide (0 ≤ x ∧ x < 16) = true from hx)
          obtain ⟨xn, rfl⟩ : ∃ n : Nat, x = (n : Int) := ⟨x.toNat, by omega⟩
          have hxn : xn < 16 := by omega
          clear hx
          go_wp2_with fail
          refine (bound_class _ _).mono ?_
          rintro e w3 ⟨rfl, rfl⟩
          cases hy : classB y with
          | false =>
            have hA := Lib.hid (show boundNew cs js = none by rw [HA.out, HD.out, boundJoins, HX.out, hy]; rfl)
            clear hy
            go_wp2
            go_ret2
            refine ⟨hB2, ?_⟩
            rw [hA.out]; rfl
          | true =>
          have HY := Lib.hid hy
          have hy := of_decide_eq_true (show decide (0 ≤ y ∧ y < 16) = true from hy)
          obtain ⟨yn, rfl⟩ : ∃ n : Nat, y = (n : Int) := ⟨y.toNat, by omega⟩
          have hyn : yn < 16 := by omega
          clear hy
          go_wp2_with fail
          refine wp_region_ser [(0, false, []), (1, false, []), (2, false, []), (3, false, []), (4, false, []), (5, false, []), (6, false, []), (7, false, []), (8, false, []), (9, true, [])] (by kernel_rfl) (by kernel_rfl) ?_
          have e4 : Ext no w2 w2.drew := (Ext.refl no w2).drew
          have hm4 := e4.heap hm1 (not_no _)
          have hT4 := hT2.ext e4 (not_no _)
          have hB4 : Below w.heap.size w w2.drew := hB2.drew
          generalize w2.drew = w4 at *
          clear hm1 hT2 hB2 e4 d0 d1
          have d0 : w4.cell? ⟨v, 0, none⟩ = some (.int .i64 (xn : Int)) := by rw [cell_of_block hm4]; rfl
          have d1 : w4.cell? ⟨v, 1, none⟩ = some (.int .i64 (yn : Int)) := by rw [cell_of_block hm4]; rfl
          have i1 : (0 : Int) ≤ (xn : Int) := by omega
          have i2 : (xn : Int) < 16 := by omega
          have i3 : (0 : Int) ≤ (yn : Int) := by omega
          have i4 : (yn : Int) < 16 := by omega
          have hbn : xn * 16 + yn < 256 := by omega
          have x1 := (cell_of_block hT4 (256 + (xn * 16 + yn))).trans (bcell_join _ _ hbn)
          have f1 := free_of_block hT4 (256 + (xn * 16 + yn))
          rw [← Nat.add_assoc] at x1 f1
          repeat (first | (refine ser_next (by rfl) (by rfl) (by rfl) (fun K hK => ?_); (first | go_big_move | go_big_op); refine hK _ ?_; clear hK K) | (refine ser_off (by rfl) (by rfl) ?_; simp only [Act.put, List.setIfInBounds_toArray, List.set_cons_zero, List.set_cons_succ]))
          refine ser_eff (by rfl) (by rfl) (fun K hK => ?_)
          go_big_op
          have hT5 := block_setCell hT4 (256 + (xn * 16 + yn)) (.bool true)
          rw [bcells_join _ _ true hbn] at hT5
          have hus : (⟨T.cls, fun k => if k = xn * 16 + yn then true else T.join k⟩ : BTab) = T.joined ((xn : Int), (yn : Int)) := by
            simp only [BTab.joined]
            congr
            funext k
            by_cases h : k = xn * 16 + yn
            · rw [if_pos h, if_pos (by omega)]
            · rw [if_neg h, if_neg (by omega)]
          rw [hus, ← Nat.add_assoc] at hT5
          have hB5 := hB4.setCell (p := ⟨t, 256 + xn * 16 + yn, none⟩) ht' (.bool true)
          generalize w4.setCell ⟨t, 256 + xn * 16 + yn, none⟩ (.bool true) = w5 at *
          refine hK _ _ ag_nil ?_
          clear hK K
          refine ser_nil ?_
          clear d0 d1 x1 f1 hm4 hT4 hB4 hus
          go_wp2
          go_roundw
          case measure => simp [intOf]; omega
          case rel =>
            refine ⟨k + 1, T.joined ((xn : Int), (yn : Int)), by omega, by go_num, hT5, ht', ?_, hB5⟩
            rw [HA.out, HD.out, boundJoins, HX.out, HY.out]; rfl
        · obtain rfl : k = js.length := by omega
          go_wp2
          go_ret2
          have hA : boundNew cs js = some T := by rw [HA.out, List.drop_eq_nil_of_le (Nat.le_refl _)]; rfl
          refine ⟨hB, ?_⟩
          rw [hA]
          exact ⟨t, rfl, hT, ht'⟩
end Go.Proofs.YtiiaklaojlnokaaGreatDoor.B
