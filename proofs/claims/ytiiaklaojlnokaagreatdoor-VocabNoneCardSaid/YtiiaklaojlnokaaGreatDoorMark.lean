/- Package mark: what a set is in memory (MSetAt), and its functions' contracts. -/
import Derived.Test.YtiiaklaojlnokaaGreatDoorOwn
set_option linter.unusedVariables false
set_option linter.unusedSimpArgs false
namespace Go.Proofs.YtiiaklaojlnokaaGreatDoor.B
open Go Go.RowKit
set_option maxRecDepth 100000

theorem i_special : (Tryz.prog.info? 56).map (fun i => (i.zero, i.size, i.bytes)) = some (some (.agg #[.int .i64 0, .string ByteArray.empty]), 2, 24) := by kernel_rfl
theorem k_int : KeyLaw Tryz.prog 3 (Value.int .i64) := keyInt Tryz.underlying3
def scells (l : List (Int × ByteArray)) : List Value := l.flatMap fun p => [.int .i64 p.1, .string p.2]
theorem scells_length (l : List (Int × ByteArray)) : (scells l).length = l.length * 2 := by
  induction l with
  | nil => rfl
  | cons p l ih =>
    have : scells (p :: l) = [.int .i64 p.1, .string p.2] ++ scells l := rfl
    rw [this, List.length_append, ih]; simp; omega
theorem scells_append (a b : List (Int × ByteArray)) : scells (a ++ b) = scells a ++ scells b := by simp [scells]
theorem scells_at (l : List (Int × ByteArray)) (i : Nat) (p : Int × ByteArray) (h : l[i]? = some p) : (scells l)[i * 2]? = some (.int .i64 p.1) ∧ (scells l)[i * 2 + 1]? = some (.string p.2) := by
  induction l generalizing i with
  | nil => simp at h
  | cons q l ih =>
    have hf : scells (q :: l) = [.int .i64 q.1, .string q.2] ++ scells l := rfl
    cases i with
    | zero =>
      simp only [List.getElem?_cons_zero, Option.some.injEq] at h
      subst h
      rw [hf]; exact ⟨rfl, rfl⟩
    | succ i =>
      have := ih i (by simpa using h)
      rw [hf, List.getElem?_append_right (by simp; omega), List.getElem?_append_right (by simp; omega)]
      simp only [List.length_cons, List.length_nil]
      rw [show (i + 1) * 2 - (0 + 1 + 1) = i * 2 by omega, show (i + 1) * 2 + 1 - (0 + 1 + 1) = i * 2 + 1 by omega]
      exact this

/-- A set of special tokens, as plain data. -/
structure MSet where
  l : List (Int × ByteArray)
  ids : List (Int × Nat)
  texts : List (ByteArray × Nat)
  first : List Bool
  most : Nat
def MSet.cells (S : MSet) (v : Value) (im tm : Nat) : List Value := v :: .map (some im) :: .map (some tm) :: (S.first.map Value.bool ++ [.int .i64 (S.most : Int)])
structure MSetIn (B : Nat) (w : World) (m : Nat) (S : MSet) (v : Value) (im tm : Nat) : Prop where
  ht : w.heap[m]? = some (.cells (S.cells v im tm).toArray 179 (0, 0))
  hf : S.first.length = 256
  hl : w.ownsRow B 56 2 v S.l.length (scells S.l)
  hi : MapAt w im (Value.int .i64) natV S.ids
  hx : MapAt w tm Value.string natV S.texts
  hne : im ≠ tm
  mB : B ≤ m
  iB : B ≤ im
  xB : B ≤ tm
def MSetAt (B : Nat) (w : World) (m : Nat) (S : MSet) : Prop := ∃ v im tm, MSetIn B w m S v im tm
theorem MSetIn.row_ne {B : Nat} {w : World} {m : Nat} {S : MSet} {v : Value} {im tm : Nat} (h : MSetIn B w m S v im tm) {k : Nat} (hk : rowOf v k) : m ≠ k ∧ im ≠ k ∧ tm ≠ k ∧ B ≤ k := by
  obtain ⟨⟨cur, hc⟩, hB⟩ := own_row h.hl hk
  exact ⟨ne_of_types h.ht hc (by decide), h.hi.ne hc, h.hx.ne hc, hB⟩
theorem MSetIn.ext {B : Nat} {T : Nat → Prop} {w w' : World} {m : Nat} {S : MSet} {v : Value} {im tm : Nat} (h : MSetIn B w m S v im tm) (e : Ext T w w')
    (hT : ∀ k, T k → k < w.heap.size → ∃ c ty fr, w.heap[k]? = some (.cells c ty fr) ∧ ty ≠ 179 ∧ ty ≠ 56) : MSetIn B w' m S v im tm := by
  have off : ∀ b o, w.heap[b]? = some o → (∀ c ty fr, o = .cells c ty fr → ty = 179 ∨ ty = 56) → ¬ T b := by
    intro b o ho hc hs
    obtain ⟨c, ty, fr, h1, h2, h3⟩ := hT b hs (lt_of_block ho)
    rw [ho] at h1; cases h1
    rcases hc c ty fr rfl with rfl | rfl
    · exact h2 rfl
    · exact h3 rfl
  obtain ⟨es, c, hbm, _⟩ := id h.hi
  obtain ⟨es', c', hpm, _⟩ := id h.hx
  refine ⟨e.heap h.ht (off m _ h.ht (fun c ty fr hc => by cases hc; exact .inl rfl)), h.hf, own_ext h.hl e ?_, h.hi.ext e (off im _ hbm (fun c ty fr hc => by cases hc)), h.hx.ext e (off tm _ hpm (fun c ty fr hc => by cases hc)), h.hne, h.mB, h.iB, h.xB⟩
  intro k hk
  obtain ⟨⟨cur, hc⟩, _⟩ := own_row h.hl hk
  exact off k _ hc (fun c ty fr hc => by cases hc; exact .inr rfl)
theorem MSetIn.keep {B : Nat} {w w' : World} {m : Nat} {S : MSet} {v : Value} {im tm : Nat} (h : MSetIn B w m S v im tm) (e : Ext no w w') : MSetIn B w' m S v im tm := h.ext e (fun _ hs => absurd hs (not_no _))
theorem MSetAt.keep {B : Nat} {w w' : World} {m : Nat} {S : MSet} (h : MSetAt B w m S) (e : Ext no w w') : MSetAt B w' m S := by
  obtain ⟨v, im, tm, h⟩ := h
  exact ⟨v, im, tm, h.keep e⟩
theorem MSetIn.c0 {B : Nat} {w : World} {m : Nat} {S : MSet} {v : Value} {im tm : Nat} (h : MSetIn B w m S v im tm) : w.cell? ⟨m, 0, none⟩ = some v := by rw [cell_of_block h.ht]; rfl
theorem MSetIn.c1 {B : Nat} {w : World} {m : Nat} {S : MSet} {v : Value} {im tm : Nat} (h : MSetIn B w m S v im tm) : w.cell? ⟨m, 1, none⟩ = some (.map (some im)) := by rw [cell_of_block h.ht]; rfl
theorem MSetIn.c2 {B : Nat} {w : World} {m : Nat} {S : MSet} {v : Value} {im tm : Nat} (h : MSetIn B w m S v im tm) : w.cell? ⟨m, 2, none⟩ = some (.map (some tm)) := by rw [cell_of_block h.ht]; rfl
theorem cells_list (S : MSet) (v v' : Value) (im tm : Nat) : (S.cells v im tm).toArray.setIfInBounds 0 v' = (S.cells v' im tm).toArray := by
  rw [List.setIfInBounds_toArray]; rfl
theorem cells_first (S : MSet) (v : Value) (im tm d : Nat) (hd : d < S.first.length) : (S.cells v im tm).toArray.setIfInBounds (3 + d) (.bool true) = (MSet.cells { S with first := S.first.set d true } v im tm).toArray := by
  rw [List.setIfInBounds_toArray, show 3 + d = d + 1 + 1 + 1 by omega]
  simp only [MSet.cells, List.set_cons_succ]
  rw [List.set_append_left _ _ (by rw [List.length_map]; exact hd), List.map_set]
theorem cells_most (S : MSet) (v : Value) (im tm k : Nat) (hd : S.first.length = 256) : (S.cells v im tm).toArray.setIfInBounds 259 (.int .i64 (k : Int)) = (MSet.cells { S with most := k } v im tm).toArray := by
  rw [List.setIfInBounds_toArray, show 259 = 256 + 1 + 1 + 1 by omega]
  simp only [MSet.cells, List.set_cons_succ]
  rw [List.set_append_right _ _ (by rw [List.length_map]; omega)]
  simp [hd]
theorem cell_first (S : MSet) (v : Value) (im tm k : Nat) (hd : S.first.length = 256) (hk : k < 256) : (S.cells v im tm).toArray[3 + k]? = some (.bool (S.first.getD k false)) := by
  simp only [MSet.cells, List.getElem?_toArray]
  rw [show 3 + k = k + 1 + 1 + 1 by omega]
  simp only [List.getElem?_cons_succ]
  rw [List.getElem?_append_left (by rw [List.length_map]; omega), List.getElem?_map, List.getD_eq_getElem?_getD, List.getElem?_eq_getElem (by omega)]
  rfl
theorem cell_most (S : MSet) (v : Value) (im tm : Nat) (hd : S.first.length = 256) : (S.cells v im tm).toArray[259]? = some (.int .i64 (S.most : Int)) := by
  simp only [MSet.cells, List.getElem?_toArray]
  rw [show 259 = 256 + 1 + 1 + 1 by omega]
  simp only [List.getElem?_cons_succ]
  rw [List.getElem?_append_right (by rw [List.length_map]; omega)]
  simp [hd]

theorem MSetIn.cf {B : Nat} {w : World} {m : Nat} {S : MSet} {v : Value} {im tm : Nat} (h : MSetIn B w m S v im tm) {k : Nat} (hk : k < 256) : w.cell? ⟨m, 3 + k, none⟩ = some (.bool (S.first.getD k false)) := by
  rw [cell_of_block h.ht]; exact cell_first S v im tm k h.hf hk
theorem MSetIn.c259 {B : Nat} {w : World} {m : Nat} {S : MSet} {v : Value} {im tm : Nat} (h : MSetIn B w m S v im tm) : w.cell? ⟨m, 259, none⟩ = some (.int .i64 (S.most : Int)) := by
  rw [cell_of_block h.ht]; exact cell_most S v im tm h.hf
/-! ### right -/
theorem size_nil (s : ByteArray) : s.toList = [] ↔ s.size = 0 := by
  rw [ByteArray.toList_eq]
  constructor
  · intro h
    have h2 : s.data.toList.length = 0 := by rw [h]; rfl
    exact h2
  · intro h
    have h2 : s.data.toList.length = 0 := h
    exact List.length_eq_zero_iff.1 h2
theorem not_empty (s : ByteArray) : (!s.toList.isEmpty) = decide (s.size ≠ 0) := by
  rw [Bool.eq_iff_iff]
  simp only [Bool.not_eq_true', decide_eq_true_eq, List.isEmpty_eq_false_iff, ne_eq, size_nil]
def markRight (x : Int × ByteArray) : Bool := decide (0 ≤ x.1 ∧ x.1 ≤ 1073741824 ∧ x.2.size ≠ 0 ∧ x.2.size ≤ 64)
def specV (x : Int × ByteArray) : Value := .agg #[.int .i64 x.1, .string x.2]
set_option maxHeartbeats 400000
theorem mark_right (w : World) (n : Int) (s : ByteArray) (hs : s.size ≤ 4611686018427387903) : Calls Tryz.prog 159 #[.agg #[.int .i64 n, .string s]] w fun e w' => e = .returned (.bool (markRight (n, s))) ∧ Ext no w w' := by
  have e1 : Ext no w (w.alloc (.cells #[.int .i64 n, .string s] 56)) := (Ext.refl _ _).alloc _
  go_enter Tryz.func159, Tryz.ntmps159
  go_wp2
  all_goals
    go_ret
    refine ⟨?_, e1⟩
    refine congrArg (fun b => Ending.returned (.bool b)) ?_
    try simp only [not_empty, size_nil] at *
  · have : markRight (n, s) = false := by simp only [markRight, decide_eq_false_iff_not]; simp_all
    exact this.symm
  · rw [Bool.eq_iff_iff]; simp only [markRight, Bool.and_eq_true, decide_eq_true_eq, ne_eq]; omega
  · have : markRight (n, s) = false := by simp only [markRight, decide_eq_false_iff_not]; omega
    exact this.symm
  · have : markRight (n, s) = false := by simp only [markRight, decide_eq_false_iff_not]; omega
    exact this.symm

/-! ### add -/
def MSet.add (S : MSet) (x : Int × ByteArray) : MSet × Int :=
  if markRight x = false then (S, 1) else if 32 ≤ S.l.length then (S, 3) else if (mget S.ids x.1).isSome || (mget S.texts x.2).isSome then (S, 10)
  else ({ l := S.l ++ [x], ids := mput S.ids x.1 S.l.length, texts := mput S.texts x.2 S.l.length, first := S.first.set (x.2.data.getD 0 0).toNat true, most := max S.most x.2.size }, 0)
theorem mark_add {B : Nat} {w : World} {m : Nat} {S : MSet} (h : MSetAt B w m S) (hB : B ≤ w.heap.size) (n : Int) (s : ByteArray) (hs : s.size ≤ 4611686018427387903) :
    Calls Tryz.prog 114 #[.pointer (some ⟨m, 0, none⟩), .agg #[.int .i64 n, .string s]] w fun e w' => e = .returned (.int .i64 (S.add (n, s)).2) ∧ Below B w w' ∧ MSetAt B w' m (S.add (n, s)).1 := by
  obtain ⟨v, im, tm, hI⟩ := h
  obtain ⟨A, c, rfl, _⟩ := own_at hI.hl
  have hl64 := own_len hI.hl
  go_enter Tryz.func114, Tryz.ntmps114
  go_wp2_with fail
  generalize hw1 : w.alloc (.cells #[.int .i64 n, .string s] 56) = w1
  have e1 : Ext no w w1 := by rw [← hw1]; exact (Ext.refl _ _).alloc _
  have hm1 : w1.heap[w.heap.size]? = some (.cells #[.int .i64 n, .string s] 56 (0, 0)) := by rw [← hw1]; exact block_new _ _
  clear hw1
  refine wp_region_ser [(0, false, []), (1, false, []), (2, false, []), (3, false, []), (4, false, []), (5, false, []), (6, false, []), (7, false, []), (8, false, []), (9, false, []), (10, false, []), (11, false, [])] (by kernel_rfl) (by kernel_rfl) ?_
  have e2 : Ext no w w1.drew := e1.drew
  have hm2 := ((Ext.refl no w1).drew).heap hm1 (not_no _)
  generalize w1.drew = w2 at *
  clear e1 hm1
  have hI2 := hI.keep e2
  have c1 := hI2.c1
  have m0 : w2.cell? ⟨w.heap.size, 0, none⟩ = some (.int .i64 n) := by rw [cell_of_block hm2]; rfl
  repeat (first | (refine ser_next (by rfl) (by rfl) (by rfl) (fun K hK => ?_); (first | go_big_move | go_big_op); refine hK _ ?_; clear hK K) | (refine ser_off (by rfl) (by rfl) ?_; simp only [Act.put, List.setIfInBounds_toArray, List.set_cons_zero, List.set_cons_succ]))
  refine ser_next (by rfl) (by rfl) (by rfl) (fun K hK => ?_)
  refine wp_lookup_any _ _ _ rfl k_int Tryz.underlying175 hI2.hi (z_int _) n rfl rfl ?_
  simp only [Act.put, List.setIfInBounds_toArray, List.set_cons_zero, List.set_cons_succ]
  refine hK _ ?_; clear hK K
  repeat (first | (refine ser_next (by rfl) (by rfl) (by rfl) (fun K hK => ?_); (first | go_big_move | go_big_op); refine hK _ ?_; clear hK K) | (refine ser_off (by rfl) (by rfl) ?_; simp only [Act.put, List.setIfInBounds_toArray, List.set_cons_zero, List.set_cons_succ]))
  refine ser_nil ?_
  go_wp2_with fail
  refine wp_region_ser [(0, false, []), (1, false, []), (2, false, []), (3, false, []), (4, false, []), (5, false, []), (6, false, []), (7, false, []), (8, false, []), (9, false, []), (10, false, []), (11, false, [])] (by kernel_rfl) (by kernel_rfl) ?_
  have e3 : Ext no w w2.drew := e2.drew
  have hm3 := ((Ext.refl no w2).drew).heap hm2 (not_no _)
  generalize w2.drew = w3 at *
  clear e2 hm2 hI2 c1 m0
  have hI3 := hI.keep e3
  have c2 := hI3.c2
  have m1 : w3.cell? ⟨w.heap.size, 1, none⟩ = some (.string s) := by rw [cell_of_block hm3]; rfl
  repeat (first | (refine ser_next (by rfl) (by rfl) (by rfl) (fun K hK => ?_); (first | go_big_move | go_big_op); refine hK _ ?_; clear hK K) | (refine ser_off (by rfl) (by rfl) ?_; simp only [Act.put, List.setIfInBounds_toArray, List.set_cons_zero, List.set_cons_succ]))
  refine ser_next (by rfl) (by rfl) (by rfl) (fun K hK => ?_)
  refine wp_lookup_any _ _ _ rfl k_str Tryz.underlying176 hI3.hx (z_int _) s rfl rfl ?_
  simp only [Act.put, List.setIfInBounds_toArray, List.set_cons_zero, List.set_cons_succ]
  refine hK _ ?_; clear hK K
  repeat (first | (refine ser_next (by rfl) (by rfl) (by rfl) (fun K hK => ?_); (first | go_big_move | go_big_op); refine hK _ ?_; clear hK K) | (refine ser_off (by rfl) (by rfl) ?_; simp only [Act.put, List.setIfInBounds_toArray, List.set_cons_zero, List.set_cons_succ]))
  refine ser_nil ?_
  have m0 : w3.cell? ⟨w.heap.size, 0, none⟩ = some (.int .i64 n) := by rw [cell_of_block hm3]; rfl
  go_wp2_with fail
  refine (mark_right _ n s hs).mono ?_
  rintro e w4 ⟨rfl, e4⟩
  have hm4 := e4.heap hm3 (not_no _)
  have hI4 := hI3.keep e4
  have hB4 : Ext no w w4 := e3.trans e4
  have nob : Below B w w4 ∧ MSetAt B w4 m S := ⟨hB4.below hB (fun _ hk => absurd hk (not_no _)), _, _, _, hI4⟩
  clear c2 m1 m0 hm3 hI3 e3 e4
  cases hR : markRight (n, s) with
  | false =>
    have hA := Lib.hid (show S.add (n, s) = (S, 1) by simp only [MSet.add, hR, if_true])
    clear hR
    go_wp2
    go_ret
    rw [hA.out]
    exact ⟨rfl, nob⟩
  | true =>
  have c0 := hI4.c0
  by_cases hL : 32 ≤ S.l.length
  · have hA := Lib.hid (show S.add (n, s) = (S, 3) by simp only [MSet.add, hR, hL, if_true]; rfl)
    clear hR
    go_wp2
    go_ret
    rw [hA.out]
    exact ⟨rfl, nob⟩
  cases hT : (mget S.ids n).isSome || (mget S.texts s).isSome with
  | true =>
    have hA := Lib.hid (show S.add (n, s) = (S, 10) by simp only [MSet.add, hR, hL, hT, if_true, if_false]; rfl)
    have HT := Lib.hid hT
    clear hR hT
    cases h1 : (mget S.ids n).isSome with
    | true =>
      clear h1 HT
      go_wp2
      go_ret
      rw [hA.out]
      exact ⟨rfl, nob⟩
    | false =>
      have h2 : (mget S.texts s).isSome = true := by have := HT.out; rw [h1] at this; exact this
      rw [h2]
      clear h1 h2 HT
      go_wp2
      go_ret
      rw [hA.out]
      exact ⟨rfl, nob⟩
  | false =>
  have hpos : s.size ≠ 0 := by have := of_decide_eq_true (show decide (0 ≤ n ∧ n ≤ 1073741824 ∧ s.size ≠ 0 ∧ s.size ≤ 64) = true from hR); omega
  have hs64 : s.size ≤ 64 := by have := of_decide_eq_true (show decide (0 ≤ n ∧ n ≤ 1073741824 ∧ s.size ≠ 0 ∧ s.size ≤ 64) = true from hR); omega
  have hA := Lib.hid (show S.add (n, s) = ({ l := S.l ++ [(n, s)], ids := mput S.ids n S.l.length, texts := mput S.texts s S.l.length, first := S.first.set (s.data.getD 0 0).toNat true, most := max S.most s.size }, 0) by simp only [MSet.add, hR, hL, hT, if_false]; rfl)
  rw [Bool.or_eq_false_iff] at hT
  obtain ⟨h1, h2⟩ := hT
  rw [h1, h2]
  clear hR h1 h2
  go_wp2_with fail
  have hm4 := hm4
  refine wp_region_ser [(0, false, []), (1, false, []), (2, false, []), (3, false, []), (4, false, []), (5, false, []), (6, false, []), (7, false, []), (8, false, []), (9, false, []), (10, false, []), (11, false, []), (12, false, []), (13, false, []), (14, false, []), (15, false, []), (16, false, []), (17, false, []), (18, false, []), (19, false, []), (20, false, []), (21, false, []), (22, true, [10, 11, 12, 13, 14, 15, 16, 21]), (23, false, []), (24, true, [10, 11, 21]), (25, true, [21]), (26, false, []), (27, true, [])] (by kernel_rfl) (by kernel_rfl) ?_
  have e5 : Ext no w w4.drew := hB4.drew
  have e45 : Ext no w4 w4.drew := (Ext.refl no w4).drew
  have hm5 := e45.heap hm4 (not_no _)
  have hI5 := hI4.keep e45
  clear e45 hm4 hI4 hB4 nob
  generalize w4.drew = w5 at *
  clear c0
  have c0 := hI5.c0
  have c1 := hI5.c1
  have c2 := hI5.c2
  have m0 : w5.cell? ⟨w.heap.size, 0, none⟩ = some (.int .i64 n) := by rw [cell_of_block hm5]; rfl
  have m1 : w5.cell? ⟨w.heap.size, 1, none⟩ = some (.string s) := by rw [cell_of_block hm5]; rfl
  have hBw : B ≤ w5.heap.size := Nat.le_trans hB e5.size
  have him : w.heap.size ≠ im := Ne.symm (hI5.hi.ne hm5)
  have htm : w.heap.size ≠ tm := Ne.symm (hI5.hx.ne hm5)
  have hmim : m ≠ im := Ne.symm (hI5.hi.ne hI5.ht)
  have hmtm : m ≠ tm := Ne.symm (hI5.hx.ne hI5.ht)
  have hmm : w.heap.size ≠ m := ne_of_types hm5 hI5.ht (by decide)
  repeat (first | (refine ser_next (by rfl) (by rfl) (by rfl) (fun K hK => ?_); (first | go_big_move | go_big_op); refine hK _ ?_; clear hK K) | (refine ser_off (by rfl) (by rfl) ?_; simp only [Act.put, List.setIfInBounds_toArray, List.set_cons_zero, List.set_cons_succ]))
  refine ser_eff (by rfl) (by rfl) (fun K hK => ?_)
  refine wp_mapEntry _ _ _ rfl k_int Tryz.underlying175 hI5.hi (z_int _) n rfl rfl ?_
  intro w6 s1 hi6 e6 _
  clear c0 c1 c2 m0 m1
  have ht6 := e6.heap1 hI5.ht hmim
  have hm6 := e6.heap1 hm5 him
  have hx6 := hI5.hx.ext e6 (Ne.symm hI5.hne)
  have c0 : w6.cell? ⟨m, 0, none⟩ = some (.slice A S.l.length c) := by rw [cell_of_block ht6]; rfl
  have c2 : w6.cell? ⟨m, 2, none⟩ = some (.map (some tm)) := by rw [cell_of_block ht6]; rfl
  have m1 : w6.cell? ⟨w.heap.size, 1, none⟩ = some (.string s) := by rw [cell_of_block hm6]; rfl
  simp only [Act.put, List.setIfInBounds_toArray, List.set_cons_zero, List.set_cons_succ]
  refine hK _ _ ?_ ?_
  · repeat (first | exact ag_nil | (refine ag_cons (by rfl) (by rfl) (by rfl) (by rfl) (by rfl) (fun K hK => ?_) ?_; · ((first | go_big_move | go_big_op); exact hK)) | (refine ag_off (by rfl) (by rfl) (by rfl) (by rfl) ?_))
  clear hK K
  repeat (first | (refine ser_next (by rfl) (by rfl) (by rfl) (fun K hK => ?_); (first | go_big_move | go_big_op); refine hK _ ?_; clear hK K) | (refine ser_off (by rfl) (by rfl) ?_; simp only [Act.put, List.setIfInBounds_toArray, List.set_cons_zero, List.set_cons_succ]))
  refine ser_eff (by rfl) (by rfl) (fun K hK => ?_)
  refine wp_entryStore _ _ _ _ rfl hi6 rfl rfl S.l.length rfl ?_
  intro w7 hi7 e7 _
  clear c0 c2 m1
  have ht7 := e7.heap1 ht6 hmim
  have hm7 := e7.heap1 hm6 him
  have hx7 := hx6.ext e7 (Ne.symm hI5.hne)
  have c0 : w7.cell? ⟨m, 0, none⟩ = some (.slice A S.l.length c) := by rw [cell_of_block ht7]; rfl
  have m1 : w7.cell? ⟨w.heap.size, 1, none⟩ = some (.string s) := by rw [cell_of_block hm7]; rfl
  simp only [Act.put, List.setIfInBounds_toArray, List.set_cons_zero, List.set_cons_succ]
  refine hK _ _ ?_ ?_
  · repeat (first | exact ag_nil | (refine ag_cons (by rfl) (by rfl) (by rfl) (by rfl) (by rfl) (fun K hK => ?_) ?_; · ((first | go_big_move | go_big_op); exact hK)) | (refine ag_off (by rfl) (by rfl) (by rfl) (by rfl) ?_))
  clear hK K
  refine ser_eff (by rfl) (by rfl) (fun K hK => ?_)
  refine wp_mapEntry _ _ _ rfl k_str Tryz.underlying176 hx7 (z_int _) s rfl rfl ?_
  intro w8 s2 hx8 e8 _
  clear c0 m1
  have ht8 := e8.heap1 ht7 hmtm
  have hm8 := e8.heap1 hm7 htm
  have hi8 := hi7.ext e8 hI5.hne
  have c0 : w8.cell? ⟨m, 0, none⟩ = some (.slice A S.l.length c) := by rw [cell_of_block ht8]; rfl
  simp only [Act.put, List.setIfInBounds_toArray, List.set_cons_zero, List.set_cons_succ]
  refine hK _ _ ?_ ?_
  · repeat (first | exact ag_nil | (refine ag_cons (by rfl) (by rfl) (by rfl) (by rfl) (by rfl) (fun K hK => ?_) ?_; · ((first | go_big_move | go_big_op); exact hK)) | (refine ag_off (by rfl) (by rfl) (by rfl) (by rfl) ?_))
  clear hK K
  repeat (first | (refine ser_next (by rfl) (by rfl) (by rfl) (fun K hK => ?_); (first | go_big_move | go_big_op); refine hK _ ?_; clear hK K) | (refine ser_off (by rfl) (by rfl) ?_; simp only [Act.put, List.setIfInBounds_toArray, List.set_cons_zero, List.set_cons_succ]))
  refine ser_eff (by rfl) (by rfl) (fun K hK => ?_)
  refine wp_entryStore _ _ _ _ rfl hx8 rfl rfl S.l.length rfl ?_
  intro w9 hx9 e9 _
  clear c0
  have ht9 := e9.heap1 ht8 hmtm
  have hm9 := e9.heap1 hm8 htm
  have hi9 := hi8.ext e9 hI5.hne
  simp only [Act.put, List.setIfInBounds_toArray, List.set_cons_zero, List.set_cons_succ]
  refine hK _ _ ag_nil ?_
  clear hK K
  refine ser_nil ?_
  go_wp2_with fail
  refine wp_region_ser [(0, false, []), (1, false, []), (2, false, []), (3, false, []), (4, false, []), (5, false, []), (6, false, []), (7, true, [])] (by kernel_rfl) (by kernel_rfl) ?_
  have e10 : Ext no w9 w9.drew := (Ext.refl no w9).drew
  have ht10 := e10.heap ht9 (not_no _)
  have hm10 := e10.heap hm9 (not_no _)
  have hi10 := hi9.ext e10 (not_no _)
  have hx10 := hx9.ext e10 (not_no _)
  generalize w9.drew = w10 at *
  have m1 : w10.cell? ⟨w.heap.size, 1, none⟩ = some (.string s) := by rw [cell_of_block hm10]; rfl
  have hp0 : (0 : Int) < (s.size : Int) := by omega
  have hp1 : 0 < s.size := by omega
  have hb1 : (((s[0]'hp1).toNat : Nat) : Int) < 256 := by have := (s[0]'hp1).toNat_lt; omega
  repeat (first | (refine ser_next (by rfl) (by rfl) (by rfl) (fun K hK => ?_); (first | go_big_move | go_big_op); refine hK _ ?_; clear hK K) | (refine ser_off (by rfl) (by rfl) ?_; simp only [Act.put, List.setIfInBounds_toArray, List.set_cons_zero, List.set_cons_succ]))
  have hd256 : (s[0]'hp1).toNat < 256 := (s[0]'hp1).toNat_lt
  have hfd : (s.data.getD 0 0).toNat = (s[0]'hp1).toNat := by
    have : s.data.getD 0 0 = s[0]'hp1 := by
      rw [Array.getD_eq_getD_getElem?, Array.getElem?_eq_getElem (show 0 < s.data.size from hp1)]; rfl
    rw [this]
  rw [hfd] at hA
  generalize hgd : (s[0]'hp1).toNat = d at *
  clear hb1 hfd
  have x0 := (cell_of_block ht10 (3 + d)).trans (cell_first S _ im tm d hI5.hf hd256)
  have f0 := free_of_block ht10 (3 + d)
  refine ser_eff (by rfl) (by rfl) (fun K hK => ?_)
  go_big_op
  have ht11 := block_setCell ht10 (3 + d) (.bool true)
  rw [cells_first S _ im tm d (by rw [hI5.hf]; exact hd256)] at ht11
  have e11 : Ext (at1 m) w10 (w10.setCell ⟨m, 3 + d, none⟩ (.bool true)) := (Ext.refl (at1 m) w10).setCell (p := ⟨m, 3 + d, none⟩) (fun _ => rfl) _
  have hm11 := e11.heap1 hm10 hmm
  have hi11 := hi10.ext e11 (Ne.symm hmim)
  have hx11 := hx10.ext e11 (Ne.symm hmtm)
  generalize w10.setCell ⟨m, 3 + d, none⟩ (.bool true) = w11 at *
  refine hK _ _ ag_nil ?_
  clear hK K
  refine ser_nil ?_
  clear m1 x0 f0
  go_wp2_with fail
  refine wp_region_ser [(0, false, []), (1, false, []), (2, false, []), (3, false, []), (4, false, []), (5, false, []), (6, false, []), (7, false, []), (8, false, []), (9, false, []), (10, false, []), (11, true, [])] (by kernel_rfl) (by kernel_rfl) ?_
  have e12 : Ext no w11 w11.drew := (Ext.refl no w11).drew
  have ht12 := e12.heap ht11 (not_no _)
  have hm12 := e12.heap hm11 (not_no _)
  have hi12 := hi11.ext e12 (not_no _)
  have hx12 := hx11.ext e12 (not_no _)
  generalize w11.drew = w12 at *
  have m1 : w12.cell? ⟨w.heap.size, 1, none⟩ = some (.string s) := by rw [cell_of_block hm12]; rfl
  have hf1 : (S.first.set d true).length = 256 := by rw [List.length_set]; exact hI5.hf
  have c259 := (cell_of_block ht12 259).trans (cell_most _ _ im tm hf1)
  have f259 := free_of_block ht12 259
  repeat (first | (refine ser_next (by rfl) (by rfl) (by rfl) (fun K hK => ?_); (first | go_big_move | go_big_op); refine hK _ ?_; clear hK K) | (refine ser_off (by rfl) (by rfl) ?_; simp only [Act.put, List.setIfInBounds_toArray, List.set_cons_zero, List.set_cons_succ]))
  have hmx : (if S.most < s.size then (s.size : Int) else (S.most : Int)) = ((max S.most s.size : Nat) : Int) := by split <;> omega
  rw [hmx]
  refine ser_eff (by rfl) (by rfl) (fun K hK => ?_)
  go_big_op
  have ht13 := block_setCell ht12 259 (.int .i64 ((max S.most s.size : Nat) : Int))
  rw [cells_most _ _ im tm _ hf1] at ht13
  have e13 : Ext (at1 m) w12 (w12.setCell ⟨m, 259, none⟩ (.int .i64 ((max S.most s.size : Nat) : Int))) := (Ext.refl (at1 m) w12).setCell (p := ⟨m, 259, none⟩) (fun _ => rfl) _
  have hm13 := e13.heap1 hm12 hmm
  have hi13 := hi12.ext e13 (Ne.symm hmim)
  have hx13 := hx12.ext e13 (Ne.symm hmtm)
  generalize w12.setCell ⟨m, 259, none⟩ (.int .i64 ((max S.most s.size : Nat) : Int)) = w13 at *
  refine hK _ _ ag_nil ?_
  clear hK K
  refine ser_nil ?_
  clear m1 c259 f259 hmx
  go_wp2_with fail
  refine wp_region_ser [(0, false, []), (1, false, []), (2, false, []), (3, false, []), (4, false, []), (5, false, []), (6, true, [0, 1, 2, 3, 4]), (7, true, [0]), (8, false, []), (9, false, []), (10, true, [])] (by kernel_rfl) (by kernel_rfl) ?_
  have e14 : Ext no w13 w13.drew := (Ext.refl no w13).drew
  have ht14 := e14.heap ht13 (not_no _)
  have hm14 := e14.heap hm13 (not_no _)
  have hi14 := hi13.ext e14 (not_no _)
  have hx14 := hx13.ext e14 (not_no _)
  generalize w13.drew = w14 at *
  have hrn := fun k hk => hI5.row_ne (k := k) hk
  have hl14 : w14.ownsRow B 56 2 (.slice A S.l.length c) S.l.length (scells S.l) := by
    have a6 := own_ext hI5.hl e6 (fun k hk he => (hrn k hk).2.1 he.symm)
    have a7 := own_ext a6 e7 (fun k hk he => (hrn k hk).2.1 he.symm)
    have a8 := own_ext a7 e8 (fun k hk he => (hrn k hk).2.2.1 he.symm)
    have a9 := own_ext a8 e9 (fun k hk he => (hrn k hk).2.2.1 he.symm)
    have a10 := own_ext a9 e10 (fun k hk => not_no _)
    have a11 := own_ext a10 e11 (fun k hk he => (hrn k hk).1 he.symm)
    have a12 := own_ext a11 e12 (fun k hk => not_no _)
    have a13 := own_ext a12 e13 (fun k hk he => (hrn k hk).1 he.symm)
    exact own_ext a13 e14 (fun k hk => not_no _)
  have bel14 : Below B w w14 := by
    have z5 : B ≤ w5.heap.size := hBw
    have z6 := Nat.le_trans z5 e6.size
    have z7 := Nat.le_trans z6 e7.size
    have z8 := Nat.le_trans z7 e8.size
    have z9 := Nat.le_trans z8 e9.size
    have z10 := Nat.le_trans z9 e10.size
    have z11 := Nat.le_trans z10 e11.size
    have z12 := Nat.le_trans z11 e12.size
    have z13 := Nat.le_trans z12 e13.size
    have b5 := e5.below hB (fun k hk => absurd hk (not_no _))
    have b6 := e6.below z5 (fun k hk => by rw [hk]; exact hI5.iB)
    have b7 := e7.below z6 (fun k hk => by rw [hk]; exact hI5.iB)
    have b8 := e8.below z7 (fun k hk => by rw [hk]; exact hI5.xB)
    have b9 := e9.below z8 (fun k hk => by rw [hk]; exact hI5.xB)
    have b10 := e10.below z9 (fun k hk => absurd hk (not_no _))
    have b11 := e11.below z10 (fun k hk => by rw [hk]; exact hI5.mB)
    have b12 := e12.below z11 (fun k hk => absurd hk (not_no _))
    have b13 := e13.below z12 (fun k hk => by rw [hk]; exact hI5.mB)
    have b14 := e14.below z13 (fun k hk => absurd hk (not_no _))
    exact ((((((((b5.trans b6).trans b7).trans b8).trans b9).trans b10).trans b11).trans b12).trans b13).trans b14
  have hB14 : B ≤ w14.heap.size := Nat.le_trans hB bel14.size
  clear e5 e6 e7 e8 e9 e10 e11 e12 e13 e14 ht6 ht7 ht8 ht9 ht10 ht11 ht12 ht13 hm5 hm6 hm7 hm8 hm9 hm10 hm11 hm12 hm13 hi6 hi7 hi8 hi9 hi10 hi11 hi12 hi13 hx6 hx7 hx8 hx9 hx10 hx11 hx12 hx13
  have c0 : w14.cell? ⟨m, 0, none⟩ = some (.slice A S.l.length c) := by rw [cell_of_block ht14]; rfl
  have m0 : w14.cell? ⟨w.heap.size, 0, none⟩ = some (.int .i64 n) := by rw [cell_of_block hm14]; rfl
  have m1 : w14.cell? ⟨w.heap.size, 1, none⟩ = some (.string s) := by rw [cell_of_block hm14]; rfl
  repeat (first | (refine ser_next (by rfl) (by rfl) (by rfl) (fun K hK => ?_); (first | go_big_move | go_big_op); refine hK _ ?_; clear hK K) | (refine ser_off (by rfl) (by rfl) ?_; simp only [Act.put, List.setIfInBounds_toArray, List.set_cons_zero, List.set_cons_succ]))
  refine ser_eff (by rfl) (by rfl) (fun K hK => ?_)
  go_big_op
  generalize hw15 : w14.alloc (.cells #[.int .i64 n, .string s] 56) = w15
  have e15 : Ext no w14 w15 := by rw [← hw15]; exact (Ext.refl _ _).alloc _
  have c0' := e15.cell c0 (not_no _)
  have m0' := e15.cell m0 (not_no _)
  have m1' := e15.cell m1 (not_no _)
  clear c0 m0 m1
  refine hK _ _ ?_ ?_
  · repeat (first | exact ag_nil | (refine ag_cons (by rfl) (by rfl) (by rfl) (by rfl) (by rfl) (fun K hK => ?_) ?_; · ((first | go_big_move | go_big_op); exact hK)) | (refine ag_off (by rfl) (by rfl) (by rfl) (by rfl) ?_))
  clear hK K
  refine ser_eff (by rfl) (by rfl) (fun K hK => ?_)
  subst hw15
  refine wp_append1 rfl _ _ _ rfl B 56 Tryz.underlying29 i_special rfl (by decide) _ _ _ rfl hl14 #[.int .i64 n, .string s] rfl rfl (by simp [Value.oneCell']) (by unfold maxLen; omega) (by omega) hB14 ?_
  intro g cap w16 hown e16 hwh hlt
  clear c0' m0' m1' e15
  have hmr : ¬ rowOf (.slice A S.l.length c) m := fun hk => (hrn m hk).1 rfl
  have ht16 := e16.heap ht14 hmr
  have hi16 := hi14.ext e16 (fun hk => (hrn im hk).2.1 rfl)
  have hx16 := hx14.ext e16 (fun hk => (hrn tm hk).2.2.1 rfl)
  have bel16 := bel14.trans (e16.below hB14 (fun k hk => (hrn k hk).2.2.2))
  have c0 : w16.cell? ⟨m, 0, none⟩ = some (.slice A S.l.length c) := by rw [cell_of_block ht16]; rfl
  have f0 := free_of_block ht16 0
  simp only [Act.put, List.setIfInBounds_toArray, List.set_cons_zero, List.set_cons_succ]
  refine hK _ _ ?_ ?_
  · repeat (first | exact ag_nil | (refine ag_cons (by rfl) (by rfl) (by rfl) (by rfl) (by rfl) (fun K hK => ?_) ?_; · ((first | go_big_move | go_big_op); exact hK)) | (refine ag_off (by rfl) (by rfl) (by rfl) (by rfl) ?_))
  clear hK K
  repeat (first | (refine ser_next (by rfl) (by rfl) (by rfl) (fun K hK => ?_); (first | go_big_move | go_big_op); refine hK _ ?_; clear hK K) | (refine ser_off (by rfl) (by rfl) ?_; simp only [Act.put, List.setIfInBounds_toArray, List.set_cons_zero, List.set_cons_succ]))
  refine ser_eff (by rfl) (by rfl) (fun K hK => ?_)
  go_big_op
  have ht17 := block_setCell ht16 0 (.slice (some ⟨g, 0, none⟩) (S.l.length + 1) cap)
  rw [cells_list] at ht17
  have hgm : g ≠ m := by
    rcases hwh with h' | h'
    · rintro rfl; exact hmr h'
    · intro e; have := lt_of_block ht14; omega
  have e17 : Ext (at1 m) w16 (w16.setCell ⟨m, 0, none⟩ (.slice (some ⟨g, 0, none⟩) (S.l.length + 1) cap)) := (Ext.refl (at1 m) w16).setCell (p := ⟨m, 0, none⟩) (fun _ => rfl) _
  have hi17 := hi16.ext e17 (Ne.symm hmim)
  have hx17 := hx16.ext e17 (Ne.symm hmtm)
  have hl17 := own_ext hown e17 (fun k hk he => hgm (by rw [← he]; simpa [rowOf, Value.ownBlock] using hk))
  have bel17 := bel16.setCell (p := ⟨m, 0, none⟩) hI5.mB (.slice (some ⟨g, 0, none⟩) (S.l.length + 1) cap)
  generalize w16.setCell ⟨m, 0, none⟩ (.slice (some ⟨g, 0, none⟩) (S.l.length + 1) cap) = w17 at *
  refine hK _ _ ag_nil ?_
  clear hK K
  refine ser_nil ?_
  clear c0 f0
  go_wp2
  go_ret
  rw [hA.out]
  refine ⟨rfl, bel17, _, im, tm, ht17, hf1, ?_, hi17, hx17, hI5.hne, hI5.mB, hI5.iB, hI5.xB⟩
  rw [scells_append, List.length_append, List.length_singleton]
  exact hl17
end Go.Proofs.YtiiaklaojlnokaaGreatDoor.B
