/- Package spec (seat ZD): the reader's line: contract. -/
import Derived.Test.YtiiaklaojlnokaaGreatDoorTake
set_option linter.unusedVariables false
set_option linter.unusedSimpArgs false
namespace Go.Proofs.YtiiaklaojlnokaaGreatDoor.B
open Go Go.RowKit
set_option maxRecDepth 100000
set_option maxHeartbeats 1000000

def lineD (S : SpecD) (kind n : Int) (s : ByteArray) : SpecD × Int × Bool :=
  let q := takeD S ((wordCut s).headD ByteArray.empty) (wordCut s).tail
  if q.2.2 = false then (q.1, kind, false) else if decide (n = 0) != decide (q.2.1 = 0) then (q.1, kind, false) else if q.2.1 < kind then (q.1, kind, false) else if q.1.right = false then (q.1, kind, false)
  else (q.1, q.2.1, true)
def LinePost (B : Nat) (w : World) (r : Nat) (q : SpecD × Int × Bool) (e : Ending) (w' : World) : Prop :=
  Below B w w' ∧ e = .returned (.bool q.2.2) ∧ ∃ p', RdIn B w' r q.1 p' q.2.1
theorem textC_map (l : List ByteArray) : l.flatMap textC = l.map Value.string := by
  induction l with
  | nil => rfl
  | cons a l ih => rw [List.flatMap_cons, ih]; rfl
/-- What is so behind a line of a text that isn't too long. -/
structure SpecD.Fits (S : SpecD) (n : Nat) : Prop where
  n1 : S.merges.length ≤ n
  n2 : S.tokens.length ≤ n
  n3 : S.specials.length ≤ n
  n4 : S.classes.length ≤ n
  n5 : S.joins.length ≤ n
  s2 : ∀ x ∈ S.tokens, x.size ≤ 1048576
  s3 : ∀ x ∈ S.specials, x.2.size ≤ 1048576
theorem SpecD.Fits.ok {S : SpecD} {n : Nat} (h : S.Fits n) (hn : n ≤ 1048577) : S.Ok :=
  ⟨by have := h.n1; omega, by have := h.n2; omega, by have := h.n3; omega, by have := h.n4; omega, by have := h.n5; omega, fun x hx => by have := h.s2 x hx; omega, fun x hx => by have := h.s3 x hx; omega⟩
theorem SpecD.Fits.small {S : SpecD} {n : Nat} (h : S.Fits n) (hn : n ≤ 1048576) : S.Small :=
  ⟨by have := h.n1; omega, by have := h.n2; omega, by have := h.n3; omega, by have := h.n4; omega, by have := h.n5; omega⟩
theorem SpecD.Fits.mono {S : SpecD} {n m : Nat} (h : S.Fits n) (hn : n ≤ m) : S.Fits m :=
  ⟨Nat.le_trans h.n1 hn, Nat.le_trans h.n2 hn, Nat.le_trans h.n3 hn, Nat.le_trans h.n4 hn, Nat.le_trans h.n5 hn, h.s2, h.s3⟩
theorem unhexL_len : ∀ (l : List UInt8) (acc xs : List Int), unhexL l acc = some xs → xs.length ≤ acc.length + l.length
  | [], acc, xs, h => by cases h; simp
  | [a], acc, xs, h => by cases h; simp
  | a :: b :: l, acc, xs, h => by
    unfold unhexL at h
    split at h
    · have := unhexL_len l _ xs h
      simp only [List.length_append, List.length_cons, List.length_nil] at this ⊢
      omega
    · cases h
theorem wordUnhex_size (s : ByteArray) : (wordUnhex s).1.size ≤ s.size := by
  unfold wordUnhex
  split
  · exact Nat.zero_le _
  · split
    · exact Nat.zero_le _
    · cases h : unhexL s.data.toList [] with
      | none => exact Nat.zero_le _
      | some xs =>
        have := unhexL_len _ _ _ h
        simp only [strOfNums_size]
        simpa using this
theorem takeD_fits {S : SpecD} {n : Nat} (h : S.Fits n) (first : ByteArray) (l : List ByteArray) (hl : ∀ x ∈ l, x.size ≤ 1048576) : (takeD S first l).1.Fits (n + 1) := by
  have h0 := h.mono (Nat.le_succ n)
  unfold takeD
  split
  · exact ⟨h0.n1, h0.n2, h0.n3, h0.n4, h0.n5, h0.s2, h0.s3⟩
  split
  · cases of2 (numbersD l 2) with
    | none => exact h0
    | some q => exact ⟨by simp [withOk]; exact h.n1, h0.n2, h0.n3, h0.n4, h0.n5, h0.s2, h0.s3⟩
  split
  · cases ht : tokenD S l with
    | none => exact h0
    | some q =>
      match l, ht, hl with
      | [s], ht, hl =>
        cases ht
        refine ⟨h0.n1, by simp [withOk2]; exact h.n2, h0.n3, h0.n4, h0.n5, ?_, h0.s3⟩
        intro x hx
        simp only [withOk2, List.mem_append, List.mem_singleton] at hx
        rcases hx with hx | rfl
        · exact h0.s2 x hx
        · exact Nat.le_trans (wordUnhex_size s) (hl s (by simp))
  split
  · cases ht : specialD S l with
    | none => exact h0
    | some q =>
      match l, ht, hl with
      | [a, b], ht, hl =>
        cases ht
        refine ⟨h0.n1, h0.n2, by simp [withOk2]; exact h.n3, h0.n4, h0.n5, h0.s2, ?_⟩
        intro x hx
        simp only [withOk2, List.mem_append, List.mem_singleton] at hx
        rcases hx with hx | rfl
        · exact h0.s3 x hx
        · exact Nat.le_trans (wordUnhex_size b) (hl b (by simp))
  split
  · cases of3 (numbersD l 3) with
    | none => exact h0
    | some q => exact ⟨h0.n1, h0.n2, h0.n3, by simp [withOk]; exact h.n4, h0.n5, h0.s2, h0.s3⟩
  split
  · cases of2 (numbersD l 2) with
    | none => exact h0
    | some q => exact ⟨h0.n1, h0.n2, h0.n3, h0.n4, by simp [withOk]; exact h.n5, h0.s2, h0.s3⟩
  · exact h0
theorem splitB_sizes (sep : ByteArray) (save : Nat) : ∀ (k : Nat) (s : ByteArray), ∀ x ∈ Lib.splitB sep save k s, x.size ≤ s.size
  | 0, s, x, hx => by
    rw [Lib.splitB_zero] at hx
    simp only [List.mem_singleton] at hx
    subst hx; exact Nat.le_refl _
  | k + 1, s, x, hx => by
    by_cases h : Lib.indexB s sep = -1
    · rw [Lib.splitB_miss _ _ _ _ h] at hx
      simp only [List.mem_singleton] at hx
      subst hx; exact Nat.le_refl _
    · have hg : -1 ≤ Lib.indexB s sep := Lib.index_ge _ _
      obtain ⟨i, hi⟩ : ∃ i : Nat, Lib.indexB s sep = i := ⟨(Lib.indexB s sep).toNat, by omega⟩
      rw [Lib.splitB_hit _ _ _ _ i hi, List.mem_cons] at hx
      rcases hx with rfl | hx
      · simp only [ByteArray.size_extract]; omega
      · have := splitB_sizes sep save k _ x hx
        simp only [ByteArray.size_extract] at this; omega
theorem countB_le (s : ByteArray) : Lib.countB s blank ≤ s.size := Lib.countB_le blank (by decide) s.size s (Nat.le_refl _)
theorem RdIn.kinded {B : Nat} {w : World} {r : Nat} {S : SpecD} {p : SpecP} {kind : Int} (h : RdIn B w r S p kind) (k : Int) : RdIn B (w.setCell ⟨r, 6, none⟩ (.int .i64 k)) r S p k := by
  refine ⟨?_, ⟨own_store h.hs.r1 h.hr (by decide) _ _, own_store h.hs.r2 h.hr (by decide) _ _, own_store h.hs.r3 h.hr (by decide) _ _, own_store h.hs.r4 h.hr (by decide) _ _, own_store h.hs.r5 h.hr (by decide) _ _⟩, h.rB⟩
  have := block_setCell h.hr 6 (.int .i64 k)
  rw [this]; rfl
theorem reader_line (B : Nat) (w : World) (hS : Std w) (r : Nat) (S : SpecD) (p : SpecP) (kind : Int) (h : RdIn B w r S p kind) (hB : B ≤ w.heap.size) (m : Nat) (hs : S.Fits m) (hm : m ≤ 1048575) (n : Int) (s : ByteArray) (hsz : s.size < 1048576) :
    Calls Tryz.prog 66 #[.pointer (some ⟨r, 0, none⟩), .int .i64 n, .string s] w (LinePost B w r (lineD S kind n s)) := by
  obtain ⟨first, rest, hc⟩ : ∃ a l, wordCut s = a :: l := by
    have hl := wordCut_len s
    cases hw : wordCut s with
    | nil => rw [hw] at hl; simp at hl
    | cons a l => exact ⟨a, l, rfl⟩
  have hall : ∀ x ∈ rest, x.size < 1048576 := fun x hx => by
    have := splitB_sizes blank 0 (Lib.countB s blank) s x (by show x ∈ wordCut s; rw [hc]; exact List.mem_cons_of_mem _ hx)
    omega
  have hlen : rest.length ≤ 1048576 := by
    have h1 := wordCut_len s
    rw [hc, List.length_cons] at h1
    have h2 : Lib.countB s blank ≤ s.size := countB_le s
    omega
  have hl : lineD S kind n s = (let q := takeD S first rest; if q.2.2 = false then (q.1, kind, false) else if decide (n = 0) != decide (q.2.1 = 0) then (q.1, kind, false) else if q.2.1 < kind then (q.1, kind, false) else if q.1.right = false then (q.1, kind, false) else (q.1, q.2.1, true)) := by
    unfold lineD; rw [hc]; rfl
  have hF := takeD_fits hs first rest (fun x hx => by have := hall x hx; omega)
  have HL := Lib.hid hl
  clear hl
  have HC := Lib.hid hc
  go_enter Tryz.func66, Tryz.ntmps66
  go_wp2_with fail
  refine (word_cut w hS s (by omega)).mono ?_
  rintro e w1 ⟨rfl, rfl⟩
  rw [hc]
  clear hc
  go_wp2_with fail
  refine wp_region_ser [(0, false, []), (1, false, []), (2, false, []), (3, false, []), (4, false, []), (5, false, []), (6, true, []), (7, false, []), (8, false, []), (9, false, []), (10, false, []), (11, false, [])] (by kernel_rfl) (by kernel_rfl) ?_
  have e1 : Ext no w (w.alloc (.cells (Value.string first :: rest.map Value.string).toArray 9)) := (Ext.refl no w).alloc _
  have hb1 := block_new w (.cells (Value.string first :: rest.map Value.string).toArray 9)
  try simp only [List.map_cons]
  generalize w.alloc (.cells (Value.string first :: rest.map Value.string).toArray 9) = w1 at *
  have eu : Ext no w1 w1.drew := (Ext.refl no w1).drew
  have e2 := e1.trans eu
  have hb2 := eu.heap hb1 (not_no _)
  generalize w1.drew = w2 at *
  clear e1 hb1 eu
  have x0 : w2.cell? ⟨w.heap.size, 0, none⟩ = some (.string first) := by rw [cell_of_block hb2]; rfl
  have i0 : (0 : Int) < ((first :: rest).length : Int) := by simp
  repeat (first | (refine ser_next (by rfl) (by rfl) (by rfl) (fun K hK => ?_); (first | go_big_move | go_big_op); refine hK _ ?_; clear hK K) | (refine ser_off (by rfl) (by rfl) ?_; simp only [Act.put, List.setIfInBounds_toArray, List.set_cons_zero, List.set_cons_succ]))
  obtain ⟨A, hA⟩ : ∃ A : Option Addr, A = (if rest = [] then some ⟨w.heap.size, 0, none⟩ else some ⟨w.heap.size, 1, none⟩) := ⟨_, rfl⟩
  rw [← hA]
  have hRA : RowAt w2 A (rest.flatMap textC) := by
    rw [textC_map]
    by_cases hr : rest = []
    · subst hr; exact .inl rfl
    · rw [if_neg hr] at hA
      refine .inr ⟨w.heap.size, 1, hA, fun j v hj => ?_⟩
      rw [cell_of_block hb2, List.getElem?_toArray, Nat.add_comm 1 j, List.getElem?_cons_succ]
      exact hj
  clear hA x0
  have h2 := h.keep e2
  have hS2 := hS.ext e2
  have BB2 : Below B w w2 := e2.below hB (fun _ hk => absurd hk (not_no _))
  refine ser_eff (by rfl) (by rfl) (fun K hK => ?_)
  go_big_op
  refine (reader_take B w2 hS2 r S p kind h2 (Nat.le_trans hB BB2.size) (hs.small (by omega)) first A rest.length rest hRA hlen (fun x hx => by have := hall x hx; omega)).mono ?_
  rintro e w3 ⟨hb3, rfl, p', h3⟩
  have BB3 := BB2.trans hb3
  have e3 : Ext no w2 w2 := Ext.refl _ _
  clear h h2 hb3 e2 e3 hb2 hRA i0
  refine hK _ _ ag_nil ?_
  clear hK K
  repeat (first | (refine ser_next (by rfl) (by rfl) (by rfl) (fun K hK => ?_); (first | go_big_move | go_big_op); refine hK _ ?_; clear hK K) | (refine ser_off (by rfl) (by rfl) ?_; simp only [Act.put, List.setIfInBounds_toArray, List.set_cons_zero, List.set_cons_succ]))
  refine ser_nil ?_
  have HL2 := Lib.hid (HL.out)
  cases hq : takeD S first rest with
  | mk S' q2 =>
  obtain ⟨k, ok⟩ := q2
  rw [hq] at h3 hF
  have hl := HL.out
  rw [hq] at hl
  have HLL := Lib.hid hl
  clear hq hl HL HL2
  simp only at h3 hF ⊢
  have hrd := h3.hr
  have c6 : w3.cell? ⟨r, 6, none⟩ = some (.int .i64 kind) := by rw [cell_of_block hrd]; rfl
  have f6 := free_of_block hrd 6
  have fin : Below B w w3 ∧ ∃ p', RdIn B w3 r S' p' kind := ⟨BB3, p', h3⟩
  cases ok with
  | false =>
    have hR := Lib.hid (show lineD S kind n s = (S', kind, false) by rw [HLL.out]; rfl)
    go_wp2
    go_ret
    unfold LinePost
    rw [hR.out]
    exact ⟨BB3, rfl, p', h3⟩
  | true =>
  by_cases hn0 : n = 0
  · subst hn0
    by_cases hk0 : k = 0
    · subst hk0
      have hX : (decide ((0 : Int) = 0) != decide ((0 : Int) = 0)) = false := rfl
      by_cases hk : kind ≤ 0
      · have hK : ¬ (0 : Int) < kind := by omega
        have q0 : w3.cell? ⟨r, 0, none⟩ = some (.bool S'.ranked) := by rw [cell_of_block hrd]; rfl
        have q1 : w3.cell? ⟨r, 1, none⟩ = some (.slice p'.a1 S'.merges.length p'.c1) := by rw [cell_of_block hrd]; rfl
        have q2 : w3.cell? ⟨r, 2, none⟩ = some (.slice p'.a2 S'.tokens.length p'.c2) := by rw [cell_of_block hrd]; rfl
        have q3 : w3.cell? ⟨r, 3, none⟩ = some (.slice p'.a3 S'.specials.length p'.c3) := by rw [cell_of_block hrd]; rfl
        have q4 : w3.cell? ⟨r, 4, none⟩ = some (.slice p'.a4 S'.classes.length p'.c4) := by rw [cell_of_block hrd]; rfl
        have q5 : w3.cell? ⟨r, 5, none⟩ = some (.slice p'.a5 S'.joins.length p'.c5) := by rw [cell_of_block hrd]; rfl
        go_wp2_with fail
        clear q0 q1 q2 q3 q4 q5
        refine (spec_right w3 S' p' h3.hs.spec (hF.ok (by omega))).mono ?_
        rintro e w4 ⟨rfl, e4⟩
        have h4 := h3.keep e4
        have BB4 := BB3.trans (e4.below (Nat.le_trans hB BB3.size) (fun _ hk => absurd hk (not_no _)))
        have hrd4 := h4.hr
        have c6' : w4.cell? ⟨r, 6, none⟩ = some (.int .i64 kind) := by rw [cell_of_block hrd4]; rfl
        have f6' := free_of_block hrd4 6
        clear c6 f6 fin
        cases hR : S'.right with
        | false =>
          have hRR := Lib.hid (show lineD S kind 0 s = (S', kind, false) by
            rw [HLL.out]
            try dsimp only
            rw [if_neg (by simp), if_neg (by rw [hX]; decide), if_neg (by omega), if_pos hR])
          clear hR
          go_wp2
          go_ret
          unfold LinePost
          rw [hRR.out]
          exact ⟨BB4, rfl, p', h4⟩
        | true =>
          have hRR := Lib.hid (show lineD S kind 0 s = (S', 0, true) by
            rw [HLL.out]
            try dsimp only
            rw [if_neg (by simp), if_neg (by rw [hX]; decide), if_neg (by omega), if_neg (by rw [hR]; decide)])
          clear hR
          go_wp2
          go_ret
          unfold LinePost
          rw [hRR.out]
          exact ⟨BB4.setCell (p := ⟨r, 6, none⟩) h4.rB _, rfl, p', h4.kinded 0⟩
      · have hk1 : 0 < kind := by omega
        have hRR := Lib.hid (show lineD S kind 0 s = (S', kind, false) by
          rw [HLL.out]
          try dsimp only
          rw [if_neg (by simp), if_neg (by rw [hX]; decide), if_pos hk1])
        go_wp2
        go_ret
        unfold LinePost
        rw [hRR.out]
        exact ⟨BB3, rfl, p', h3⟩
    · have hX : (decide ((0 : Int) = 0) != decide (k = 0)) = true := by simp [hk0]
      have z2 : decide (k = 0) = false := decide_eq_false hk0
      have z4 : (k == 0) = false := by simp [hk0]
      have hRR := Lib.hid (show lineD S kind 0 s = (S', kind, false) by
        rw [HLL.out]
        try dsimp only
        rw [if_neg (by simp), if_pos hX])
      go_wp2
      go_ret
      unfold LinePost
      rw [hRR.out]
      exact ⟨BB3, rfl, p', h3⟩
  · have z1 : decide (n = 0) = false := decide_eq_false hn0
    have z3 : (n == 0) = false := by simp [hn0]
    by_cases hk0 : k = 0
    · subst hk0
      have hX : (decide (n = 0) != decide ((0 : Int) = 0)) = true := by simp [hn0]
      have hRR := Lib.hid (show lineD S kind n s = (S', kind, false) by
        rw [HLL.out]
        try dsimp only
        rw [if_neg (by simp), if_pos hX])
      go_wp2
      go_ret
      unfold LinePost
      rw [hRR.out]
      exact ⟨BB3, rfl, p', h3⟩
    · have z2 : decide (k = 0) = false := decide_eq_false hk0
      have z4 : (k == 0) = false := by simp [hk0]
      have hX : (decide (n = 0) != decide (k = 0)) = false := by simp [hn0, hk0]
      by_cases hk : kind ≤ k
      · have hK : ¬ k < kind := by omega
        have q0 : w3.cell? ⟨r, 0, none⟩ = some (.bool S'.ranked) := by rw [cell_of_block hrd]; rfl
        have q1 : w3.cell? ⟨r, 1, none⟩ = some (.slice p'.a1 S'.merges.length p'.c1) := by rw [cell_of_block hrd]; rfl
        have q2 : w3.cell? ⟨r, 2, none⟩ = some (.slice p'.a2 S'.tokens.length p'.c2) := by rw [cell_of_block hrd]; rfl
        have q3 : w3.cell? ⟨r, 3, none⟩ = some (.slice p'.a3 S'.specials.length p'.c3) := by rw [cell_of_block hrd]; rfl
        have q4 : w3.cell? ⟨r, 4, none⟩ = some (.slice p'.a4 S'.classes.length p'.c4) := by rw [cell_of_block hrd]; rfl
        have q5 : w3.cell? ⟨r, 5, none⟩ = some (.slice p'.a5 S'.joins.length p'.c5) := by rw [cell_of_block hrd]; rfl
        go_wp2_with fail
        clear q0 q1 q2 q3 q4 q5
        refine (spec_right w3 S' p' h3.hs.spec (hF.ok (by omega))).mono ?_
        rintro e w4 ⟨rfl, e4⟩
        have h4 := h3.keep e4
        have BB4 := BB3.trans (e4.below (Nat.le_trans hB BB3.size) (fun _ hk => absurd hk (not_no _)))
        have hrd4 := h4.hr
        have c6' : w4.cell? ⟨r, 6, none⟩ = some (.int .i64 kind) := by rw [cell_of_block hrd4]; rfl
        have f6' := free_of_block hrd4 6
        clear c6 f6 fin
        cases hR : S'.right with
        | false =>
          have hRR := Lib.hid (show lineD S kind n s = (S', kind, false) by
            rw [HLL.out]
            try dsimp only
            rw [if_neg (by simp), if_neg (by rw [hX]; decide), if_neg (by omega), if_pos hR])
          clear hR
          go_wp2
          go_ret
          unfold LinePost
          rw [hRR.out]
          exact ⟨BB4, rfl, p', h4⟩
        | true =>
          have hRR := Lib.hid (show lineD S kind n s = (S', k, true) by
            rw [HLL.out]
            try dsimp only
            rw [if_neg (by simp), if_neg (by rw [hX]; decide), if_neg (by omega), if_neg (by rw [hR]; decide)])
          clear hR
          go_wp2
          go_ret
          unfold LinePost
          rw [hRR.out]
          exact ⟨BB4.setCell (p := ⟨r, 6, none⟩) h4.rB _, rfl, p', h4.kinded k⟩
      · have hk1 : k < kind := by omega
        have hRR := Lib.hid (show lineD S kind n s = (S', kind, false) by
          rw [HLL.out]
          try dsimp only
          rw [if_neg (by simp), if_neg (by rw [hX]; decide), if_pos hk1])
        go_wp2
        go_ret
        unfold LinePost
        rw [hRR.out]
        exact ⟨BB3, rfl, p', h3⟩
end Go.Proofs.YtiiaklaojlnokaaGreatDoor.B
