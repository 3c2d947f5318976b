/- Package spec (seat ZD): Parse: contract. -/
import Derived.Test.YtiiaklaojlnokaaGreatDoorLine
set_option linter.unusedVariables false
set_option linter.unusedSimpArgs false
namespace Go.Proofs.YtiiaklaojlnokaaGreatDoor.B
open Go Go.RowKit
set_option maxRecDepth 100000
set_option maxHeartbeats 1000000

def SpecD.empty : SpecD := ⟨false, [], [], [], [], []⟩
def SpecP.empty : SpecP := ⟨none, 0, none, 0, none, 0, none, 0, none, 0⟩
theorem own_empty (B : Nat) (w : World) : SpecOwn B w SpecD.empty SpecP.empty := ⟨own_nil _ _ _ _, own_nil _ _ _ _, own_nil _ _ _ _, own_nil _ _ _ _, own_nil _ _ _ _⟩
/-- Lines taken, one by one: the spec; or none, and the line's number. -/
def parseLines : SpecD → Int → List ByteArray → Nat → Option SpecD × Nat
  | S, _, [], i => (some S, i)
  | S, kind, s :: l, i => if (lineD S kind i s).2.2 then parseLines (lineD S kind i s).1 (lineD S kind i s).2.1 l (i + 1) else (none, i)
def parseD (s : ByteArray) : SpecD × Int × Int :=
  if 60000 < s.size then (SpecD.empty, 0, 3) else
  match (parseLines SpecD.empty 0 (linesB (s.size + 1) s []).1 0) with
  | (none, i) => (SpecD.empty, (i : Int) + 1, 2)
  | (some S, _) => if (linesB (s.size + 1) s []).2 = false ∨ (linesB (s.size + 1) s []).1.length = 0 then (SpecD.empty, ((linesB (s.size + 1) s []).1.length : Int) + 1, 2) else (S, 0, 0)
theorem cut_sizes {s l r : List UInt8} {ok : Bool} (h : Lib.cut s [10] = (l, r, ok)) : l.length ≤ s.length := by
  unfold Lib.cut at h
  by_cases h0 : 0 ≤ Lib.index s [10]
  · rw [if_pos h0] at h
    simp only [Prod.mk.injEq] at h
    rw [← h.1, List.length_take]; omega
  · rw [if_neg h0] at h
    simp only [Prod.mk.injEq] at h
    rw [h.1]; exact Nat.le_refl _
theorem linesB_fits : ∀ (n : Nat) (s : ByteArray) (acc : List ByteArray) (m : Nat), (∀ x ∈ acc, x.size ≤ m) → s.size ≤ m → (linesB n s acc).1.length ≤ acc.length + s.size ∧ ∀ x ∈ (linesB n s acc).1, x.size ≤ m
  | 0, s, acc, m, h, hs => ⟨by simp [linesB], h⟩
  | n + 1, s, acc, m, h, hs => by
    unfold linesB
    cases hc : Lib.cut s.data.toList [10] with
    | mk line q =>
    obtain ⟨rest, ok⟩ := q
    have hl : line.length ≤ s.size := cut_sizes hc
    cases ok with
    | false => exact ⟨by simp, h⟩
    | true =>
      have hlt : rest.length < s.size := cut_lt hc
      simp only [if_true]
      have := linesB_fits n ⟨rest.toArray⟩ (acc ++ [⟨line.toArray⟩]) m (by
        intro x hx
        simp only [List.mem_append, List.mem_singleton] at hx
        rcases hx with hx | rfl
        · exact h x hx
        · show line.toArray.size ≤ m; simp; omega) (by show rest.toArray.size ≤ m; simp; omega)
      refine ⟨?_, this.2⟩
      have h1 := this.1
      have h2 : (⟨rest.toArray⟩ : ByteArray).size = rest.length := by show rest.toArray.size = _; simp
      rw [h2, List.length_append, List.length_singleton] at h1
      omega
def ParsePost (w : World) (q : SpecD × Int × Int) (e : Ending) (w' : World) : Prop :=
  Below w.heap.size w w' ∧ ∃ p, e = .returned (.tuple #[.agg (SpecP.cells p q.1), .int .i64 q.2.1, .int .i64 q.2.2]) ∧ SpecOwn w.heap.size w' q.1 p
def ParseAt (wB : World) (r : Nat) (l : List ByteArray) (i : Value) (wr : World) : Prop :=
  ∃ (k : Nat) (S : SpecD) (p : SpecP) (kind : Int), k ≤ l.length ∧ i = .int .i64 (k : Int) ∧ RdIn wB.heap.size wr r S p kind ∧ S.Fits k ∧ parseLines SpecD.empty 0 l 0 = parseLines S kind (l.drop k) k ∧ Below wB.heap.size wB wr
theorem lineD_fits {S : SpecD} {n : Nat} (h : S.Fits n) (kind i : Int) (s : ByteArray) (hs : s.size ≤ 1048576) : (lineD S kind i s).1.Fits (n + 1) := by
  have hall : ∀ x ∈ (wordCut s).tail, x.size ≤ 1048576 := fun x hx => by
    have := splitB_sizes blank 0 (Lib.countB s blank) s x (List.mem_of_mem_tail hx)
    omega
  have := takeD_fits h ((wordCut s).headD ByteArray.empty) (wordCut s).tail hall
  unfold lineD
  simp only
  split
  · exact this
  split
  · exact this
  split
  · exact this
  split
  · exact this
  · exact this
def six (u : World) (b : Nat) (y0 y1 y2 y3 y4 y5 : Value) : World := (((((u.setCell ⟨b, 0, none⟩ y0).setCell ⟨b, 1, none⟩ y1).setCell ⟨b, 2, none⟩ y2).setCell ⟨b, 3, none⟩ y3).setCell ⟨b, 4, none⟩ y4).setCell ⟨b, 5, none⟩ y5
theorem six_heap {u : World} {b : Nat} {x0 x1 x2 x3 x4 x5 : Value} {T : TypeId} (h : u.heap[b]? = some (.cells #[x0, x1, x2, x3, x4, x5] T (0, 0))) (y0 y1 y2 y3 y4 y5 : Value) : (six u b y0 y1 y2 y3 y4 y5).heap[b]? = some (.cells #[y0, y1, y2, y3, y4, y5] T (0, 0)) := by
  have h1 := block_setCell h 0 y0
  have h2 := block_setCell h1 1 y1
  have h3 := block_setCell h2 2 y2
  have h4 := block_setCell h3 3 y3
  have h5 := block_setCell h4 4 y4
  have h6 := block_setCell h5 5 y5
  exact h6
theorem six_ext (u : World) (b : Nat) (y0 y1 y2 y3 y4 y5 : Value) : Ext (at1 b) u (six u b y0 y1 y2 y3 y4 y5) := by
  unfold six
  have st : ∀ {v : World} (o : Nat) (y : Value), Ext (at1 b) u v → Ext (at1 b) u (v.setCell ⟨b, o, none⟩ y) := fun o y e => e.setCell (p := ⟨b, o, none⟩) (fun _ => rfl) y
  exact st 5 _ (st 4 _ (st 3 _ (st 2 _ (st 1 _ (st 0 _ (Ext.refl _ _))))))
theorem own_six {w u : World} {S : SpecD} {p : SpecP} {c : Array Value} (h : SpecOwn w.heap.size u S p) (hb : u.heap[w.heap.size]? = some (.cells c 33 (0, 0))) (y0 y1 y2 y3 y4 y5 : Value) : SpecOwn w.heap.size (six u w.heap.size y0 y1 y2 y3 y4 y5) S p := by
  have st : ∀ {B n sz : Nat} {e : TypeId} {v : Value} {xs : List Value}, u.ownsRow B e sz v n xs → e ≠ 33 → (six u w.heap.size y0 y1 y2 y3 y4 y5).ownsRow B e sz v n xs := by
    intro B n sz e v xs ho hne
    refine own_ext ho (six_ext u w.heap.size y0 y1 y2 y3 y4 y5) (fun k hk he => ?_)
    obtain ⟨⟨c2, h2⟩, _⟩ := own_row ho hk
    rw [he, hb] at h2; cases h2; exact hne rfl
  exact ⟨st h.r1 (by decide), st h.r2 (by decide), st h.r3 (by decide), st h.r4 (by decide), st h.r5 (by decide)⟩
theorem spec_parse (w : World) (hS : Std w) (s : ByteArray) (hs : s.size < 4294967281) : Calls Tryz.prog 37 #[.string s] w (ParsePost w (parseD s)) := by
  have HS := Lib.hid hS
  by_cases hl : 60000 < s.size
  · have hq := Lib.hid (show parseD s = (SpecD.empty, 0, 3) by unfold parseD; rw [if_pos hl])
    have hl' : (60000 : Int) < (s.size : Int) := by omega
    go_enter Tryz.func37, Tryz.ntmps37
    go_wp2
    have hb0 := block_new w (.cells #[.bool false, .slice none 0 0, .slice none 0 0, .slice none 0 0, .slice none 0 0, .slice none 0 0] 33)
    have BB0 : Below w.heap.size w (w.alloc (.cells #[.bool false, .slice none 0 0, .slice none 0 0, .slice none 0 0, .slice none 0 0, .slice none 0 0] 33)) := ((Ext.refl no w).alloc _).toBelow
    generalize w.alloc (.cells #[.bool false, .slice none 0 0, .slice none 0 0, .slice none 0 0, .slice none 0 0, .slice none 0 0] 33) = u at *
    have y0 : u.cell? ⟨w.heap.size, 0, none⟩ = some (.bool false) := by rw [cell_of_block hb0]; rfl
    have y1 : u.cell? ⟨w.heap.size, 1, none⟩ = some (.slice none 0 0) := by rw [cell_of_block hb0]; rfl
    have y2 : u.cell? ⟨w.heap.size, 2, none⟩ = some (.slice none 0 0) := by rw [cell_of_block hb0]; rfl
    have y3 : u.cell? ⟨w.heap.size, 3, none⟩ = some (.slice none 0 0) := by rw [cell_of_block hb0]; rfl
    have y4 : u.cell? ⟨w.heap.size, 4, none⟩ = some (.slice none 0 0) := by rw [cell_of_block hb0]; rfl
    have y5 : u.cell? ⟨w.heap.size, 5, none⟩ = some (.slice none 0 0) := by rw [cell_of_block hb0]; rfl
    refine bodyPost_ret (v := .tuple #[.agg (SpecP.cells SpecP.empty SpecD.empty), .int .i64 0, .int .i64 3]) (by simp [results, Tryz.results37, go_sem, y0, y1, y2, y3, y4, y5, SpecP.cells, SpecP.empty, SpecD.empty]) rfl ?_
    rw [hq.out]
    exact ⟨BB0, SpecP.empty, rfl, own_empty _ _⟩
  · have hq := Lib.hid (show parseD s = _ by unfold parseD; rw [if_neg hl])
    have hl' : ¬ (60000 : Int) < (s.size : Int) := by omega
    have hl'' : (s.size : Int) ≤ 60000 := by omega
    go_enter Tryz.func37, Tryz.ntmps37
    go_wp2_with fail
    have e0 : Ext no w (w.alloc (.cells (SpecP.cells SpecP.empty SpecD.empty) 33)) := (Ext.refl no w).alloc _
    have hb0 := block_new w (.cells (SpecP.cells SpecP.empty SpecD.empty) 33)
    generalize hw1 : w.alloc (.cells #[.bool false, .slice none 0 0, .slice none 0 0, .slice none 0 0, .slice none 0 0, .slice none 0 0] 33) = w1
    have hw1' : w.alloc (.cells (SpecP.cells SpecP.empty SpecD.empty) 33) = w1 := hw1
    rw [hw1'] at e0 hb0
    clear hw1 hw1'
    refine (word_lines w1 (HS.out.ext e0) s hs).mono ?_
    rintro e w2 ⟨v, rfl, hv, hB2⟩
    have e1 : Ext no w1 w2 := Below.toExt hB2 no
    have e2 := e0.trans e1
    have hb2 := e1.heap hb0 (not_no _)
    have BB2 : Below w.heap.size w w2 := e0.toBelow.trans (hB2.mono e0.size)
    obtain ⟨hll, hlx⟩ := linesB_fits (s.size + 1) s [] s.size (by simp) (Nat.le_refl _)
    obtain ⟨ls, hls⟩ : ∃ ls, (linesB (s.size + 1) s []).1 = ls := ⟨_, rfl⟩
    obtain ⟨en, hen⟩ : ∃ en, (linesB (s.size + 1) s []).2 = en := ⟨_, rfl⟩
    rw [hls, hen] at hq
    rw [hls] at hv hll hlx
    rw [hen]
    clear hls hen
    obtain ⟨A, c, rfl, hR⟩ := own_at hv
    have hR2 : RowAt w2 A (ls.flatMap textC) := hR
    clear hR hv hB2 hb0 e0 e1
    simp only [List.length_nil, Nat.zero_add] at hll
    go_upto_region 5 with fail
    have e3 : Ext no w2 (w2.alloc (.cells (rdCells SpecP.empty SpecD.empty 0).toArray 137)) := (Ext.refl no w2).alloc _
    have h3 : RdIn w2.heap.size (w2.alloc (.cells (rdCells SpecP.empty SpecD.empty 0).toArray 137)) w2.heap.size SpecD.empty SpecP.empty 0 := ⟨block_new _ _, own_empty _ _, Nat.le_refl _⟩
    obtain ⟨w3, hw3⟩ : ∃ w3, w2.alloc (.cells (rdCells SpecP.empty SpecD.empty 0).toArray 137) = w3 := ⟨_, rfl⟩
    have hw3' : w2.alloc (.cells #[.bool false, .slice none 0 0, .slice none 0 0, .slice none 0 0, .slice none 0 0, .slice none 0 0, .int .i64 0] 137) = w3 := hw3
    rw [hw3'] 
    rw [hw3] at e3 h3
    clear hw3 hw3'
    have hb3 := hb2
    have hS2 := HS.out.ext e2
    have HS2 := Lib.hid hS2
    clear hS2
    go_wp2_with fail
    go_loopw [23] (fun i wr => ParseAt w2 w2.heap.size ls i wr) (fun i _ => ls.length - (intOf i).toNat)
    case atStart => exact ⟨0, SpecD.empty, SpecP.empty, 0, by omega, rfl, h3, ⟨by simp [SpecD.empty], by simp [SpecD.empty], by simp [SpecD.empty], by simp [SpecD.empty], by simp [SpecD.empty], by simp [SpecD.empty], by simp [SpecD.empty]⟩, rfl, e3.toBelow⟩
    case round =>
      clear h3 e3
      obtain ⟨k, S, p, kind, hk, rfl, hrd, hfit, hpl, hB⟩ := hrel
      have HPL := Lib.hid hpl
      clear hpl
      have e5 : Ext no w2 wr := Below.toExt hB no
      have hS5 := HS2.out.ext e5
      by_cases hlt : k < ls.length
      · obtain ⟨x, hp⟩ : ∃ x, ls[k]? = some x := ⟨_, List.getElem?_eq_getElem hlt⟩
        have hxs := hlx x (List.mem_of_getElem? hp)
        obtain ⟨b, o, rfl, c0⟩ := row_one hR2 hp
        replace c0 := e5.cell c0 (not_no _)
        have hd : ls.drop k = x :: ls.drop (k + 1) := by
          obtain ⟨hl, he⟩ := List.getElem?_eq_some_iff.1 hp
          rw [List.drop_eq_getElem_cons hl, he]
        have HD := Lib.hid hd
        clear hd hp
        have HS5 := Lib.hid hS5
        clear hS5
        go_wp2_with fail
        refine (reader_line w2.heap.size wr HS5.out w2.heap.size S p kind hrd hB.size k hfit (by omega) k x (by omega)).mono ?_
        rintro e w6 ⟨hb6, rfl, p', h6⟩
        have hB6 := hB.trans hb6
        have hF6 := lineD_fits hfit kind k x (by omega)
        have hP6 := HPL.out
        rw [HD.out, parseLines] at hP6
        clear hrd hfit hB hb6 c0 HPL
        cases hq6 : lineD S kind k x with
        | mk S6 q6 =>
        obtain ⟨k6, ok6⟩ := q6
        rw [hq6] at h6 hF6 hP6
        clear hq6
        simp only at h6 hF6 hP6 ⊢
        cases ok6 with
        | true =>
          have HP6 := Lib.hid hP6
          clear hP6
          go_wp2
          go_roundw
          case measure => simp [intOf]; omega
          case rel => exact ⟨k + 1, S6, p', k6, by omega, by go_num, h6, hF6, by rw [HP6.out]; rfl, hB6⟩
        | false =>
          have HP6 := Lib.hid hP6
          clear hP6
          have eA : Ext no w2 w6 := Below.toExt hB6 no
          have hb7 := eA.heap hb3 (not_no _)
          have cz : ∀ o v, (SpecP.cells SpecP.empty SpecD.empty)[o]? = some v → w6.cell? ⟨w.heap.size, o, none⟩ = some v := fun o v hv => (cell_of_block hb7 o).trans hv
          have z0 := cz 0 _ rfl
          have z1 := cz 1 _ rfl
          have z2 := cz 2 _ rfl
          have z3 := cz 3 _ rfl
          have z4 := cz 4 _ rfl
          have z5 := cz 5 _ rfl
          have fz : ∀ o, w6.frozen? ⟨w.heap.size, o, none⟩ = false := free_of_block hb7
          clear cz
          go_wp2
          have BB6 : Below w.heap.size w w6 := BB2.trans (hB6.mono BB2.size)
          have hA : parseD s = (SpecD.empty, (k : Int) + 1, 2) := by rw [hq.out, HP6.out]; rfl
          have HA := Lib.hid hA
          clear hA
          change bodyPost _ _ _ _ _ (six w6 w.heap.size (.bool false) (.slice none 0 0) (.slice none 0 0) (.slice none 0 0) (.slice none 0 0) (.slice none 0 0))
          have g6 := six_heap hb7 (.bool false) (.slice none 0 0) (.slice none 0 0) (.slice none 0 0) (.slice none 0 0) (.slice none 0 0)
          have x6 := six_ext w6 w.heap.size (.bool false) (.slice none 0 0) (.slice none 0 0) (.slice none 0 0) (.slice none 0 0) (.slice none 0 0)
          have o6 : SpecOwn w.heap.size (six w6 w.heap.size (.bool false) (.slice none 0 0) (.slice none 0 0) (.slice none 0 0) (.slice none 0 0) (.slice none 0 0)) SpecD.empty SpecP.empty := own_six (own_empty _ _) hb7 (.bool false) (.slice none 0 0) (.slice none 0 0) (.slice none 0 0) (.slice none 0 0) (.slice none 0 0)
          generalize six w6 w.heap.size (.bool false) (.slice none 0 0) (.slice none 0 0) (.slice none 0 0) (.slice none 0 0) (.slice none 0 0) = u at *
          have y0 : u.cell? ⟨w.heap.size, 0, none⟩ = some (.bool false) := by rw [cell_of_block g6]; rfl
          have y1 : u.cell? ⟨w.heap.size, 1, none⟩ = some (.slice none 0 0) := by rw [cell_of_block g6]; rfl
          have y2 : u.cell? ⟨w.heap.size, 2, none⟩ = some (.slice none 0 0) := by rw [cell_of_block g6]; rfl
          have y3 : u.cell? ⟨w.heap.size, 3, none⟩ = some (.slice none 0 0) := by rw [cell_of_block g6]; rfl
          have y4 : u.cell? ⟨w.heap.size, 4, none⟩ = some (.slice none 0 0) := by rw [cell_of_block g6]; rfl
          have y5 : u.cell? ⟨w.heap.size, 5, none⟩ = some (.slice none 0 0) := by rw [cell_of_block g6]; rfl
          refine bodyPost_ret (v := .tuple #[.agg (SpecP.cells SpecP.empty SpecD.empty), .int .i64 ((k : Int) + 1), .int .i64 2]) (by simp [results, Tryz.results37, go_sem, y0, y1, y2, y3, y4, y5, SpecP.cells, SpecP.empty, SpecD.empty]) rfl ?_
          rw [HA.out]
          exact ⟨(BB6).trans (x6.below (BB6).size (fun k hk => by rw [hk]; exact Nat.le_refl _)), SpecP.empty, rfl, o6⟩
      · obtain rfl : k = ls.length := by omega
        have hP := HPL.out
        rw [List.drop_eq_nil_of_le (Nat.le_refl _), parseLines] at hP
        have hQ : parseD s = if en = false ∨ ls.length = 0 then (SpecD.empty, (ls.length : Int) + 1, 2) else (S, 0, 0) := by rw [hq.out, hP]
        have hb7 := e5.heap hb3 (not_no _)
        have cz : ∀ o v, (SpecP.cells SpecP.empty SpecD.empty)[o]? = some v → wr.cell? ⟨w.heap.size, o, none⟩ = some v := fun o v hv => (cell_of_block hb7 o).trans hv
        have z0 := cz 0 _ rfl
        have z1 := cz 1 _ rfl
        have z2 := cz 2 _ rfl
        have z3 := cz 3 _ rfl
        have z4 := cz 4 _ rfl
        have z5 := cz 5 _ rfl
        have fz : ∀ o, wr.frozen? ⟨w.heap.size, o, none⟩ = false := free_of_block hb7
        have BB6 : Below w.heap.size w wr := BB2.trans (hB.mono BB2.size)
        have HP := Lib.hid hP
        clear cz hP HPL
        by_cases hbad : en = false ∨ ls.length = 0
        · rw [if_pos hbad] at hQ
          have HA := Lib.hid hQ
          clear hQ
          cases en with
          | false =>
            clear hbad
            go_wp2
            change bodyPost _ _ _ _ _ (six wr w.heap.size (.bool false) (.slice none 0 0) (.slice none 0 0) (.slice none 0 0) (.slice none 0 0) (.slice none 0 0))
            have g6 := six_heap hb7 (.bool false) (.slice none 0 0) (.slice none 0 0) (.slice none 0 0) (.slice none 0 0) (.slice none 0 0)
            have x6 := six_ext wr w.heap.size (.bool false) (.slice none 0 0) (.slice none 0 0) (.slice none 0 0) (.slice none 0 0) (.slice none 0 0)
            have o6 : SpecOwn w.heap.size (six wr w.heap.size (.bool false) (.slice none 0 0) (.slice none 0 0) (.slice none 0 0) (.slice none 0 0) (.slice none 0 0)) SpecD.empty SpecP.empty := own_six (own_empty _ _) hb7 (.bool false) (.slice none 0 0) (.slice none 0 0) (.slice none 0 0) (.slice none 0 0) (.slice none 0 0)
            generalize six wr w.heap.size (.bool false) (.slice none 0 0) (.slice none 0 0) (.slice none 0 0) (.slice none 0 0) (.slice none 0 0) = u at *
            have y0 : u.cell? ⟨w.heap.size, 0, none⟩ = some (.bool false) := by rw [cell_of_block g6]; rfl
            have y1 : u.cell? ⟨w.heap.size, 1, none⟩ = some (.slice none 0 0) := by rw [cell_of_block g6]; rfl
            have y2 : u.cell? ⟨w.heap.size, 2, none⟩ = some (.slice none 0 0) := by rw [cell_of_block g6]; rfl
            have y3 : u.cell? ⟨w.heap.size, 3, none⟩ = some (.slice none 0 0) := by rw [cell_of_block g6]; rfl
            have y4 : u.cell? ⟨w.heap.size, 4, none⟩ = some (.slice none 0 0) := by rw [cell_of_block g6]; rfl
            have y5 : u.cell? ⟨w.heap.size, 5, none⟩ = some (.slice none 0 0) := by rw [cell_of_block g6]; rfl
            refine bodyPost_ret (v := .tuple #[.agg (SpecP.cells SpecP.empty SpecD.empty), .int .i64 ((ls.length : Int) + 1), .int .i64 2]) (by simp [results, Tryz.results37, go_sem, y0, y1, y2, y3, y4, y5, SpecP.cells, SpecP.empty, SpecD.empty]) rfl ?_
            rw [HA.out]
            exact ⟨(BB6).trans (x6.below (BB6).size (fun k hk => by rw [hk]; exact Nat.le_refl _)), SpecP.empty, rfl, o6⟩
          | true =>
            have h0 : ls.length = 0 := by simpa using hbad
            have h0' : ((ls.length : Int) == 0) = true := by simp [h0]
            have h0'' : decide ((ls.length : Int) = 0) = true := decide_eq_true (by omega)
            have h00 := Lib.hid h0
            clear hbad h0
            go_wp2
            change bodyPost _ _ _ _ _ (six wr w.heap.size (.bool false) (.slice none 0 0) (.slice none 0 0) (.slice none 0 0) (.slice none 0 0) (.slice none 0 0))
            have g6 := six_heap hb7 (.bool false) (.slice none 0 0) (.slice none 0 0) (.slice none 0 0) (.slice none 0 0) (.slice none 0 0)
            have x6 := six_ext wr w.heap.size (.bool false) (.slice none 0 0) (.slice none 0 0) (.slice none 0 0) (.slice none 0 0) (.slice none 0 0)
            have o6 : SpecOwn w.heap.size (six wr w.heap.size (.bool false) (.slice none 0 0) (.slice none 0 0) (.slice none 0 0) (.slice none 0 0) (.slice none 0 0)) SpecD.empty SpecP.empty := own_six (own_empty _ _) hb7 (.bool false) (.slice none 0 0) (.slice none 0 0) (.slice none 0 0) (.slice none 0 0) (.slice none 0 0)
            generalize six wr w.heap.size (.bool false) (.slice none 0 0) (.slice none 0 0) (.slice none 0 0) (.slice none 0 0) (.slice none 0 0) = u at *
            have y0 : u.cell? ⟨w.heap.size, 0, none⟩ = some (.bool false) := by rw [cell_of_block g6]; rfl
            have y1 : u.cell? ⟨w.heap.size, 1, none⟩ = some (.slice none 0 0) := by rw [cell_of_block g6]; rfl
            have y2 : u.cell? ⟨w.heap.size, 2, none⟩ = some (.slice none 0 0) := by rw [cell_of_block g6]; rfl
            have y3 : u.cell? ⟨w.heap.size, 3, none⟩ = some (.slice none 0 0) := by rw [cell_of_block g6]; rfl
            have y4 : u.cell? ⟨w.heap.size, 4, none⟩ = some (.slice none 0 0) := by rw [cell_of_block g6]; rfl
            have y5 : u.cell? ⟨w.heap.size, 5, none⟩ = some (.slice none 0 0) := by rw [cell_of_block g6]; rfl
            refine bodyPost_ret (v := .tuple #[.agg (SpecP.cells SpecP.empty SpecD.empty), .int .i64 ((ls.length : Int) + 1), .int .i64 2]) (by simp [results, Tryz.results37, go_sem, y0, y1, y2, y3, y4, y5, SpecP.cells, SpecP.empty, SpecD.empty]) rfl ?_
            rw [HA.out]
            exact ⟨(BB6).trans (x6.below (BB6).size (fun k hk => by rw [hk]; exact Nat.le_refl _)), SpecP.empty, rfl, o6⟩
        · rw [if_neg hbad] at hQ
          have HA := Lib.hid hQ
          clear hQ
          have h1 : en = true := by
            cases en with
            | true => rfl
            | false => exact absurd (.inl rfl) hbad
          have h2 : ¬ ls.length = 0 := fun h => hbad (.inr h)
          subst h1
          have h2' : ((ls.length : Int) == 0) = false := beq_eq_false_iff_ne.2 (by omega)
          clear hbad
          have hr7 := hrd.hr
          have q0 : wr.cell? ⟨w2.heap.size, 0, none⟩ = some (.bool S.ranked) := by rw [cell_of_block hr7]; rfl
          have q1 : wr.cell? ⟨w2.heap.size, 1, none⟩ = some (.slice p.a1 S.merges.length p.c1) := by rw [cell_of_block hr7]; rfl
          have q2 : wr.cell? ⟨w2.heap.size, 2, none⟩ = some (.slice p.a2 S.tokens.length p.c2) := by rw [cell_of_block hr7]; rfl
          have q3 : wr.cell? ⟨w2.heap.size, 3, none⟩ = some (.slice p.a3 S.specials.length p.c3) := by rw [cell_of_block hr7]; rfl
          have q4 : wr.cell? ⟨w2.heap.size, 4, none⟩ = some (.slice p.a4 S.classes.length p.c4) := by rw [cell_of_block hr7]; rfl
          have q5 : wr.cell? ⟨w2.heap.size, 5, none⟩ = some (.slice p.a5 S.joins.length p.c5) := by rw [cell_of_block hr7]; rfl
          have own : SpecOwn w.heap.size wr S p := ⟨ownsRow_lower hrd.hs.r1 BB2.size, ownsRow_lower hrd.hs.r2 BB2.size, ownsRow_lower hrd.hs.r3 BB2.size, ownsRow_lower hrd.hs.r4 BB2.size, ownsRow_lower hrd.hs.r5 BB2.size⟩
          go_wp2
          change bodyPost _ _ _ _ _ (six wr w.heap.size (.bool S.ranked) (.slice p.a1 S.merges.length p.c1) (.slice p.a2 S.tokens.length p.c2) (.slice p.a3 S.specials.length p.c3) (.slice p.a4 S.classes.length p.c4) (.slice p.a5 S.joins.length p.c5))
          have g6 := six_heap hb7 (.bool S.ranked) (.slice p.a1 S.merges.length p.c1) (.slice p.a2 S.tokens.length p.c2) (.slice p.a3 S.specials.length p.c3) (.slice p.a4 S.classes.length p.c4) (.slice p.a5 S.joins.length p.c5)
          have x6 := six_ext wr w.heap.size (.bool S.ranked) (.slice p.a1 S.merges.length p.c1) (.slice p.a2 S.tokens.length p.c2) (.slice p.a3 S.specials.length p.c3) (.slice p.a4 S.classes.length p.c4) (.slice p.a5 S.joins.length p.c5)
          have o6 : SpecOwn w.heap.size (six wr w.heap.size (.bool S.ranked) (.slice p.a1 S.merges.length p.c1) (.slice p.a2 S.tokens.length p.c2) (.slice p.a3 S.specials.length p.c3) (.slice p.a4 S.classes.length p.c4) (.slice p.a5 S.joins.length p.c5)) S p := own_six (own) hb7 (.bool S.ranked) (.slice p.a1 S.merges.length p.c1) (.slice p.a2 S.tokens.length p.c2) (.slice p.a3 S.specials.length p.c3) (.slice p.a4 S.classes.length p.c4) (.slice p.a5 S.joins.length p.c5)
          generalize six wr w.heap.size (.bool S.ranked) (.slice p.a1 S.merges.length p.c1) (.slice p.a2 S.tokens.length p.c2) (.slice p.a3 S.specials.length p.c3) (.slice p.a4 S.classes.length p.c4) (.slice p.a5 S.joins.length p.c5) = u at *
          have y0 : u.cell? ⟨w.heap.size, 0, none⟩ = some (.bool S.ranked) := by rw [cell_of_block g6]; rfl
          have y1 : u.cell? ⟨w.heap.size, 1, none⟩ = some (.slice p.a1 S.merges.length p.c1) := by rw [cell_of_block g6]; rfl
          have y2 : u.cell? ⟨w.heap.size, 2, none⟩ = some (.slice p.a2 S.tokens.length p.c2) := by rw [cell_of_block g6]; rfl
          have y3 : u.cell? ⟨w.heap.size, 3, none⟩ = some (.slice p.a3 S.specials.length p.c3) := by rw [cell_of_block g6]; rfl
          have y4 : u.cell? ⟨w.heap.size, 4, none⟩ = some (.slice p.a4 S.classes.length p.c4) := by rw [cell_of_block g6]; rfl
          have y5 : u.cell? ⟨w.heap.size, 5, none⟩ = some (.slice p.a5 S.joins.length p.c5) := by rw [cell_of_block g6]; rfl
          refine bodyPost_ret (v := .tuple #[.agg (SpecP.cells p S), .int .i64 0, .int .i64 0]) (by simp [results, Tryz.results37, go_sem, y0, y1, y2, y3, y4, y5, SpecP.cells, SpecP.empty, SpecD.empty]) rfl ?_
          rw [HA.out]
          exact ⟨(BB6).trans (x6.below (BB6).size (fun k hk => by rw [hk]; exact Nat.le_refl _)), p, rfl, o6⟩
end Go.Proofs.YtiiaklaojlnokaaGreatDoor.B
