/- Package token: begin, New: contracts. -/
import Derived.Test.YtiiaklaojlnokaaGreatDoorTokAdd
import Derived.Deep.LoopGhost
import Derived.LoopTactic
import Derived.Laws.BytesArg
set_option linter.unusedVariables false
set_option linter.unusedSimpArgs false
namespace Go.Proofs.YtiiaklaojlnokaaGreatDoor.B
open Go Go.RowKit

/-- An entry more in the list, and the list stored. -/
theorem TabIn.grow {B : Nat} {w w3 : World} {t : Nat} {T : Tab} {v : Value} {bm pm g cap : Nat} (h : TabIn B w t T v bm pm) (hB : B ≤ w.heap.size) (e : Entry)
    (hown : w3.ownsRow B 216 3 (.slice (some ⟨g, 0, none⟩) (T.es.length + 1) cap) (T.es.length + 1) (flat T.es ++ e.cells)) (e3 : Ext (rowOf v) w w3) (hwh : v.ownBlock = some g ∨ w.heap.size ≤ g) :
    TabIn B (w3.setCell ⟨t, 0, none⟩ (.slice (some ⟨g, 0, none⟩) (T.es.length + 1) cap)) t { T with es := T.es ++ [e] } (.slice (some ⟨g, 0, none⟩) (T.es.length + 1) cap) bm pm ∧ Below B w (w3.setCell ⟨t, 0, none⟩ (.slice (some ⟨g, 0, none⟩) (T.es.length + 1) cap)) := by
  obtain ⟨n1, n2, n3, n4⟩ := h.notrow
  have ht3 := e3.heap h.ht n1
  have hgt : g ≠ t := by
    rcases hwh with h' | h'
    · rintro rfl; exact n1 h'
    · intro e; have := lt_of_block h.ht; omega
  have e4 : Ext (at1 t) w3 (w3.setCell ⟨t, 0, none⟩ (.slice (some ⟨g, 0, none⟩) (T.es.length + 1) cap)) := (Ext.refl (at1 t) w3).setCell (p := ⟨t, 0, none⟩) (fun _ => rfl) _
  have hb3 := h.hb.ext e3 n2
  have hp3 := h.hp.ext e3 n3
  refine ⟨⟨block_setCell ht3 0 _, ?_, hb3.ext e4 (hb3.ne ht3), hp3.ext e4 (hp3.ne ht3), h.hne, h.tB, h.bB, h.pB⟩, (e3.below hB n4).setCell h.tB _⟩
  have hfl : flat (T.es ++ [e]) = flat T.es ++ e.cells := by rw [flat_append]; simp [flat]
  rw [hfl, List.length_append, List.length_singleton]
  refine ⟨hown.1, ?_⟩
  rcases hown.2 with ⟨h', _⟩ | ⟨g', cp, cu, hv, hg', hh, r⟩
  · cases h'
  · cases hv; exact .inr ⟨g, cap, cu, rfl, hg', e4.heap1 hh hgt, r⟩

def byteStr (i : Nat) : ByteArray := strOfNums [(i : Int)]
def bytesTab (k : Nat) : Tab := { es := (List.range k).map fun i => ⟨byteStr i, -1, -1⟩, bm := (List.range k).map fun i => (byteStr i, i), pm := [], longest := 1 }
theorem bytesTab_len (k : Nat) : (bytesTab k).es.length = k := by simp [bytesTab]
theorem byteStr_inj {i j : Nat} (hi : i < 256) (hj : j < 256) (h : byteStr i = byteStr j) : i = j := by
  simp only [byteStr, strOfNums, List.map_cons, List.map_nil, Int.toNat_natCast, ByteArray.mk.injEq, Array.mk.injEq, List.cons.injEq, and_true] at h
  have := congrArg UInt8.toNat h
  simp at this
  omega
theorem bytesTab_new {k : Nat} (hk : k < 256) : mget (bytesTab k).bm (byteStr k) = none := by
  rw [mget_none]
  simp only [bytesTab, List.map_map, List.mem_map, List.mem_range, Function.comp_apply, not_exists, not_and]
  intro i hi e
  have := byteStr_inj (by omega) hk e
  omega
theorem bytesTab_succ {k : Nat} (hk : k < 256) : bytesTab (k + 1) = { es := (bytesTab k).es ++ [⟨byteStr k, -1, -1⟩], bm := mput (bytesTab k).bm (byteStr k) k, pm := [], longest := 1 } := by
  rw [mput_new _ (bytesTab_new hk)]
  simp [bytesTab, List.range_succ]

set_option maxHeartbeats 1000000
set_option maxRecDepth 100000
theorem conv_one (wx : World) (v : Int) : (convert 117 9 (.slice (some ⟨wx.heap.size, 0, none⟩) 1 1)).run Tryz.prog (wx.alloc (.cells #[.int .u8 v] 5)) = .ok (.string (strOfNums [v])) (wx.alloc (.cells #[.int .u8 v] 5)) := by
  refine run_convert_bytes_arg _ _ 5 Tryz.underlying117 Tryz.underlying5 wx.heap.size 0 1 1 [v] rfl (fun i hi => ?_) _ Tryz.underlying9
  obtain rfl : i = 0 := by omega
  rw [cell_of_block (block_new wx _)]
  rfl
theorem byteStr_num (k : Nat) : strOfNums [(k : Int)] = byteStr k := rfl
/-- One round: the byte k is added. -/
def BeginAt (w : World) (t : Nat) (i : Value) (wr : World) : Prop := ∃ k : Nat, k ≤ 256 ∧ i = .int .i64 k ∧ TabAt w.heap.size wr t (bytesTab k) ∧ Below w.heap.size w wr
theorem tab_begin (w : World) : Calls Tryz.prog 158 #[] w fun e w' => ∃ t, e = .returned (.pointer (some ⟨t, 0, none⟩)) ∧ TabAt w.heap.size w' t (bytesTab 256) ∧ Below w.heap.size w w' := by
  have hmm := @run_makeMap Tryz.prog
  go_enter Tryz.func158, Tryz.ntmps158
  go_wp2_with fail
  have hcv := conv_one
  have h0 : TabAt w.heap.size (((w.alloc (.map #[] 0)).alloc (.map #[] 0)).alloc (.cells #[.slice none 0 0, .map (some w.heap.size), .map (some (w.heap.size + 1)), .int .i64 1] 192)) (w.heap.size + 1 + 1) (bytesTab 0) := by
    show TabAt _ _ _ ⟨[], [], [], 1⟩
    refine ⟨.slice none 0 0, w.heap.size, w.heap.size + 1, ?_, World.ownsRow_nil _ _ _ _, ?_, ?_, by omega, by omega, by omega, by omega⟩
    · have := block_new ((w.alloc (.map #[] 0)).alloc (.map #[] 0)) (.cells #[.slice none 0 0, .map (some w.heap.size), .map (some (w.heap.size + 1)), .int .i64 1] 192)
      simpa using this
    · exact ((MapAt.new w Value.string natV).ext (((Ext.refl no _).alloc _).alloc _) (not_no _))
    · have := (MapAt.new (w.alloc (.map #[] 0)) pairV natV).ext ((Ext.refl no _).alloc (.cells #[.slice none 0 0, .map (some w.heap.size), .map (some (w.heap.size + 1)), .int .i64 1] 192)) (not_no _)
      simpa using this
  have hB0 : Below w.heap.size w (((w.alloc (.map #[] 0)).alloc (.map #[] 0)).alloc (.cells #[.slice none 0 0, .map (some w.heap.size), .map (some (w.heap.size + 1)), .int .i64 1] 192)) :=
    ((((Ext.refl no w).alloc _).alloc _).alloc _).toBelow
  generalize ((w.alloc (.map #[] 0)).alloc (.map #[] 0)).alloc (.cells #[.slice none 0 0, .map (some w.heap.size), .map (some (w.heap.size + 1)), .int .i64 1] 192) = w1 at *
  generalize w.heap.size + 1 + 1 = t at *
  generalize hk : w.heap.size + 1 = pm at *
  clear hmm hk
  go_loopw [8] (fun i wr => BeginAt w t i wr) (fun i _ => 256 - (intOf i).toNat)
  case atStart => exact ⟨0, by omega, rfl, h0, hB0⟩
  case round =>
    clear h0 hB0
    obtain ⟨k, hk, rfl, hT, hB⟩ := hrel
    by_cases hlt : k < 256
    · go_upto_region 6 with (fail)
      rw [byteStr_num]
      generalize hw2 : wr.alloc (.cells #[.int .u8 (k : Int)] 5) = w2
      have e2 : Ext no wr w2 := by rw [← hw2]; exact (Ext.refl _ _).alloc _
      have hT2 := hT.keep e2
      obtain ⟨v, bm, pm, hI⟩ := hT2
      have hc0 := hI.c0
      clear hw2 hcv
      have hBw : w.heap.size ≤ w2.heap.size := Nat.le_trans hB.size e2.size
      have hl : (bytesTab k).es.length = k := bytesTab_len k
      have ho := hI.hl
      rw [hl] at ho
      have HE := Lib.hid (bytesTab_succ hlt)
      have HN := Lib.hid (bytesTab_new hlt)
      clear hl
      go_upto_region 7 with (at_builtin; refine wpList_append1 rfl _ _ _ rfl w.heap.size 216 Tryz.underlying189 i_entry rfl (by decide) v k (flat (bytesTab k).es) rfl ho #[.string (byteStr k), .int .i64 (-1), .int .i64 (-1)] rfl rfl (by simp [Value.oneCell']) (by unfold maxLen; omega) (by omega) hBw ?_; intro g cap w3 hown e3 hwh hlt3; have ht3 := e3.heap hI.ht hI.notrow.1; have k3 := (cell_of_block ht3 0).trans rfl; have f3 := free_of_block ht3 0)
      have hG := hI.grow hBw ⟨byteStr k, -1, -1⟩ (by rw [bytesTab_len]; exact hown) e3 hwh
      rw [bytesTab_len] at hG
      obtain ⟨hI4, hB4⟩ := hG
      clear hown ht3 k3 f3 hwh ho
      generalize w3.setCell ⟨t, 0, none⟩ (.slice (some ⟨g, 0, none⟩) (k + 1) cap) = w4 at *
      have c1 := hI4.c1
      go_wp2_with (first | (refine wpList_mapUpdate rfl _ _ _ _ rfl k_str Tryz.underlying176 hI4.hb (byteStr k) rfl rfl k rfl ?_; intro w5 hb5 e5 hs5))
      go_roundw
      case measure => simp [intOf]; omega
      case rel =>
        have ht5 := e5.heap1 hI4.ht (Ne.symm (hI4.hb.ne hI4.ht))
        refine ⟨k + 1, by omega, by go_num, ?_, ?_⟩
        · rw [HE.out]
          refine ⟨_, bm, pm, ht5, ?_, hb5, hI4.hp.ext e5 (Ne.symm hI4.hne), hI4.hne, hI4.tB, hI4.bB, hI4.pB⟩
          refine ⟨hI4.hl.1, ?_⟩
          rcases hI4.hl.2 with ⟨h', _⟩ | ⟨g', cp, cu, hv, hg', hh, r⟩
          · cases h'
          · exact .inr ⟨g', cp, cu, hv, hg', e5.heap1 hh (Ne.symm (hI4.hb.ne hh)), r⟩
        · exact (((hB.trans (e2.below hB.size (fun _ h => absurd h (not_no _)))).trans hB4).trans (e5.below (Nat.le_trans hBw hB4.size) (fun k hk => by rw [hk]; exact hI4.bB)))
    · have hk' : 256 ≤ k := by omega
      go_wp2
      go_ret
      obtain rfl : k = 256 := by omega
      exact ⟨t, rfl, hT, hB⟩

/-! ### New -/
def mcells (ms : List (Int × Int)) : List Value := ms.flatMap fun p => [.int .i64 p.1, .int .i64 p.2]
theorem mcells_length (ms : List (Int × Int)) : (mcells ms).length = ms.length * 2 := by
  induction ms with
  | nil => rfl
  | cons p ms ih =>
    have : mcells (p :: ms) = [.int .i64 p.1, .int .i64 p.2] ++ mcells ms := rfl
    rw [this, List.length_append, ih]; simp; omega
theorem mcells_at (ms : List (Int × Int)) (i : Nat) (p : Int × Int) (h : ms[i]? = some p) : (mcells ms)[i * 2]? = some (.int .i64 p.1) ∧ (mcells ms)[i * 2 + 1]? = some (.int .i64 p.2) := by
  induction ms generalizing i with
  | nil => simp at h
  | cons q ms ih =>
    have hf : mcells (q :: ms) = [.int .i64 q.1, .int .i64 q.2] ++ mcells ms := rfl
    cases i with
    | zero =>
      simp only [List.getElem?_cons_zero, Option.some.injEq] at h
      subst h
      rw [hf]; exact ⟨rfl, rfl⟩
    | succ i =>
      have := ih i (by simpa using h)
      rw [hf, List.getElem?_append_right (by simp; omega), List.getElem?_append_right (by simp; omega)]
      simp only [List.length_cons, List.length_nil]
      rw [show (i + 1) * 2 - (0 + 1 + 1) = i * 2 by omega, show (i + 1) * 2 + 1 - (0 + 1 + 1) = i * 2 + 1 by omega]
      exact this
/-- Merges added, one by one, from number i on. -/
def addAll : Tab → List (Int × Int) → Nat → Option Tab × Nat × Int
  | T, [], i => (some T, i, 0)
  | T, m :: ms, i => if (T.add m.1 m.2).2.2 = 0 then addAll (T.add m.1 m.2).1 ms (i + 1) else (none, i, (T.add m.1 m.2).2.2)
def Tab.Small (T : Tab) : Prop := ∀ e ∈ T.es, e.b.size ≤ 64
theorem small_bytes (k : Nat) : (bytesTab k).Small := by
  intro e he
  simp only [bytesTab, List.mem_map] at he
  obtain ⟨i, _, rfl⟩ := he
  simp [byteStr, strOfNums_size]
theorem small_add {T : Tab} (h : T.Small) (x y : Int) : (T.add x y).1.Small := by
  unfold Tab.add
  split
  · exact h
  · split
    · exact h
    · split
      · exact h
      · split
        · exact h
        · intro e he
          simp only [List.mem_append, List.mem_singleton] at he
          rcases he with he | rfl
          · exact h e he
          · simp only; omega
/-- A pointer, or nil. -/
def ptrV (o : Option Nat) : Value := .pointer (o.map fun t => ⟨t, 0, none⟩)
def TokNewPost (w : World) (ms : List (Int × Int)) (e : Ending) (w' : World) : Prop :=
  Below w.heap.size w w' ∧ ∃ o, e = .returned (.tuple #[ptrV o, .int .i64 (addAll (bytesTab 256) ms 0).2.1, .int .i64 (addAll (bytesTab 256) ms 0).2.2]) ∧
    match (addAll (bytesTab 256) ms 0).1, o with
    | some T, some t => TabAt w.heap.size w' t T ∧ T.Small
    | none, none => True
    | _, _ => False
def NewAt (w : World) (t : Nat) (ms : List (Int × Int)) (i : Value) (wr : World) : Prop :=
  ∃ (k : Nat) (T : Tab), k ≤ ms.length ∧ i = .int .i64 k ∧ TabAt w.heap.size wr t T ∧ T.Small ∧ addAll (bytesTab 256) ms 0 = addAll T (ms.drop k) k ∧ Below w.heap.size w wr
theorem tok_new (w : World) (A : Option Addr) (c : Nat) (ms : List (Int × Int)) (hR : RowAt w A (mcells ms)) (hn : ms.length ≤ 9223372036854775807) :
    Calls Tryz.prog 113 #[.slice A ms.length c] w (TokNewPost w ms) := by
  go_enter Tryz.func113, Tryz.ntmps113
  go_wp2_with fail
  refine (tab_begin w).mono ?_
  rintro e w1 ⟨t, rfl, hT1, hB1⟩
  go_wp2_with fail
  go_loopw [13] (fun i wr => NewAt w t ms i wr) (fun i _ => ms.length - (intOf i).toNat)
  case atStart => exact ⟨0, bytesTab 256, by omega, rfl, hT1, small_bytes _, rfl, hB1⟩
  case round =>
    clear hT1 hB1
    obtain ⟨k, T, hk, rfl, hT, hS, HA, hB⟩ := hrel
    have HA := Lib.hid HA
    by_cases hlt : k < ms.length
    · obtain ⟨⟨x, y⟩, hp⟩ : ∃ p, ms[k]? = some p := ⟨_, List.getElem?_eq_getElem hlt⟩
      obtain ⟨b, o, rfl, hcs⟩ := hR.form (by rw [mcells_length]; omega)
      obtain ⟨q0, q1⟩ := mcells_at ms k _ hp
      have c0 := (hB.cell (lt_of_cell (hcs _ _ q0))).trans (hcs _ _ q0)
      have c1 : wr.cell? ⟨b, o + k * 2 + 1, none⟩ = some (.int .i64 y) := by
        have := (hB.cell (lt_of_cell (hcs _ _ q1))).trans (hcs _ _ q1)
        rwa [← Nat.add_assoc] at this
      have hd : ms.drop k = (x, y) :: ms.drop (k + 1) := by
        obtain ⟨hl, he⟩ := List.getElem?_eq_some_iff.1 hp
        rw [List.drop_eq_getElem_cons hl, he]
      go_wp2_with fail
      have e1 : Ext no wr (wr.alloc (.cells #[.int .i64 x, .int .i64 y] 54)) := (Ext.refl no wr).alloc _
      generalize wr.alloc (.cells #[.int .i64 x, .int .i64 y] 54) = w2 at *
      have hB2 : Below w.heap.size w w2 := hB.trans (e1.below hB.size (fun _ h => absurd h (not_no _)))
      have hT2 := hT.keep e1
      refine (tab_add hT2 hB2.size hS x y).mono ?_
      rintro e w3 ⟨rfl, hB3, hT3⟩
      have hB3 := hB2.trans hB3
      clear hT hT2 hB2 hB e1 c0 c1
      cases hr : T.add x y with
      | mk T' r =>
      obtain ⟨id, er⟩ := r
      rw [hr] at hT3
      have hS' : T'.Small := by have := small_add hS x y; rwa [hr] at this
      have HD := Lib.hid hd
      have HR := Lib.hid hr
      clear hd hr hp q0 q1
      by_cases hz : er = 0
      · subst hz
        go_wp2
        go_roundw
        case measure => simp [intOf]; omega
        case rel =>
          refine ⟨k + 1, T', by omega, by go_num, hT3, hS', ?_, hB3⟩
          rw [HA.out, HD.out, addAll, HR.out]
          rfl
      · go_wp2
        go_ret3
        have hA : addAll (bytesTab 256) ms 0 = (none, k, er) := by
          rw [HA.out, HD.out, addAll, HR.out]
          simp [hz]
        refine ⟨hB3, none, ?_, ?_⟩
        · rw [hA]; rfl
        · rw [hA]; trivial
    · obtain rfl : k = ms.length := by omega
      have hk' : ms.length ≤ ms.length := Nat.le_refl _
      go_wp2
      go_ret3
      have hA : addAll (bytesTab 256) ms 0 = (some T, ms.length, 0) := by
        rw [HA.out, List.drop_eq_nil_of_le hk']; rfl
      refine ⟨hB, some t, ?_, ?_⟩
      · rw [hA]; rfl
      · rw [hA]; exact ⟨hT, hS⟩
end Go.Proofs.YtiiaklaojlnokaaGreatDoor.B
