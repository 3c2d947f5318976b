/- Package grow: Load of merges; package vocab: build, New: contracts. -/
import Derived.Test.YtiiaklaojlnokaaGreatDoorCopied
set_option linter.unusedVariables false
set_option linter.unusedSimpArgs false
namespace Go.Proofs.YtiiaklaojlnokaaGreatDoor.B
open Go Go.RowKit
set_option maxRecDepth 100000
set_option maxHeartbeats 1000000

theorem TabAt.low {B B' : Nat} {w : World} {t : Nat} {T : Tab} (h : TabAt B w t T) (hB : B' ≤ B) : TabAt B' w t T := by
  obtain ⟨v, bm, pm, h⟩ := h
  exact ⟨v, bm, pm, h.ht, ownsRow_lower h.hl hB, h.hb, h.hp, h.hne, Nat.le_trans hB h.tB, Nat.le_trans hB h.bB, Nat.le_trans hB h.pB⟩
theorem MSetAt.low {B B' : Nat} {w : World} {m : Nat} {S : MSet} (h : MSetAt B w m S) (hB : B' ≤ B) : MSetAt B' w m S := by
  obtain ⟨v, im, tm, h⟩ := h
  exact ⟨v, im, tm, h.ht, h.hf, ownsRow_lower h.hl hB, h.hi, h.hx, h.hne, Nat.le_trans hB h.mB, Nat.le_trans hB h.iB, Nat.le_trans hB h.xB⟩
/-- What a table's maker tells: the table or none, the number, the error. -/
def MadeTab (w : World) (r : Option Tab × Nat × Int) (e : Ending) (w' : World) : Prop :=
  Below w.heap.size w w' ∧ ∃ o, e = .returned (.tuple #[ptrV o, .int .i64 r.2.1, .int .i64 r.2.2]) ∧
    match r.1, o with
    | some T, some t => TabAt w.heap.size w' t T ∧ T.Small
    | none, none => True
    | _, _ => False
theorem mergeC_eq (ms : List (Int × Int)) : ms.flatMap mergeC = mcells ms := rfl
theorem grow_load_m (w : World) (S : SpecD) (p : SpecP) (h : SpecIn w S p) (hr : S.ranked = false) (hn : S.merges.length ≤ 9223372036854775807) :
    Calls Tryz.prog 67 #[.agg (p.cells S)] w (MadeTab w (addAll (bytesTab 256) S.merges 0)) := by
  obtain ⟨rk, ms, ts, ss, cs, js⟩ := S
  obtain ⟨a1, c1, a2, c2, a3, c3, a4, c4, a5, c5⟩ := p
  obtain ⟨r1, r2, r3, r4, r5⟩ := h
  simp only at hr hn r1 r2 r3 r4 r5
  subst hr
  show Calls _ _ #[.agg #[.bool false, .slice a1 ms.length c1, .slice a2 ts.length c2, .slice a3 ss.length c3, .slice a4 cs.length c4, .slice a5 js.length c5]] _ _
  have e1 : Ext no w (w.alloc (.cells #[.bool false, .slice a1 ms.length c1, .slice a2 ts.length c2, .slice a3 ss.length c3, .slice a4 cs.length c4, .slice a5 js.length c5] 33)) := (Ext.refl _ _).alloc _
  go_enter Tryz.func67, Tryz.ntmps67
  go_wp2_with fail
  generalize w.alloc (.cells #[.bool false, .slice a1 ms.length c1, .slice a2 ts.length c2, .slice a3 ss.length c3, .slice a4 cs.length c4, .slice a5 js.length c5] 33) = w1 at *
  refine (tok_new w1 a1 c1 ms (r1.ext e1 (fun _ _ _ => not_no _)) hn).mono ?_
  rintro e w2 ⟨hB, o, rfl, hT⟩
  go_wp2
  go_ret3
  refine ⟨(e1.toBelow).trans (hB.mono e1.size), o, rfl, ?_⟩
  revert hT
  cases (addAll (bytesTab 256) ms 0).1 with
  | none => cases o with
    | none => exact fun h => h
    | some t => exact fun h => h
  | some T => cases o with
    | none => exact fun h => h
    | some t => exact fun h => ⟨h.1.low e1.size, h.2⟩
def Err {α : Type} (r : Option α × Nat × Int) : Prop := (r.1 = none → r.2.2 ≠ 0) ∧ (∀ T, r.1 = some T → r.2.2 = 0)
theorem addAll_err : ∀ (ms : List (Int × Int)) (T : Tab) (i : Nat), Err (addAll T ms i)
  | [], T, i => ⟨fun h => (by cases h), fun _ _ => rfl⟩
  | m :: ms, T, i => by
    unfold addAll
    by_cases h : (T.add m.1 m.2).2.2 = 0
    · rw [if_pos h]; exact addAll_err ms _ _
    · rw [if_neg h]; exact ⟨fun _ => h, fun _ h' => (by cases h')⟩
theorem markAll_err : ∀ (xs : List (Int × ByteArray)) (S : MSet) (i : Nat), Err (markAll S xs i)
  | [], S, i => ⟨fun h => (by cases h), fun _ _ => rfl⟩
  | x :: xs, S, i => by
    unfold markAll
    by_cases h : (S.add x).2 = 0
    · rw [if_pos h]; exact markAll_err xs _ _
    · rw [if_neg h]; exact ⟨fun _ => h, fun _ h' => (by cases h')⟩
/-- A vocabulary, as plain data. -/
structure VocD where
  S : SpecD
  T : Tab
  K : BTab
  M : MSet
def buildV (r : Option Tab × Nat × Int) (S : SpecD) : Option VocD × Int × Int × Int :=
  match r with
  | (none, n, e) => (none, 1, n, e)
  | (some T, _, _) => match markAll MSet.empty S.specials 0 with
    | (none, n, e) => (none, 2, n, e)
    | (some M, _, _) => if 0 ≤ idx (fun x : Int × ByteArray => decide (x.1 < (T.es.length : Int))) S.specials then (none, 2, idx (fun x : Int × ByteArray => decide (x.1 < (T.es.length : Int))) S.specials, 4)
      else match boundNew S.classes S.joins with
        | none => (none, 0, 0, 1)
        | some K => (some ⟨S, T, K, M⟩, 0, 0, 0)
theorem scells_eq (ms : List (Int × ByteArray)) : ms.flatMap specialC = scells ms := rfl
theorem build_fn (w : World) (x : Int × ByteArray) (a t B : Nat) (T : Tab) (ha : w.cell? ⟨a, 0, none⟩ = some (.pointer (some ⟨t, 0, none⟩))) (hT : TabAt B w t T) :
    Calls Tryz.prog 70 #[specialV x, .pointer (some ⟨a, 0, none⟩)] w fun e w' => e = .returned (.bool (decide (x.1 < (T.es.length : Int)))) ∧ Ext no w w' := by
  obtain ⟨n, s⟩ := x
  unfold specialV
  have e1 : Ext no w (w.alloc (.cells #[.int .i64 n, .string s] 56)) := (Ext.refl _ _).alloc _
  have hm := block_new w (.cells #[.int .i64 n, .string s] 56)
  go_enter Tryz.func70, Tryz.ntmps70
  go_wp2_with fail
  generalize w.alloc (.cells #[.int .i64 n, .string s] 56) = w1 at *
  have hT1 := hT.keep e1
  have ha1 := e1.cell ha (not_no _)
  have m0 : w1.cell? ⟨w.heap.size, 0, none⟩ = some (.int .i64 n) := by rw [cell_of_block hm]; rfl
  refine wp_region_ser [(0, false, []), (1, false, []), (2, false, []), (3, true, [0, 1]), (4, false, []), (5, false, [])] (by kernel_rfl) (by kernel_rfl) ?_
  have eu : Ext no w1 w1.drew := (Ext.refl no w1).drew
  have e2 := e1.trans eu
  have hT2 := hT1.keep eu
  have ha2 := eu.cell ha1 (not_no _)
  have m2 := eu.cell m0 (not_no _)
  generalize w1.drew = w2 at *
  clear eu e1 hT1 ha1 m0 hm
  repeat (first | (refine ser_next (by rfl) (by rfl) (by rfl) (fun K hK => ?_); (first | go_big_move | go_big_op); refine hK _ ?_; clear hK K) | (refine ser_off (by rfl) (by rfl) ?_; simp only [Act.put, List.setIfInBounds_toArray, List.set_cons_zero, List.set_cons_succ]))
  refine ser_eff (by rfl) (by rfl) (fun K hK => ?_)
  go_big_op
  refine (tab_len hT2).mono ?_
  rintro e w3 ⟨rfl, rfl⟩
  refine hK _ _ ?_ ?_
  · repeat (first | exact ag_nil | (refine ag_cons (by rfl) (by rfl) (by rfl) (by rfl) (by rfl) (fun K hK => ?_) ?_; · ((first | go_big_move | go_big_op); exact hK)) | (refine ag_off (by rfl) (by rfl) (by rfl) (by rfl) ?_))
  clear hK K
  repeat (first | (refine ser_next (by rfl) (by rfl) (by rfl) (fun K hK => ?_); (first | go_big_move | go_big_op); refine hK _ ?_; clear hK K) | (refine ser_off (by rfl) (by rfl) ?_; simp only [Act.put, List.setIfInBounds_toArray, List.set_cons_zero, List.set_cons_succ]))
  refine ser_nil ?_
  go_wp2
  go_ret
  exact ⟨rfl, e2⟩
def vocCells (p : SpecP) (S : SpecD) (t b m : Nat) (rest : List Value) : List Value := .bool S.ranked :: .slice p.a1 S.merges.length p.c1 :: .slice p.a2 S.tokens.length p.c2 :: .slice p.a3 S.specials.length p.c3 :: .slice p.a4 S.classes.length p.c4 :: .slice p.a5 S.joins.length p.c5 ::
  .pointer (some ⟨t, 0, none⟩) :: .pointer (some ⟨b, 0, none⟩) :: .pointer (some ⟨m, 0, none⟩) :: rest
/-- A vocabulary in memory: its parts; which tokens are alone: not yet looked at. -/
structure VocIn (B : Nat) (w : World) (v : Nat) (V : VocD) (p : SpecP) (t b m : Nat) (rest : List Value) : Prop where
  hv : w.heap[v]? = some (.cells (vocCells p V.S t b m rest).toArray 116 (0, 0))
  hs : SpecOwn B w V.S p
  ht : TabAt B w t V.T
  hT : V.T.Small
  hb : BTabAt w b V.K
  hm : MSetAt B w m V.M
  bB : B ≤ b
  vB : B ≤ v
def BuildPost (w : World) (r : Option Tab × Nat × Int) (S : SpecD) (e : Ending) (w' : World) : Prop :=
  Below w.heap.size w w' ∧ ∃ o, e = .returned (.tuple #[ptrV o, .int .i64 (buildV r S).2.1, .int .i64 (buildV r S).2.2.1, .int .i64 (buildV r S).2.2.2]) ∧
    match (buildV r S).1, o with
    | some V, some v => ∃ p t b m, VocIn w.heap.size w' v V p t b m [.int .u32 0, .int .i32 0, .int .u32 0, .slice none 0 0, .int .i64 0]
    | none, none => True
    | _, _ => False
theorem vocab_build (w : World) (S : SpecD) (p : SpecP) (h : SpecIn w S p) (hs : S.Small) (hz : ∀ x ∈ S.specials, x.2.size ≤ 4611686018427387903) (r : Option Tab × Nat × Int) (hr : Err r)
    (hL : ∀ w1, Ext no w w1 → Calls Tryz.prog 67 #[.agg (p.cells S)] w1 (MadeTab w1 r)) :
    Calls Tryz.prog 38 #[.agg (p.cells S)] w (BuildPost w r S) := by
  obtain ⟨rk, ms, ts, ss, cs, js⟩ := S
  obtain ⟨n1, n2, n3, n4, n5⟩ := id hs
  obtain ⟨a1, c1, a2, c2, a3, c3, a4, c4, a5, c5⟩ := p
  obtain ⟨r1, r2, r3, r4, r5⟩ := id h
  simp only at n1 n2 n3 n4 n5 r1 r2 r3 r4 r5 hz
  show Calls _ _ #[.agg #[.bool rk, .slice a1 ms.length c1, .slice a2 ts.length c2, .slice a3 ss.length c3, .slice a4 cs.length c4, .slice a5 js.length c5]] _ _
  have e1 : Ext no w (w.alloc (.cells #[.bool rk, .slice a1 ms.length c1, .slice a2 ts.length c2, .slice a3 ss.length c3, .slice a4 cs.length c4, .slice a5 js.length c5] 33)) := (Ext.refl _ _).alloc _
  have hb1 := block_new w (.cells #[.bool rk, .slice a1 ms.length c1, .slice a2 ts.length c2, .slice a3 ss.length c3, .slice a4 cs.length c4, .slice a5 js.length c5] 33)
  have HL := Lib.hid hL
  have HP := Lib.hid h
  clear hL h
  go_enter Tryz.func38, Tryz.ntmps38
  go_wp2_with fail
  generalize w.alloc (.cells #[.bool rk, .slice a1 ms.length c1, .slice a2 ts.length c2, .slice a3 ss.length c3, .slice a4 cs.length c4, .slice a5 js.length c5] 33) = w1 at *
  refine (HL.out w1 e1).mono ?_
  rintro e w2 ⟨hB2, o, rfl, hT⟩
  have f2 : Ext no w1 w2 := Below.toExt hB2 no
  have E2 := e1.trans f2
  have hb2 := f2.heap hb1 (not_no _)
  have BB2 : Below w.heap.size w w2 := e1.toBelow.trans (hB2.mono e1.size)
  obtain ⟨To, rn, re⟩ := r
  cases To with
  | none =>
    have hre := hr.1 rfl
    cases o with
    | some t => exact hT.elim
    | none =>
    simp only at hre hT
    unfold ptrV
    simp only [Option.map_none]
    go_wp2
    refine bodyPost_ret (v := .tuple #[.pointer none, .int .i64 1, .int .i64 rn, .int .i64 re]) (by simp [results, Tryz.results38, go_sem]) rfl ?_
    exact ⟨BB2.trans (((Ext.refl no w2).alloc _).below BB2.size (fun _ h => absurd h (not_no _))), none, rfl, trivial⟩
  | some T =>
    have hre := hr.2 T rfl
    cases o with
    | none => exact hT.elim
    | some t =>
    simp only at hre hT
    subst hre
    obtain ⟨hT, hTS⟩ := hT
    replace hT := hT.low e1.size
    unfold ptrV
    simp only [Option.map_some]
    have q3 : w2.cell? ⟨w.heap.size, 3, none⟩ = some (.slice a3 ss.length c3) := by rw [cell_of_block hb2]; rfl
    have q3' := fun o => ((Ext.refl no w2).alloc o).cell q3 (not_no _)
    go_wp2_with fail
    clear q3 q3'
    have e3 : Ext no w2 (w2.alloc (.cells #[.pointer (some ⟨t, 0, none⟩)] 73)) := (Ext.refl _ _).alloc _
    have hv3 := block_new w2 (.cells #[.pointer (some ⟨t, 0, none⟩)] 73)
    generalize w2.alloc (.cells #[.pointer (some ⟨t, 0, none⟩)] 73) = w3 at *
    have E3 := E2.trans e3
    have hb3 := e3.heap hb2 (not_no _)
    have hT3 := hT.keep e3
    have BB3 := BB2.trans (e3.below BB2.size (fun _ h => absurd h (not_no _)))
    generalize w2.heap.size = vt at *
    clear BB2 e3 hT f2 E2 hb2
    refine (mark_new w3 a3 c3 ss (r3.ext E3 (fun _ _ _ => not_no _)) (by omega) hz).mono ?_
    rintro e w4 ⟨hB4, o, rfl, hM⟩
    have e4 : Ext no w3 w4 := Below.toExt hB4 no
    have E4 := E3.trans e4
    have hb4 := e4.heap hb3 (not_no _)
    have hT4 := hT3.keep e4
    have hv4 := e4.heap hv3 (not_no _)
    have BB4 := BB3.trans (hB4.mono BB3.size)
    have hmr := markAll_err ss MSet.empty 0
    cases hma : markAll MSet.empty ss 0 with
    | mk Mo rest4 =>
    obtain ⟨mn, me⟩ := rest4
    rw [hma] at hM hmr
    have HMA := Lib.hid hma
    clear hma
    cases Mo with
    | none =>
      have hme := hmr.1 rfl
      cases o with
      | some m => exact hM.elim
      | none =>
      simp only at hme hM
      simp only [ptrV, Option.map_none, HMA.out]
      go_wp2
      refine bodyPost_ret (v := .tuple #[.pointer none, .int .i64 2, .int .i64 mn, .int .i64 me]) (by simp [results, Tryz.results38, go_sem]) rfl ?_
      refine ⟨BB4, none, ?_, ?_⟩
      · simp only [buildV, HMA.out]; rfl
      · simp only [buildV, HMA.out]
    | some M =>
    have hme := hmr.2 M rfl
    cases o with
    | none => exact hM.elim
    | some m =>
    simp only at hme hM
    subst hme
    replace hM := hM.low (show w.heap.size ≤ w3.heap.size from BB3.size)
    simp only [ptrV, Option.map_some, HMA.out]
    clear hv3 hb3 hT3 BB3 E3 e4 hB4
    have q3 : w4.cell? ⟨w.heap.size, 3, none⟩ = some (.slice a3 ss.length c3) := by rw [cell_of_block hb4]; rfl
    have hmf : ∀ (fn : Fn) (first cap : Array Value) (w : World), (Instr.makeFunc fn first cap).run Tryz.prog w = .ok (.func fn first cap) w := fun _ _ _ _ => rfl
    go_wp2_with fail
    clear hmf q3
    refine (indexFunc_build w4 a3 c3 ss (r3.ext E4 (fun _ _ _ => not_no _)) (by omega) _ (fun x => decide (x.1 < (T.es.length : Int))) (fun x hx w5 e5 => build_fn w5 x vt t w.heap.size T ((cell_of_block (e5.heap hv4 (not_no _)) 0).trans rfl) (hT4.keep e5))).mono ?_
    rintro e w5 ⟨rfl, e5⟩
    have E5 := E4.trans e5
    have hb5 := e5.heap hb4 (not_no _)
    have hT5 := hT4.keep e5
    have hM5 := hM.keep e5
    have hv5 := e5.heap hv4 (not_no _)
    have BB5 := BB4.trans (e5.below BB4.size (fun _ h => absurd h (not_no _)))
    clear hb4 hT4 hM hv4 BB4 e5 E4
    obtain ⟨ix, hix0⟩ : ∃ ix, idx (fun x : Int × ByteArray => decide (x.1 < (T.es.length : Int))) ss = ix := ⟨_, rfl⟩
    rw [hix0]
    have hix := Lib.hid hix0
    clear hix0
    by_cases h0 : 0 ≤ ix
    · go_wp2
      refine bodyPost_ret (v := .tuple #[.pointer none, .int .i64 2, .int .i64 ix, .int .i64 4]) (by simp [results, Tryz.results38, go_sem]) rfl ?_
      refine ⟨BB5, none, ?_, ?_⟩
      · simp only [buildV, HMA.out, hix.out, h0, if_true]; rfl
      · simp only [buildV, HMA.out, hix.out, h0, if_true]
    have h1 : ix < 0 := by omega
    have H0 := Lib.hid h0
    clear h0
    have q4 : w5.cell? ⟨w.heap.size, 4, none⟩ = some (.slice a4 cs.length c4) := by rw [cell_of_block hb5]; rfl
    have q5 : w5.cell? ⟨w.heap.size, 5, none⟩ = some (.slice a5 js.length c5) := by rw [cell_of_block hb5]; rfl
    go_wp2_with fail
    clear q4 q5 h1
    refine (bound_new w5 a4 a5 c4 c5 cs js (r4.ext E5 (fun _ _ _ => not_no _)) (r5.ext E5 (fun _ _ _ => not_no _)) (by omega) (by omega)).mono ?_
    rintro e w6 ⟨hB6, hbn⟩
    have e6 : Ext no w5 w6 := Below.toExt hB6 no
    have E6 := E5.trans e6
    have hb6 := e6.heap hb5 (not_no _)
    have hT6 := hT5.keep e6
    have hM6 := hM5.keep e6
    have hv6 := e6.heap hv5 (not_no _)
    have BB6 := BB5.trans (hB6.mono BB5.size)
    cases hbo : boundNew cs js with
    | none =>
      rw [hbo] at hbn
      have HBO := Lib.hid hbo
      clear hbo
      obtain rfl := hbn
      go_wp2
      refine bodyPost_ret (v := .tuple #[.pointer none, .int .i64 0, .int .i64 0, .int .i64 1]) (by simp [results, Tryz.results38, go_sem]) rfl ?_
      refine ⟨BB6, none, ?_, ?_⟩
      · simp only [buildV, HMA.out, hix.out, if_neg (show ¬ 0 ≤ ix by have := H0.out; omega), HBO.out]; rfl
      · simp only [buildV, HMA.out, hix.out, if_neg (show ¬ 0 ≤ ix by have := H0.out; omega), HBO.out]
    | some K =>
    rw [hbo] at hbn
    have HBO := Lib.hid hbo
    clear hbo
    obtain ⟨bt, rfl, hbt, hbB⟩ := hbn
    replace hbB : w.heap.size ≤ bt := Nat.le_trans BB5.size hbB
    clear hb5 hT5 hM5 hv5 BB5 e6 E5 hB6
    go_wp2_with fail
    refine wp_region_ser [(0, false, []), (2, false, []), (3, false, []), (4, false, []), (1, true, [2, 3, 4]), (5, false, []), (6, false, []), (7, true, []), (8, false, []), (9, false, []), (10, false, []), (11, false, [])] (by kernel_rfl) (by kernel_rfl) ?_
    have eu : Ext no w6 w6.drew := (Ext.refl no w6).drew
    have E7 := E6.trans eu
    have hb7 := eu.heap hb6 (not_no _)
    have hT7 := hT6.keep eu
    have hM7 := hM6.keep eu
    have hv7 := eu.heap hv6 (not_no _)
    have hbt7 := hbt.ext eu (not_no _)
    have BB7 : Below w.heap.size w w6.drew := BB6.drew
    generalize w6.drew = w7 at *
    clear hb6 hT6 hM6 hv6 hbt BB6 eu E6
    have q0 : w7.cell? ⟨w.heap.size, 0, none⟩ = some (.bool rk) := by rw [cell_of_block hb7]; rfl
    have q1 : w7.cell? ⟨w.heap.size, 1, none⟩ = some (.slice a1 ms.length c1) := by rw [cell_of_block hb7]; rfl
    have q2 : w7.cell? ⟨w.heap.size, 2, none⟩ = some (.slice a2 ts.length c2) := by rw [cell_of_block hb7]; rfl
    have q3 : w7.cell? ⟨w.heap.size, 3, none⟩ = some (.slice a3 ss.length c3) := by rw [cell_of_block hb7]; rfl
    have q4 : w7.cell? ⟨w.heap.size, 4, none⟩ = some (.slice a4 cs.length c4) := by rw [cell_of_block hb7]; rfl
    have q5 : w7.cell? ⟨w.heap.size, 5, none⟩ = some (.slice a5 js.length c5) := by rw [cell_of_block hb7]; rfl
    have q6 : w7.cell? ⟨vt, 0, none⟩ = some (.pointer (some ⟨t, 0, none⟩)) := by rw [cell_of_block hv7]; rfl
    repeat (first | (refine ser_next (by rfl) (by rfl) (by rfl) (fun K hK => ?_); (first | go_big_move | go_big_op); refine hK _ ?_; clear hK K) | (refine ser_off (by rfl) (by rfl) ?_; simp only [Act.put, List.setIfInBounds_toArray, List.set_cons_zero, List.set_cons_succ]))
    clear q0 q1 q2 q3 q4 q5 q6
    refine ser_eff (by rfl) (by rfl) (fun K hK => ?_)
    go_big_op
    refine (vocab_copied w7 ⟨rk, ms, ts, ss, cs, js⟩ ⟨a1, c1, a2, c2, a3, c3, a4, c4, a5, c5⟩ (HP.out.ext E7) hs).mono ?_
    rintro e w8 ⟨p', rfl, e8, hS8⟩
    have E8 := E7.trans e8
    have hT8 := hT7.keep e8
    have hM8 := hM7.keep e8
    have hbt8 := hbt7.ext e8 (not_no _)
    have hv8 := e8.heap hv7 (not_no _)
    have BB8 := BB7.trans (e8.below BB7.size (fun _ h => absurd h (not_no _)))
    have hS8' : SpecOwn w.heap.size w8 ⟨rk, ms, ts, ss, cs, js⟩ p' := ⟨ownsRow_lower hS8.r1 BB7.size, ownsRow_lower hS8.r2 BB7.size, ownsRow_lower hS8.r3 BB7.size, ownsRow_lower hS8.r4 BB7.size, ownsRow_lower hS8.r5 BB7.size⟩
    have q6 : w8.cell? ⟨vt, 0, none⟩ = some (.pointer (some ⟨t, 0, none⟩)) := by rw [cell_of_block hv8]; rfl
    obtain ⟨d1, g1, d2, g2, d3, g3, d4, g4, d5, g5⟩ := p'
    simp only [SpecP.cells]
    clear hT7 hM7 hbt7 hv7 BB7 e8 E7 hS8 hb7
    refine hK _ _ ?_ ?_
    · repeat (first | exact ag_nil | (refine ag_cons (by rfl) (by rfl) (by rfl) (by rfl) (by rfl) (fun K hK => ?_) ?_; · ((first | go_big_move | go_big_op); exact hK)) | (refine ag_off (by rfl) (by rfl) (by rfl) (by rfl) ?_))
    clear hK K
    clear q6
    repeat (first | (refine ser_next (by rfl) (by rfl) (by rfl) (fun K hK => ?_); (first | go_big_move | go_big_op); refine hK _ ?_; clear hK K) | (refine ser_off (by rfl) (by rfl) ?_; simp only [Act.put, List.setIfInBounds_toArray, List.set_cons_zero, List.set_cons_succ]))
    refine ser_eff (by rfl) (by rfl) (fun K hK => ?_)
    go_big_op
    have e9 : Ext no w8 (w8.alloc (.cells (vocCells ⟨d1, g1, d2, g2, d3, g3, d4, g4, d5, g5⟩ ⟨rk, ms, ts, ss, cs, js⟩ t bt m [.int .u32 0, .int .i32 0, .int .u32 0, .slice none 0 0, .int .i64 0]).toArray 116)) := (Ext.refl _ _).alloc _
    have hv9 := block_new w8 (.cells (vocCells ⟨d1, g1, d2, g2, d3, g3, d4, g4, d5, g5⟩ ⟨rk, ms, ts, ss, cs, js⟩ t bt m [.int .u32 0, .int .i32 0, .int .u32 0, .slice none 0 0, .int .i64 0]).toArray 116)
    refine hK _ _ ag_nil ?_
    clear hK K
    repeat (first | (refine ser_next (by rfl) (by rfl) (by rfl) (fun K hK => ?_); (first | go_big_move | go_big_op); refine hK _ ?_; clear hK K) | (refine ser_off (by rfl) (by rfl) ?_; simp only [Act.put, List.setIfInBounds_toArray, List.set_cons_zero, List.set_cons_succ]))
    refine ser_nil ?_
    have hA : buildV (some T, rn, 0) ⟨rk, ms, ts, ss, cs, js⟩ = (some ⟨⟨rk, ms, ts, ss, cs, js⟩, T, K, M⟩, 0, 0, 0) := by
      simp only [buildV, HMA.out, hix.out, if_neg (show ¬ 0 ≤ ix by have := H0.out; omega), HBO.out]
    have HA := Lib.hid hA
    clear hA
    go_wp2
    refine bodyPost_ret (v := .tuple #[.pointer (some ⟨w8.heap.size, 0, none⟩), .int .i64 0, .int .i64 0, .int .i64 0]) (by simp [results, Tryz.results38, go_sem]) rfl ?_
    refine ⟨BB8.trans (e9.below BB8.size (fun _ h => absurd h (not_no _))), some w8.heap.size, ?_, ?_⟩
    · rw [HA.out]; rfl
    · rw [HA.out]
      exact ⟨⟨d1, g1, d2, g2, d3, g3, d4, g4, d5, g5⟩, t, bt, m, hv9, hS8'.keep e9, hT8.keep e9, hTS, hbt8.ext e9 (not_no _), hM8.keep e9, hbB, BB8.size⟩
def newV (r : Option Tab × Nat × Int) (S : SpecD) : Option VocD × Int × Int :=
  if S.right then ((buildV r S).1, (buildV r S).2.2.1, (buildV r S).2.2.2) else (none, 0, 1)
def NewPost (w : World) (r : Option VocD × Int × Int) (e : Ending) (w' : World) : Prop :=
  Below w.heap.size w w' ∧ ∃ o, e = .returned (.tuple #[ptrV o, .int .i64 r.2.1, .int .i64 r.2.2]) ∧
    match r.1, o with
    | some V, some v => ∃ p t b m, VocIn w.heap.size w' v V p t b m [.int .u32 0, .int .i32 0, .int .u32 0, .slice none 0 0, .int .i64 0]
    | none, none => True
    | _, _ => False
theorem VocIn.low {B B' : Nat} {w : World} {v : Nat} {V : VocD} {p : SpecP} {t b m : Nat} {rest : List Value} (h : VocIn B w v V p t b m rest) (hB : B' ≤ B) : VocIn B' w v V p t b m rest :=
  ⟨h.hv, ⟨ownsRow_lower h.hs.r1 hB, ownsRow_lower h.hs.r2 hB, ownsRow_lower h.hs.r3 hB, ownsRow_lower h.hs.r4 hB, ownsRow_lower h.hs.r5 hB⟩, h.ht.low hB, h.hT, h.hb, h.hm.low hB, Nat.le_trans hB h.bB, Nat.le_trans hB h.vB⟩
theorem right_small {S : SpecD} (h : S.right = true) : S.Small := by
  unfold SpecD.right at h
  split at h
  · cases h
  · simp only [Bool.and_eq_true, allB, decide_eq_true_eq] at h
    obtain ⟨⟨h1, _⟩, ⟨h2, _⟩, ⟨h3, _⟩, ⟨h4, _⟩, h5, _⟩ := h
    exact ⟨by omega, by omega, by omega, by omega, by omega⟩
theorem vocab_new (w : World) (S : SpecD) (p : SpecP) (h : SpecIn w S p) (hk : S.Ok) (r : Option Tab × Nat × Int) (hr : Err r)
    (hL : S.right = true → ∀ w1, Ext no w w1 → Calls Tryz.prog 67 #[.agg (p.cells S)] w1 (MadeTab w1 r)) :
    Calls Tryz.prog 16 #[.agg (p.cells S)] w (NewPost w (newV r S)) := by
  have hs3 := hk.s3
  obtain ⟨rk, ms, ts, ss, cs, js⟩ := S
  obtain ⟨a1, c1, a2, c2, a3, c3, a4, c4, a5, c5⟩ := p
  show Calls _ _ #[.agg #[.bool rk, .slice a1 ms.length c1, .slice a2 ts.length c2, .slice a3 ss.length c3, .slice a4 cs.length c4, .slice a5 js.length c5]] _ _
  have e1 : Ext no w (w.alloc (.cells #[.bool rk, .slice a1 ms.length c1, .slice a2 ts.length c2, .slice a3 ss.length c3, .slice a4 cs.length c4, .slice a5 js.length c5] 33)) := (Ext.refl _ _).alloc _
  have hb1 := block_new w (.cells #[.bool rk, .slice a1 ms.length c1, .slice a2 ts.length c2, .slice a3 ss.length c3, .slice a4 cs.length c4, .slice a5 js.length c5] 33)
  have HL := Lib.hid hL
  have HP := Lib.hid h
  clear hL h
  go_enter Tryz.func16, Tryz.ntmps16
  go_wp2_with fail
  generalize w.alloc (.cells #[.bool rk, .slice a1 ms.length c1, .slice a2 ts.length c2, .slice a3 ss.length c3, .slice a4 cs.length c4, .slice a5 js.length c5] 33) = w1 at *
  refine (spec_right w1 ⟨rk, ms, ts, ss, cs, js⟩ ⟨a1, c1, a2, c2, a3, c3, a4, c4, a5, c5⟩ (HP.out.ext e1) hk).mono ?_
  rintro e w2 ⟨rfl, e2⟩
  have E2 := e1.trans e2
  have hb2 := e2.heap hb1 (not_no _)
  have BB2 : Below w.heap.size w w2 := E2.toBelow
  cases hR : SpecD.right ⟨rk, ms, ts, ss, cs, js⟩ with
  | false =>
    have HR := Lib.hid hR
    clear hR
    go_wp2
    go_ret3
    refine ⟨BB2, none, ?_, ?_⟩
    · rw [newV, HR.out]; rfl
    · rw [newV, HR.out]; trivial
  | true =>
    have HR := Lib.hid hR
    clear hR
    have q0 : w2.cell? ⟨w.heap.size, 0, none⟩ = some (.bool rk) := by rw [cell_of_block hb2]; rfl
    have q1 : w2.cell? ⟨w.heap.size, 1, none⟩ = some (.slice a1 ms.length c1) := by rw [cell_of_block hb2]; rfl
    have q2 : w2.cell? ⟨w.heap.size, 2, none⟩ = some (.slice a2 ts.length c2) := by rw [cell_of_block hb2]; rfl
    have q3 : w2.cell? ⟨w.heap.size, 3, none⟩ = some (.slice a3 ss.length c3) := by rw [cell_of_block hb2]; rfl
    have q4 : w2.cell? ⟨w.heap.size, 4, none⟩ = some (.slice a4 cs.length c4) := by rw [cell_of_block hb2]; rfl
    have q5 : w2.cell? ⟨w.heap.size, 5, none⟩ = some (.slice a5 js.length c5) := by rw [cell_of_block hb2]; rfl
    go_wp2_with fail
    clear q0 q1 q2 q3 q4 q5
    refine (vocab_build w2 ⟨rk, ms, ts, ss, cs, js⟩ ⟨a1, c1, a2, c2, a3, c3, a4, c4, a5, c5⟩ (HP.out.ext E2) (right_small HR.out) hs3 r hr (fun w3 e3 => HL.out HR.out w3 (E2.trans e3))).mono ?_
    rintro e w3 ⟨hB3, o, rfl, hV⟩
    have BB3 := BB2.trans (hB3.mono BB2.size)
    go_wp2
    go_ret3
    have hn : newV r ⟨rk, ms, ts, ss, cs, js⟩ = ((buildV r ⟨rk, ms, ts, ss, cs, js⟩).1, (buildV r ⟨rk, ms, ts, ss, cs, js⟩).2.2.1, (buildV r ⟨rk, ms, ts, ss, cs, js⟩).2.2.2) := by rw [newV, HR.out]; rfl
    refine ⟨BB3, o, ?_, ?_⟩
    · rw [hn]; rfl
    · rw [hn]
      revert hV
      simp only
      cases (buildV r ⟨rk, ms, ts, ss, cs, js⟩).1 with
      | none => cases o with
        | none => exact fun h => h
        | some t => exact fun h => h
      | some T => cases o with
        | none => exact fun h => h
        | some v =>
          rintro ⟨p, t, b, m, h⟩
          exact ⟨p, t, b, m, h.low BB2.size⟩
end Go.Proofs.YtiiaklaojlnokaaGreatDoor.B
