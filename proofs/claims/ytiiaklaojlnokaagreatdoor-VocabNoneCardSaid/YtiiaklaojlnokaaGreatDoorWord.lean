/- Package word (seat ZD): contracts, over the shelf's. -/
import Derived.Test.YtiiaklaojlnokaaGreatDoorBuild
import Derived.Test.YtiiaklaojlnokaaGreatDoorShelf
set_option linter.unusedVariables false
set_option linter.unusedSimpArgs false
namespace Go.Proofs.YtiiaklaojlnokaaGreatDoor.B
open Go Go.RowKit
set_option maxRecDepth 100000
set_option maxHeartbeats 1000000

/-- What of the library's variables is read. -/
structure Std (w : World) : Prop where
  c0 : ∃ m, w.cell? ⟨0, 0, none⟩ = some (.int .i64 m)
  tab : Lib.TabIs Tryz.prog w "internal/strconv.uint64pow10" .u64 Lib.pow10Tab
  es : ∃ tp p, w.var? Tryz.prog "strconv.ErrSyntax" = some #[.iface tp p]
  er : ∃ tp p, w.var? Tryz.prog "strconv.ErrRange" = some #[.iface tp p]
theorem var_ext {P : Program} {w w' : World} {n : String} {cs : Array Value} (h : w.var? P n = some cs) (e : Ext no w w') : w'.var? P n = some cs := by
  unfold World.var? at h ⊢
  cases hg : P.globalNamed n with
  | none => rw [hg] at h; cases h
  | some g =>
    rw [hg] at h
    simp only [Option.bind_some] at h ⊢
    cases ho : w.heap[g]? with
    | none => rw [ho] at h; cases h
    | some o => rw [ho] at h; rw [e.heap ho (not_no _)]; exact h
theorem Std.ext {w w' : World} (h : Std w) (e : Ext no w w') : Std w' := by
  obtain ⟨⟨m, c0⟩, tab, ⟨t1, p1, es⟩, t2, p2, er⟩ := h
  exact ⟨⟨m, e.cell c0 (not_no _)⟩, var_ext tab e, ⟨t1, p1, var_ext es e⟩, t2, p2, var_ext er e⟩
theorem ext_grow (w : World) (os : Array Obj) : Ext no w («Sort».grow w os) :=
  ⟨rfl, rfl, rfl, by simp [«Sort».grow], fun k hk _ => by simp [«Sort».grow, Array.getElem?_append_left hk]⟩
theorem freeze_ext (u : World) (a : Addr) (n : Nat) : Ext (at1 a.block) u (u.freeze a n) := by
  unfold World.freeze
  split
  · exact Ext.refl _ _
  · refine ⟨rfl, rfl, rfl, by simp, fun k hk hne => ?_⟩
    rw [Array.getElem?_modify]
    have : a.block ≠ k := fun h => hne h.symm
    simp [this]
theorem ext_bytesWorld (w : World) (t : TypeId) (s : ByteArray) : Ext no w (Lib.bytesWorld w t s) := by
  have h1 : Ext no w (w.drew.alloc (.cells (Lib.bytesCells w t s) t)) := ((Ext.refl no w).drew).alloc _
  exact h1.then (freeze_ext _ _ _) (fun i hi h => absurd (show i = w.heap.size from h) (by omega))

/-! ### numbers -/
theorem word_number (w : World) (hS : Std w) (n : Int) (h0 : -9223372036854775808 ≤ n) (h1 : n ≤ 9223372036854775807) : Calls Tryz.prog 206 #[.int .i64 n] w fun e w' => e = .returned (.string ⟨(Lib.itoa n).toArray⟩) ∧ Ext no w w' := by
  go_enter Tryz.func206, Tryz.ntmps206
  go_wp2_with fail
  refine (Tryz.strconv_Itoa n h0 h1 w hS.tab).mono ?_
  rintro e w' ⟨rfl, k, os, rfl⟩
  have e1 : Ext no w («Sort».grow (w.drewN k) os) := ((Ext.refl no w).drewN k).trans (ext_grow _ _)
  go_wp2
  go_ret
  exact ⟨rfl, e1⟩
/-- What Atoi comes to. -/
theorem atoi_any (w : World) (hS : Std w) (s : ByteArray) (hs : s.size ≤ 281474976710656) : Calls Tryz.prog 205 #[.string s] w fun e w' =>
    (∃ v, Lib.atoiAll s.data.toList = .ok v ∧ e = .returned (.tuple #[.int .i64 v, .nilIface]) ∧ Ext no w w') ∨
    ((∀ v, Lib.atoiAll s.data.toList ≠ .ok v) ∧ ∃ v N, e = .returned (.tuple #[.int .i64 v, .iface 303 (.pointer (some ⟨N, 0, none⟩))]) ∧ Ext no w w') := by
  obtain ⟨t1, p1, es⟩ := hS.es
  obtain ⟨t2, p2, er⟩ := hS.er
  cases h : Lib.atoiAll s.data.toList with
  | ok v =>
    refine (Tryz.strconv_Atoi_ok s (by omega) v h w).mono ?_
    rintro e w' ⟨rfl, hw⟩
    refine .inl ⟨v, rfl, rfl, ?_⟩
    rcases hw with rfl | ⟨t, rfl⟩
    · exact Ext.refl _ _
    · exact ext_bytesWorld _ _ _
  | range =>
    refine (Tryz.strconv_Atoi_range_var s hs h t2 p2 w er).mono ?_
    rintro e w' ⟨N, rfl, _, _, hb⟩
    exact .inr ⟨fun v hv => (by cases hv), _, N, rfl, Below.toExt hb no⟩
  | _ =>
    refine (Any.strconv_Atoi_syntax_var Tryz.laysC172 s hs h t1 p1 w es).mono ?_
    rintro e w' ⟨N, rfl, _, _, hb⟩
    exact .inr ⟨fun v hv => (by cases hv), _, N, rfl, Below.toExt hb no⟩
def wordParse (s : ByteArray) (most : Int) : Int × Bool :=
  match Lib.atoiAll s.data.toList with
  | .ok v => if 0 ≤ v ∧ v ≤ most ∧ (⟨(Lib.itoa v).toArray⟩ : ByteArray) = s then (v, true) else (0, false)
  | _ => (0, false)
theorem word_parse (w : World) (hS : Std w) (s : ByteArray) (hs : s.size ≤ 281474976710656) (most : Int) (hm : most ≤ 9223372036854775807) : Calls Tryz.prog 182 #[.string s, .int .i64 most] w fun e w' =>
    e = .returned (.tuple #[.int .i64 (wordParse s most).1, .bool (wordParse s most).2]) ∧ Ext no w w' := by
  have HS := Lib.hid hS
  go_enter Tryz.func182, Tryz.ntmps182
  go_wp2_with fail
  refine (atoi_any w hS s hs).mono ?_
  rintro e w1 (⟨v, hv, rfl, e1⟩ | ⟨hv, v, N, rfl, e1⟩)
  · have HV := Lib.hid hv
    clear hv
    by_cases h0 : 0 ≤ v
    · by_cases h1 : v ≤ most
      · go_wp2_with fail
        refine (word_number w1 (HS.out.ext e1) v (by omega) (by omega)).mono ?_
        rintro e w2 ⟨rfl, e2⟩
        have E2 := e1.trans e2
        obtain ⟨tb, htb⟩ : ∃ tb : ByteArray, (⟨(Lib.itoa v).toArray⟩ : ByteArray) = tb := ⟨_, rfl⟩
        rw [htb]
        by_cases hq : tb = s
        · have hr := Lib.hid (show wordParse s most = (v, true) by simp only [wordParse, HV.out]; rw [if_pos ⟨h0, h1, htb.trans hq⟩])
          clear htb
          subst hq
          go_wp2
          go_ret2
          exact ⟨by rw [hr.out]; rfl, E2⟩
        · have hr := Lib.hid (show wordParse s most = (0, false) by simp only [wordParse, HV.out]; rw [if_neg (fun h => hq (htb.symm.trans h.2.2))])
          clear htb
          have hl : (tb.toList == s.toList) = false := by
            rw [beq_eq_false_iff_ne, ByteArray.toList_eq, ByteArray.toList_eq]
            intro h
            apply hq
            cases tb; cases s; simp only at h; congr 1; exact Array.toList_inj.1 h
          have hl2 : (tb.toList != s.toList) = true := by simp [bne, hl]
          clear hq
          go_wp2
          go_ret2
          exact ⟨by rw [hr.out]; rfl, E2⟩
      · have h1' : most < v := by omega
        have hr := Lib.hid (show wordParse s most = (0, false) by simp only [wordParse, HV.out]; rw [if_neg (fun h => h1 h.2.1)])
        go_wp2
        go_ret2
        exact ⟨by rw [hr.out]; rfl, e1⟩
    · have h0' : v < 0 := by omega
      have hr := Lib.hid (show wordParse s most = (0, false) by simp only [wordParse, HV.out]; rw [if_neg (fun h => h0 h.1)])
      go_wp2
      go_ret2
      exact ⟨by rw [hr.out]; rfl, e1⟩
  · have hr := Lib.hid (show wordParse s most = (0, false) by
      unfold wordParse
      split
      · rename_i v' hv'; exact absurd hv' (hv v')
      · rfl)
    clear hv
    go_wp2
    go_ret2
    exact ⟨by rw [hr.out]; rfl, e1⟩
/-! ### words, lines -/
def blank : ByteArray := ⟨#[32]⟩
def wordCut (s : ByteArray) : List ByteArray := Lib.splitB blank 0 (Lib.countB s blank) s
theorem wordCut_len (s : ByteArray) : (wordCut s).length = Lib.countB s blank + 1 := by
  exact Lib.splitB_all blank (by decide) 0 _ s rfl
theorem word_cut (w : World) (hS : Std w) (s : ByteArray) (hs : s.size < 4294967281) : Calls Tryz.prog 110 #[.string s] w fun e w' =>
    e = .returned (.slice (some ⟨w.heap.size, 0, none⟩) (wordCut s).length (wordCut s).length) ∧ w' = w.alloc (.cells ((wordCut s).map Value.string).toArray 9) := by
  obtain ⟨m, hm⟩ := hS.c0
  rw [wordCut_len]
  go_enter Tryz.func110, Tryz.ntmps110
  go_wp2_with fail
  refine (Tryz.strings_Split s blank m w hs hm (by decide)).mono ?_
  rintro e w' ⟨rfl, rfl⟩
  go_wp2
  go_ret
  exact ⟨rfl, rfl⟩
def linesB : Nat → ByteArray → List ByteArray → List ByteArray × Bool
  | 0, _, acc => (acc, false)
  | n + 1, s, acc => if (Lib.cut s.data.toList [10]).2.2 then linesB n ⟨(Lib.cut s.data.toList [10]).2.1.toArray⟩ (acc ++ [⟨(Lib.cut s.data.toList [10]).1.toArray⟩]) else (acc, (Lib.cut s.data.toList [10]).1.isEmpty)
def LinesAt (w : World) (r : List ByteArray × Bool) (x v : Value) (wr : World) : Prop :=
  ∃ (n : Nat) (s : ByteArray) (acc : List ByteArray), x = .string s ∧ s.size < n ∧ s.size + acc.length < 4294967281 ∧ linesB n s acc = r ∧ wr.ownsRow w.heap.size 9 1 v acc.length (acc.flatMap textC) ∧ Below w.heap.size w wr
def sizeOfS : Value → Nat
  | .string s => s.size
  | _ => 0
theorem cut_lt {s l r : List UInt8} (h : Lib.cut s [10] = (l, r, true)) : r.length < s.length := by
  unfold Lib.cut at h
  by_cases h0 : 0 ≤ Lib.index s [10]
  · rw [if_pos h0] at h
    simp only [Prod.mk.injEq, and_true] at h
    obtain ⟨_, rfl⟩ := h
    cases s with
    | nil => exact absurd h0 (by decide)
    | cons b s => simp only [List.length_drop, List.length_cons, List.length_nil]; omega
  · rw [if_neg h0] at h
    simp at h
theorem cut_no {s l r : List UInt8} (h : Lib.cut s [10] = (l, r, false)) : l = s := by
  unfold Lib.cut at h
  split at h
  · simp at h
  · simp only [Prod.mk.injEq, and_true] at h; exact h.1.symm
theorem word_lines (w : World) (hS : Std w) (s : ByteArray) (hs : s.size < 4294967281) : Calls Tryz.prog 65 #[.string s] w fun e w' =>
    ∃ v, e = .returned (.tuple #[v, .bool (linesB (s.size + 1) s []).2]) ∧ w'.ownsRow w.heap.size 9 1 v (linesB (s.size + 1) s []).1.length ((linesB (s.size + 1) s []).1.flatMap textC) ∧ Below w.heap.size w w' := by
  obtain ⟨r, hr⟩ : ∃ r, linesB (s.size + 1) s [] = r := ⟨_, rfl⟩
  rw [hr]
  have HS := Lib.hid hS
  go_enter Tryz.func65, Tryz.ntmps65
  go_wp2_with fail
  go_loopw [0, 4] (fun x v wr => LinesAt w r x v wr) (fun x _ _ => sizeOfS x)
  case atStart => exact ⟨s.size + 1, s, [], rfl, by omega, by simpa using hs, hr, own_nil _ _ _ _, Below.refl _ _⟩
  case round =>
    obtain ⟨n, s', acc, rfl, hn, hb, hl, ho, hB⟩ := hrel
    obtain ⟨m, hm⟩ := (HS.out.ext (Below.toExt hB no)).c0
    obtain ⟨Av, cv, hv, _⟩ := own_at ho
    subst hv
    have HO := Lib.hid ho
    clear ho
    go_wp2_with fail
    refine (Tryz.strings_Cut s' ⟨#[10]⟩ m wr (by omega) hm).mono ?_
    rintro e w2 ⟨rfl, nq, rfl⟩
    clear hm
    have ho2 := own_ext HO.out ((Ext.refl no wr).drewN nq) (fun _ _ => not_no _)
    have hB2 : Below w.heap.size w (wr.drewN nq) := hB.trans (((Ext.refl no wr).drewN nq).below hB.size (fun _ h => absurd h (not_no _)))
    generalize wr.drewN nq = w3 at *
    cases hc : Lib.cut s'.data.toList [10] with
    | mk line q =>
    obtain ⟨rest, ok⟩ := q
    simp only
    obtain ⟨n, rfl⟩ : ∃ n', n = n' + 1 := ⟨n - 1, by omega⟩
    have hl2 : linesB (n + 1) s' acc = if ok then linesB n ⟨rest.toArray⟩ (acc ++ [⟨line.toArray⟩]) else (acc, line.isEmpty) := by
      simp only [linesB, hc]
    cases ok with
    | true =>
      have hlt : rest.length < s'.size := cut_lt hc
      simp only [if_true] at hl2
      have HL := Lib.hid (hl2.symm.trans hl)
      clear hc hl hl2 HO
      go_wp2_with (at_builtin; refine wpList_append1 rfl _ _ _ rfl w.heap.size 9 Tryz.underlying28 i_text rfl (by decide) (.slice Av acc.length cv) acc.length (acc.flatMap textC) rfl ho2 #[.string ⟨line.toArray⟩] rfl rfl (by simp [Value.oneCell']) (by unfold maxLen; omega) (by omega) hB2.size ?_; intro g cap w4 hown e4 hwh hlt4)
      go_roundw
      case measure => exact (show rest.toArray.size < s'.size by simpa using hlt)
      case rel =>
        refine ⟨n, ⟨rest.toArray⟩, acc ++ [⟨line.toArray⟩], rfl, ?_, ?_, HL.out, ?_, ?_⟩
        · show rest.toArray.size < n; simp; omega
        · show rest.toArray.size + (acc ++ [_]).length < 4294967281; simp; omega
        · rw [List.length_append, List.length_singleton, List.flatMap_append]; exact hown
        · exact hB2.trans (e4.below hB2.size (fun k hk => (own_row ho2 hk).2))
    | false =>
      have hl3 := cut_no hc
      simp only [Bool.false_eq_true, if_false] at hl2
      have HL := Lib.hid (hl2.symm.trans hl)
      clear hc hl hl2 HO
      go_wp2
      go_ret2
      refine ⟨.slice Av acc.length cv, ?_, ?_, hB2⟩
      · rw [← HL.out, hl3]
        show Ending.returned (.tuple #[.slice Av acc.length cv, .bool s'.toList.isEmpty]) = _
        rw [ByteArray.toList_eq]
      · rw [← HL.out]; exact ho2
end Go.Proofs.YtiiaklaojlnokaaGreatDoor.B
