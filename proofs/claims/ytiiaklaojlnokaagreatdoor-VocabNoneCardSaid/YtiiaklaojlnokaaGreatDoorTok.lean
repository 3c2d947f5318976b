/- Package token: what a table is in memory (TabAt), and what its functions come to (contracts), for every table and every world. -/
import Derived.Test.YtiiaklaojlnokaaGreatDoorProg
import Derived.Test.YtiiaklaojlnokaaGreatDoorBase
import Derived.Test.YtiiaklaojlnokaaGreatDoorSer
import Derived.Deep.RegionHeld3
import Derived.Deep.AppendLies
import Derived.Maps.AppendAt
import Derived.Deep.DeepCutAuto
import Derived.Deep.QuietTactic
import Derived.BigQuiet
import Derived.KernelRfl
import Derived.WalkSpells
import Derived.WalkLawsBesides
set_option linter.unusedVariables false
set_option linter.unusedSimpArgs false
namespace Go.Proofs.YtiiaklaojlnokaaGreatDoor.B
open Go Go.RowKit

theorem i_entry : (Tryz.prog.info? 216).map (fun i => (i.zero, i.size, i.bytes)) = some (some (.agg #[.string ByteArray.empty, .int .i64 0, .int .i64 0]), 3, 32) := by kernel_rfl
theorem z_int (w : World) : (zeroValue 3).run Tryz.prog w = .ok (.int .i64 0) w := by kernel_rfl
theorem k_str : KeyLaw Tryz.prog 9 Value.string := keyString Tryz.underlying9
theorem k_pair : KeyLaw Tryz.prog 54 pairV := keyPair ⟨_, _, _, Tryz.underlying54, by decide, by decide, rfl, rfl, rfl, rfl, Tryz.underlying3, by kernel_rfl⟩

/-- An entry: its bytes, its parents. -/
structure Entry where
  b : ByteArray
  x : Int
  y : Int
def Entry.cells (e : Entry) : List Value := [.string e.b, .int .i64 e.x, .int .i64 e.y]
def flat (es : List Entry) : List Value := es.flatMap Entry.cells
theorem flat_length (es : List Entry) : (flat es).length = es.length * 3 := by
  induction es with
  | nil => rfl
  | cons e es ih =>
    have : flat (e :: es) = e.cells ++ flat es := rfl
    rw [this, List.length_append, ih]; simp [Entry.cells]; omega
theorem flat_append (a b : List Entry) : flat (a ++ b) = flat a ++ flat b := by simp [flat]
theorem flat_at (es : List Entry) (i : Nat) (e : Entry) (h : es[i]? = some e) (k : Nat) (hk : k < 3) : (flat es)[i * 3 + k]? = e.cells[k]? := by
  induction es generalizing i with
  | nil => simp at h
  | cons x es ih =>
    have hf : flat (x :: es) = x.cells ++ flat es := rfl
    have hl : x.cells.length = 3 := rfl
    cases i with
    | zero =>
      simp only [List.getElem?_cons_zero, Option.some.injEq] at h
      subst h
      rw [hf, List.getElem?_append_left (by omega)]; simp
    | succ i =>
      rw [hf, List.getElem?_append_right (by omega), hl, show (i + 1) * 3 + k - 3 = i * 3 + k by omega]
      exact ih i (by simpa using h)

/-- A table, as plain data. -/
structure Tab where
  es : List Entry
  bm : List (ByteArray × Nat)
  pm : List ((Int × Int) × Nat)
  longest : Nat

def natV (n : Nat) : Value := .int .i64 (n : Int)

/-- A table in memory: all its blocks from B on. -/
structure TabIn (B : Nat) (w : World) (t : Nat) (T : Tab) (v : Value) (bm pm : Nat) : Prop where
  ht : w.heap[t]? = some (.cells #[v, .map (some bm), .map (some pm), .int .i64 (T.longest : Int)] 192 (0, 0))
  hl : w.ownsRow B 216 3 v T.es.length (flat T.es)
  hb : MapAt w bm Value.string natV T.bm
  hp : MapAt w pm pairV natV T.pm
  hne : bm ≠ pm
  tB : B ≤ t
  bB : B ≤ bm
  pB : B ≤ pm
def TabAt (B : Nat) (w : World) (t : Nat) (T : Tab) : Prop := ∃ v bm pm, TabIn B w t T v bm pm
theorem TabIn.ext {B : Nat} {S : Nat → Prop} {w w' : World} {t : Nat} {T : Tab} {v : Value} {bm pm : Nat} (h : TabIn B w t T v bm pm) (e : Ext S w w')
    (hS : ∀ k, S k → k < w.heap.size → ∃ c ty fr, w.heap[k]? = some (.cells c ty fr) ∧ ty ≠ 192 ∧ ty ≠ 216) : TabIn B w' t T v bm pm := by
  have off : ∀ b o, w.heap[b]? = some o → (∀ c ty fr, o = .cells c ty fr → ty = 192 ∨ ty = 216) → ¬ S b := by
    intro b o ho hc hs
    obtain ⟨c, ty, fr, h1, h2, h3⟩ := hS b hs (lt_of_block ho)
    rw [ho] at h1; cases h1
    rcases hc c ty fr rfl with rfl | rfl
    · exact h2 rfl
    · exact h3 rfl
  have h2 : w'.ownsRow B 216 3 v T.es.length (flat T.es) := by
    refine ⟨h.hl.1, ?_⟩
    rcases h.hl.2 with h2 | ⟨g, cap, cur, hv, hg, hh, r⟩
    · exact .inl h2
    · exact .inr ⟨g, cap, cur, hv, hg, e.heap hh (off g _ hh (fun c ty fr hc => by cases hc; exact .inr rfl)), r⟩
  obtain ⟨es, c, hbm, _⟩ := id h.hb
  obtain ⟨es', c', hpm, _⟩ := id h.hp
  exact ⟨e.heap h.ht (off t _ h.ht (fun c ty fr hc => by cases hc; exact .inl rfl)), h2, h.hb.ext e (off bm _ hbm (fun c ty fr hc => by cases hc)), h.hp.ext e (off pm _ hpm (fun c ty fr hc => by cases hc)), h.hne, h.tB, h.bB, h.pB⟩
theorem TabAt.ext {B : Nat} {S : Nat → Prop} {w w' : World} {t : Nat} {T : Tab} (h : TabAt B w t T) (e : Ext S w w')
    (hS : ∀ k, S k → k < w.heap.size → ∃ c ty fr, w.heap[k]? = some (.cells c ty fr) ∧ ty ≠ 192 ∧ ty ≠ 216) : TabAt B w' t T := by
  obtain ⟨v, bm, pm, h⟩ := h
  exact ⟨v, bm, pm, h.ext e hS⟩
theorem TabAt.keep {B : Nat} {w w' : World} {t : Nat} {T : Tab} (h : TabAt B w t T) (e : Ext no w w') : TabAt B w' t T := h.ext e (fun _ hs => absurd hs (not_no _))
theorem TabAt.alloc {B : Nat} {w : World} {t : Nat} {T : Tab} (h : TabAt B w t T) (o : Obj) : TabAt B (w.alloc o) t T := h.keep ((Ext.refl _ _).alloc o)
theorem ownsRow_lower {w : World} {B : Nat} {e : TypeId} {size n : Nat} {v : Value} {xs : List Value} (h : w.ownsRow B e size v n xs) {B' : Nat} (hB : B' ≤ B) : w.ownsRow B' e size v n xs := by
  refine ⟨h.1, ?_⟩
  rcases h.2 with h2 | ⟨g, cap, cur, hv, hg, r⟩
  · exact .inl h2
  · exact .inr ⟨g, cap, cur, hv, by omega, r⟩
theorem TabAt.lower {B : Nat} {w : World} {t : Nat} {T : Tab} (h : TabAt B w t T) : TabAt 0 w t T := by
  obtain ⟨v, bm, pm, h⟩ := h
  exact ⟨v, bm, pm, h.ht, ownsRow_lower h.hl (Nat.zero_le _), h.hb, h.hp, h.hne, Nat.zero_le _, Nat.zero_le _, Nat.zero_le _⟩
/-- The value of the list is a slice. -/
theorem own_slice {w : World} {base n : Nat} {e : TypeId} {size : Nat} {v : Value} {xs : List Value} (h : w.ownsRow base e size v n xs) : ∃ A c, v = .slice A n c := by
  rcases h.2 with ⟨rfl, rfl⟩ | ⟨g, cap, cur, rfl, _⟩
  · exact ⟨none, 0, rfl⟩
  · exact ⟨_, cap, rfl⟩
theorem TabIn.slice {B : Nat} {w : World} {t : Nat} {T : Tab} {v : Value} {bm pm : Nat} (h : TabIn B w t T v bm pm) : ∃ A c, v = .slice A T.es.length c := own_slice h.hl
theorem TabIn.c0 {B : Nat} {w : World} {t : Nat} {T : Tab} {v : Value} {bm pm : Nat} (h : TabIn B w t T v bm pm) : w.cell? ⟨t, 0, none⟩ = some v := by rw [cell_of_block h.ht]; rfl
theorem TabIn.c1 {B : Nat} {w : World} {t : Nat} {T : Tab} {v : Value} {bm pm : Nat} (h : TabIn B w t T v bm pm) : w.cell? ⟨t, 1, none⟩ = some (.map (some bm)) := by rw [cell_of_block h.ht]; rfl
theorem TabIn.c2 {B : Nat} {w : World} {t : Nat} {T : Tab} {v : Value} {bm pm : Nat} (h : TabIn B w t T v bm pm) : w.cell? ⟨t, 2, none⟩ = some (.map (some pm)) := by rw [cell_of_block h.ht]; rfl
theorem TabIn.c3 {B : Nat} {w : World} {t : Nat} {T : Tab} {v : Value} {bm pm : Nat} (h : TabIn B w t T v bm pm) : w.cell? ⟨t, 3, none⟩ = some (.int .i64 (T.longest : Int)) := by rw [cell_of_block h.ht]; rfl
/-- An entry's cells. -/
theorem TabIn.entry {B : Nat} {w : World} {t : Nat} {T : Tab} {v : Value} {bm pm : Nat} (h : TabIn B w t T v bm pm) {i : Nat} {e : Entry} (hi : T.es[i]? = some e) :
    ∃ g c, v = .slice (some ⟨g, 0, none⟩) T.es.length c ∧ w.cell? ⟨g, i * 3, none⟩ = some (.string e.b) ∧ w.cell? ⟨g, i * 3 + 1, none⟩ = some (.int .i64 e.x) ∧ w.cell? ⟨g, i * 3 + 2, none⟩ = some (.int .i64 e.y) := by
  have hlt : i < T.es.length := (List.getElem?_eq_some_iff.1 hi).1
  obtain ⟨g, cap, rfl, _, _⟩ := h.hl.form (by omega)
  have hc := h.hl.cells (g := g) rfl
  have add : ∀ j, (⟨g, 0, none⟩ : Addr).add j = ⟨g, j, none⟩ := fun j => by unfold Addr.add; split <;> simp_all
  refine ⟨g, cap, rfl, ?_, ?_, ?_⟩
  · have := hc (i * 3 + 0) _ (flat_at T.es i e hi 0 (by omega)); rwa [add] at this
  · have := hc (i * 3 + 1) _ (flat_at T.es i e hi 1 (by omega)); rwa [add] at this
  · have := hc (i * 3 + 2) _ (flat_at T.es i e hi 2 (by omega)); rwa [add] at this

/-- The list's row, where it is not nil. -/
theorem TabIn.row {B : Nat} {w : World} {t : Nat} {T : Tab} {g c : Nat} {bm pm : Nat} (h : TabIn B w t T (.slice (some ⟨g, 0, none⟩) T.es.length c) bm pm) : ∃ cur, w.heap[g]? = some (.cells cur 216 (0, 0)) ∧ B ≤ g := by
  rcases h.hl.2 with ⟨h2, _⟩ | ⟨g', cap, cur, hv, hg, hh, r⟩
  · cases h2
  · cases hv; exact ⟨cur, hh, hg⟩
theorem ne_of_types {w : World} {a b : Nat} {c c' : Array Value} {e e' : TypeId} {fr fr' : Nat × Nat} (h : w.heap[a]? = some (.cells c e fr)) (h' : w.heap[b]? = some (.cells c' e' fr')) (hne : e ≠ e') : a ≠ b := by
  rintro rfl; rw [h] at h'; cases h'; exact hne rfl

theorem TabIn.notrow {B : Nat} {w : World} {t : Nat} {T : Tab} {v : Value} {bm pm : Nat} (h : TabIn B w t T v bm pm) : ¬ rowOf v t ∧ ¬ rowOf v bm ∧ ¬ rowOf v pm ∧ ∀ k, rowOf v k → B ≤ k := by
  rcases h.hl.2 with ⟨rfl, _⟩ | ⟨g', cap, cur, rfl, hg, hh, r⟩
  · refine ⟨?_, ?_, ?_, ?_⟩ <;> simp [rowOf, Value.ownBlock]
  · have n1 : t ≠ g' := ne_of_types h.ht hh (by decide)
    have n2 := h.hb.ne hh
    have n3 := h.hp.ne hh
    refine ⟨?_, ?_, ?_, ?_⟩ <;> simp only [rowOf, Value.ownBlock, Option.some.injEq]
    · exact fun e => n1 e.symm
    · exact fun e => n2 e.symm
    · exact fun e => n3 e.symm
    · rintro k rfl; exact hg

/-! ### contracts of what reads -/
set_option maxHeartbeats 400000
theorem tab_len {B : Nat} {w : World} {t : Nat} {T : Tab} (h : TabAt B w t T) : Calls Tryz.prog 63 #[.pointer (some ⟨t, 0, none⟩)] w fun e w' => e = .returned (.int .i64 T.es.length) ∧ w = w' := by
  obtain ⟨v, bm, pm, h⟩ := h
  obtain ⟨A, c, rfl⟩ := h.slice
  have c0 := h.c0
  go_enter Tryz.func63, Tryz.ntmps63
  go_wp2
  go_ret
  exact ⟨rfl, rfl⟩
theorem tab_len_nil (w : World) : Calls Tryz.prog 63 #[.pointer none] w fun e w' => e = .returned (.int .i64 0) ∧ w = w' := by
  go_enter Tryz.func63, Tryz.ntmps63
  go_wp2
  go_ret
  exact ⟨rfl, rfl⟩
def hasB (n : Nat) (id : Int) : Bool := decide (0 ≤ id ∧ id < n)
theorem tab_has {B : Nat} {w : World} {t : Nat} {T : Tab} (h : TabAt B w t T) (id : Int) : Calls Tryz.prog 134 #[.pointer (some ⟨t, 0, none⟩), .int .i64 id] w fun e w' => e = .returned (.bool (hasB T.es.length id)) ∧ w = w' := by
  by_cases h0 : 0 ≤ id
  · go_enter Tryz.func134, Tryz.ntmps134
    go_wp2_with (go_at_call 63; refine (tab_len h).mono ?_; rintro e w' ⟨rfl, rfl⟩)
    go_ret
    exact ⟨by simp [h0, hasB], rfl⟩
  · have h1 : id < 0 := by omega
    go_enter Tryz.func134, Tryz.ntmps134
    go_wp2_with (go_at_call 63; refine (tab_len h).mono ?_; rintro e w' ⟨rfl, rfl⟩)
    go_ret
    exact ⟨by simp [hasB]; omega, rfl⟩
theorem hasB_of {n : Nat} {id : Int} (h : hasB n id = true) : 0 ≤ id ∧ id < n := of_decide_eq_true h
theorem entry_of {T : Tab} {id : Int} (h : hasB T.es.length id = true) : ∃ e, T.es[id.toNat]? = some e := by
  have := hasB_of h
  exact ⟨_, List.getElem?_eq_getElem (show id.toNat < T.es.length by omega)⟩
/-- What Bytes tells. -/
def Tab.bytes (T : Tab) (id : Int) : ByteArray × Bool := if hasB T.es.length id then (((T.es[id.toNat]?).map (·.b)).getD ByteArray.empty, true) else (ByteArray.empty, false)
theorem tab_bytes {B : Nat} {w : World} {t : Nat} {T : Tab} (h : TabAt B w t T) (id : Int) : Calls Tryz.prog 100 #[.pointer (some ⟨t, 0, none⟩), .int .i64 id] w fun e w' =>
    e = .returned (.tuple #[.string (T.bytes id).1, .bool (T.bytes id).2]) ∧ w = w' := by
  cases hh : hasB T.es.length id with
  | false =>
    have e1 : T.bytes id = (ByteArray.empty, false) := by simp [Tab.bytes, hh]
    rw [e1]
    have HH := Lib.hid hh; clear hh
    go_enter Tryz.func100, Tryz.ntmps100
    go_wp2_with fail
    refine (tab_has h _).mono ?_
    rintro e w' ⟨rfl, rfl⟩
    rw [HH.out]
    go_wp2
    go_ret2
    exact ⟨rfl, rfl⟩
  | true =>
    obtain ⟨e, he⟩ := entry_of hh
    have e1 : T.bytes id = (e.b, true) := by simp [Tab.bytes, hh, he]
    rw [e1]
    have hb := hasB_of hh
    have h0 := h
    obtain ⟨v, bm, pm, h⟩ := h0
    obtain ⟨g, c, rfl, s0, _, _⟩ := h.entry he
    have c0 := h.c0
    have HH := Lib.hid hh; clear hh
    go_enter Tryz.func100, Tryz.ntmps100
    go_wp2_with fail
    refine (tab_has ⟨_, _, _, h⟩ _).mono ?_
    rintro e w' ⟨rfl, rfl⟩
    rw [HH.out]
    go_wp2
    go_ret2
    exact ⟨rfl, rfl⟩
/-- What Pair tells. -/
def Tab.pair (T : Tab) (a b : Int) : Int × Bool := match mget T.pm (a, b) with | some i => ((i : Int), true) | none => (0, false)
theorem tab_pair {B : Nat} {w : World} {t : Nat} {T : Tab} (h : TabAt B w t T) (a b : Int) : Calls Tryz.prog 214 #[.pointer (some ⟨t, 0, none⟩), .int .i64 a, .int .i64 b] w fun e w' =>
    e = .returned (.tuple #[.int .i64 (T.pair a b).1, .bool (T.pair a b).2]) ∧ w = w' := by
  obtain ⟨v, bm, pm, h⟩ := h
  have c2 := h.c2
  cases hg : mget T.pm (a, b) with
  | none =>
    have e1 : T.pair a b = (0, false) := by simp [Tab.pair, hg]
    rw [e1]
    have HG := Lib.hid hg; clear hg
    go_enter Tryz.func214, Tryz.ntmps214
    go_wp2_with (at_lookup; refine wpList_lookup_none rfl _ _ _ _ rfl k_pair Tryz.underlying190 h.hp (z_int _) (a, b) rfl rfl HG.out ?_)
    go_ret2
    exact ⟨rfl, rfl⟩
  | some i =>
    have e1 : T.pair a b = ((i : Int), true) := by simp [Tab.pair, hg]
    rw [e1]
    have HG := Lib.hid hg; clear hg
    go_enter Tryz.func214, Tryz.ntmps214
    go_wp2_with (at_lookup; refine wpList_lookup_some rfl _ _ _ _ rfl k_pair Tryz.underlying190 h.hp (a, b) rfl rfl i HG.out ?_)
    go_ret2
    exact ⟨rfl, rfl⟩
end Go.Proofs.YtiiaklaojlnokaaGreatDoor.B
