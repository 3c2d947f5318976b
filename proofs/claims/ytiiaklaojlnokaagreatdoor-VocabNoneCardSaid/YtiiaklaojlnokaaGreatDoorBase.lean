/- Plain words on worlds: what a call may change (Ext), rows of cells (RowAt), maps as lists of pairs (MapAt), with the laws on Go's map operations. No condition beyond those that each lemma names. -/
import Derived.WalkKit
import Derived.Maps.OwnOps
import Derived.Lib.Hide
import Derived.Deep.RegionLaw
import Derived.Deep.Draws
set_option linter.unusedSectionVars false
set_option linter.unusedVariables false
set_option linter.unusedSimpArgs false
namespace Go.Proofs.YtiiaklaojlnokaaGreatDoor.B
open Go Go.RowKit Go.MapKept

/-! ### what a call may change -/
structure Ext (S : Nat → Prop) (w w' : World) : Prop where
  os : w'.os = w.os
  tape : w'.tape = w.tape
  output : w'.output = w.output
  size : w.heap.size ≤ w'.heap.size
  block : ∀ k, k < w.heap.size → ¬ S k → w'.heap[k]? = w.heap[k]?

def no : Nat → Prop := fun _ => False
def at1 (b : Nat) : Nat → Prop := fun k => k = b

theorem Ext.refl (S : Nat → Prop) (w : World) : Ext S w w := ⟨rfl, rfl, rfl, Nat.le_refl _, fun _ _ _ => rfl⟩
theorem Ext.trans {S : Nat → Prop} {a b c : World} (h : Ext S a b) (k : Ext S b c) : Ext S a c :=
  ⟨k.os.trans h.os, k.tape.trans h.tape, k.output.trans h.output, Nat.le_trans h.size k.size, fun i hi hs => (k.block i (Nat.lt_of_lt_of_le hi h.size) hs).trans (h.block i hi hs)⟩
/-- The second step may change more, if that is new. -/
theorem Ext.then {S T : Nat → Prop} {a b c : World} (h : Ext S a b) (k : Ext T b c) (hT : ∀ i, i < a.heap.size → T i → S i) : Ext S a c :=
  ⟨k.os.trans h.os, k.tape.trans h.tape, k.output.trans h.output, Nat.le_trans h.size k.size, fun i hi hs => (k.block i (Nat.lt_of_lt_of_le hi h.size) (fun t => hs (hT i hi t))).trans (h.block i hi hs)⟩
theorem Ext.mono {S T : Nat → Prop} {a b : World} (h : Ext S a b) (hS : ∀ i, i < a.heap.size → S i → T i) : Ext T a b :=
  ⟨h.os, h.tape, h.output, h.size, fun i hi ht => h.block i hi (fun s => ht (hS i hi s))⟩
theorem Ext.drew {S : Nat → Prop} {a b : World} (h : Ext S a b) : Ext S a b.drew := ⟨h.os, h.tape, h.output, h.size, h.block⟩
theorem Ext.drewN {S : Nat → Prop} {a b : World} (h : Ext S a b) (n : Nat) : Ext S a (b.drewN n) := ⟨h.os, h.tape, h.output, h.size, h.block⟩
theorem Ext.alloc {S : Nat → Prop} {a b : World} (h : Ext S a b) (o : Obj) : Ext S a (b.alloc o) :=
  ⟨h.os, h.tape, h.output, Nat.le_trans h.size (by simp), fun i hi hs => (Below.heap_alloc b o i (Nat.lt_of_lt_of_le hi h.size)).trans (h.block i hi hs)⟩
theorem Ext.setCell {S : Nat → Prop} {a b : World} (h : Ext S a b) {p : Addr} (hp : p.block < a.heap.size → S p.block) (u : Value) : Ext S a (b.setCell p u) :=
  ⟨h.os, h.tape, h.output, Nat.le_trans h.size (by simp [World.setCell]), fun i hi hs => (Below.heap_setCell b p u i (fun e => hs (e ▸ hp (e ▸ hi)))).trans (h.block i hi hs)⟩
theorem Ext.grown {S : Nat → Prop} {a b c : World} {row : Option Nat} (h : Ext S a b) (hg : b.grownBy c row) (hr : ∀ k, row = some k → k < a.heap.size → S k) : Ext S a c :=
  ⟨hg.os.trans h.os, hg.tape.trans h.tape, hg.output.trans h.output, Nat.le_trans h.size hg.size, fun i hi hs =>
    (hg.block i (Nat.lt_of_lt_of_le hi h.size) (fun e => hs (hr i e.symm hi))).trans (h.block i hi hs)⟩
theorem Ext.toBelow {w w' : World} (h : Ext no w w') : Below w.heap.size w w' := ⟨h.os, h.tape, h.output, h.size, fun k hk => h.block k hk (fun x => x)⟩
theorem Below.toExt {w w' : World} (h : Below w.heap.size w w') (S : Nat → Prop) : Ext S w w' := ⟨h.os, h.tape, h.output, h.size, fun k hk _ => h.block k hk⟩
theorem Ext.heap {S : Nat → Prop} {w w' : World} (h : Ext S w w') {b : Nat} {o : Obj} (ho : w.heap[b]? = some o) (hs : ¬ S b) : w'.heap[b]? = some o :=
  (h.block b (Array.getElem?_eq_some_iff.1 ho).1 hs).trans ho
theorem lt_of_cell {w : World} {a : Addr} {v : Value} (h : w.cell? a = some v) : a.block < w.heap.size := World.block_lt_of_cell? w a h
theorem Ext.cell {S : Nat → Prop} {w w' : World} (h : Ext S w w') {a : Addr} {v : Value} (hc : w.cell? a = some v) (hs : ¬ S a.block) : w'.cell? a = some v :=
  (World.cell?_of_block (h.block a.block (lt_of_cell hc) hs)).trans hc
theorem Ext.frozen {S : Nat → Prop} {w w' : World} (h : Ext S w w') {a : Addr} (ha : a.block < w.heap.size) (hs : ¬ S a.block) : w'.frozen? a = w.frozen? a :=
  World.frozen?_of_block (h.block a.block ha hs)
theorem not_no (b : Nat) : ¬ no b := fun h => h

/-- A block that is known whole. -/
theorem cell_of_block {w : World} {b : Nat} {c : Array Value} {e : TypeId} {fr : Nat × Nat} (h : w.heap[b]? = some (.cells c e fr)) (o : Nat) : w.cell? ⟨b, o, none⟩ = c[o]? := by
  simp [World.cell?, h]
theorem free_of_block {w : World} {b : Nat} {c : Array Value} {e : TypeId} (h : w.heap[b]? = some (.cells c e (0, 0))) (o : Nat) : w.frozen? ⟨b, o, none⟩ = false := by
  simp [World.frozen?, h]
theorem block_setCell {w : World} {b : Nat} {c : Array Value} {e : TypeId} {fr : Nat × Nat} (h : w.heap[b]? = some (.cells c e fr)) (o : Nat) (v : Value) :
    (w.setCell ⟨b, o, none⟩ v).heap[b]? = some (.cells (c.setIfInBounds o v) e fr) := by
  simp only [World.setCell, Array.getElem?_modify, if_true, h, Option.map_some, Option.isSome_none, Bool.false_eq_true, if_false]
theorem block_setCell_other {w : World} {b : Nat} {a : Addr} (v : Value) (h : b ≠ a.block) : (w.setCell a v).heap[b]? = w.heap[b]? := Below.heap_setCell w a v b h
theorem Ext.setCell_other {w : World} {b o b' o' : Nat} {x v : Value} (h : w.cell? ⟨b, o, none⟩ = some x) (hne : b ≠ b') : (w.setCell ⟨b', o', none⟩ v).cell? ⟨b, o, none⟩ = some x :=
  (World.cell?_of_block (block_setCell_other v hne)).trans h
theorem block_alloc {w : World} {b : Nat} {o o' : Obj} (h : w.heap[b]? = some o) : (w.alloc o').heap[b]? = some o :=
  (Below.heap_alloc w o' b (Array.getElem?_eq_some_iff.1 h).1).trans h
theorem block_new (w : World) (o : Obj) : (w.alloc o).heap[w.heap.size]? = some o := (MapKept.heap_alloc w o).1
theorem Ext.heap1 {w w' : World} {b b' : Nat} {o : Obj} (h : Ext (at1 b) w w') (ho : w.heap[b']? = some o) (hne : b' ≠ b) : w'.heap[b']? = some o := h.heap ho hne
theorem Ext.below {S : Nat → Prop} {w w' : World} (h : Ext S w w') {B : Nat} (hB : B ≤ w.heap.size) (hS : ∀ k, S k → B ≤ k) : Below B w w' :=
  ⟨h.os, h.tape, h.output, h.size, fun k hk => h.block k (Nat.lt_of_lt_of_le hk hB) (fun hs => Nat.lt_irrefl _ (Nat.lt_of_lt_of_le hk (hS k hs)))⟩
theorem lt_of_block {w : World} {b : Nat} {o : Obj} (h : w.heap[b]? = some o) : b < w.heap.size := (Array.getElem?_eq_some_iff.1 h).1

/-! ### rows that are read -/
def RowAt (w : World) (A : Option Addr) (cs : List Value) : Prop :=
  cs = [] ∨ ∃ b o, A = some ⟨b, o, none⟩ ∧ ∀ j v, cs[j]? = some v → w.cell? ⟨b, o + j, none⟩ = some v
theorem RowAt.nil (w : World) (A : Option Addr) : RowAt w A [] := .inl rfl
theorem RowAt.ext {S : Nat → Prop} {w w' : World} {A : Option Addr} {cs : List Value} (h : RowAt w A cs) (e : Ext S w w') (hs : ∀ b o, A = some ⟨b, o, none⟩ → ¬ S b) : RowAt w' A cs := by
  rcases h with h | ⟨b, o, rfl, hc⟩
  · exact .inl h
  · exact .inr ⟨b, o, rfl, fun j v hj => e.cell (hc j v hj) (hs b o rfl)⟩
theorem RowAt.at_ {w : World} {A : Option Addr} {cs : List Value} (h : RowAt w A cs) {j : Nat} {v : Value} (hj : cs[j]? = some v) : ∃ b o, A = some ⟨b, o, none⟩ ∧ w.cell? ⟨b, o + j, none⟩ = some v := by
  rcases h with rfl | ⟨b, o, rfl, hc⟩
  · simp at hj
  · exact ⟨b, o, rfl, hc j v hj⟩
theorem RowAt.form {w : World} {A : Option Addr} {cs : List Value} (h : RowAt w A cs) (hn : 0 < cs.length) : ∃ b o, A = some ⟨b, o, none⟩ ∧ ∀ j v, cs[j]? = some v → w.cell? ⟨b, o + j, none⟩ = some v := by
  rcases h with rfl | h
  · simp at hn
  · exact h

/-! ### maps -/
section
variable {α β : Type} [DecidableEq α]
def mget (m : List (α × β)) (k : α) : Option β := (m.find? fun p => p.1 = k).map (·.2)
def mput (m : List (α × β)) (k : α) (v : β) : List (α × β) := if k ∈ m.map (·.1) then m.map (fun p => if p.1 = k then (k, v) else p) else m ++ [(k, v)]
theorem mget_none {m : List (α × β)} {k : α} : mget m k = none ↔ k ∉ m.map (·.1) := by
  simp only [mget, Option.map_eq_none_iff, List.find?_eq_none, List.mem_map, not_exists, not_and, decide_eq_true_eq]
theorem mput_new {m : List (α × β)} {k : α} (v : β) (h : mget m k = none) : mput m k v = m ++ [(k, v)] := by
  rw [mput, if_neg (mget_none.1 h)]
theorem mput_keys (m : List (α × β)) (k : α) (v : β) : (mput m k v).map (·.1) = if k ∈ m.map (·.1) then m.map (·.1) else m.map (·.1) ++ [k] := by
  unfold mput
  split
  · rw [List.map_map]; apply List.map_congr_left; intro p _; simp only [Function.comp]; split
    · rename_i e; exact e.symm
    · rfl
  · simp
theorem mput_nodup {m : List (α × β)} {k : α} {v : β} (h : (m.map (·.1)).Nodup) : ((mput m k v).map (·.1)).Nodup := by
  rw [mput_keys]
  split
  · exact h
  · rename_i hk
    exact List.nodup_append.2 ⟨h, by simp, fun a ha b hb e => hk (by simp only [List.mem_singleton] at hb; rw [← hb, ← e]; exact ha)⟩
theorem mget_append_left {m : List (α × β)} {k : α} {v : β} (p : α × β) (h : mget m k = some v) : mget (m ++ [p]) k = some v := by
  unfold mget at *
  rw [List.find?_append]
  cases hf : m.find? (fun p => p.1 = k) with
  | none => rw [hf] at h; simp at h
  | some q => rw [hf] at h; simpa using h
theorem mget_append (m : List (α × β)) (p : α × β) (k : α) : mget (m ++ [p]) k = (mget m k).or (if p.1 = k then some p.2 else none) := by
  unfold mget
  rw [List.find?_append]
  cases hf : m.find? (fun p => p.1 = k) with
  | none =>
    simp only [Option.none_or, Option.map_none, List.find?_cons, List.find?_nil]
    by_cases e : p.1 = k <;> simp [e]
  | some q => simp

theorem nodup_map {γ δ : Type} {f : γ → δ} (hf : ∀ a b, f a = f b → a = b) {l : List γ} (h : l.Nodup) : (l.map f).Nodup :=
  List.pairwise_map.2 (List.Pairwise.imp (fun hne e => hne (hf _ _ e)) h)

structure KeyLaw (P : Program) (kt : TypeId) (kv : α → Value) : Prop where
  inj : ∀ a b, kv a = kv b → a = b
  check : ∀ (k : α) (e : Bool) (w : World), (Instr.checkKey e 10000 kt (kv k)).run P w = .ok () w
  find : ∀ (k : α) (l : List MapEntry) (ks : List α) (w : World), l.map (·.key) = ks.map kv →
    (Instr.findKey kt (kv k) l).run P w = .ok ((ks.findIdx? (fun x => x = k)).bind fun i => (l[i]?).map fun e => (i, e.val)) w
  bits : ∀ k, Instr.sameBits 10000 (kv k) (kv k) = true

def MapAt (w : World) (b : Nat) (kv : α → Value) (vv : β → Value) (m : List (α × β)) : Prop :=
  ∃ es clock, w.heap[b]? = some (.map es clock) ∧ es.toList.map (fun e => (e.key, e.val)) = m.map (fun p => (kv p.1, vv p.2)) ∧
    (∀ e ∈ es.toList, e.born < clock) ∧ (es.toList.map (·.born)).Nodup ∧ (m.map (·.1)).Nodup 

theorem MapAt.ext {S : Nat → Prop} {w w' : World} {b : Nat} {kv : α → Value} {vv : β → Value} {m : List (α × β)} (h : MapAt w b kv vv m) (e : Ext S w w') (hs : ¬ S b) : MapAt w' b kv vv m := by
  obtain ⟨es, c, hb, r⟩ := h
  exact ⟨es, c, e.heap hb hs, r⟩
theorem MapAt.lt {w : World} {b : Nat} {kv : α → Value} {vv : β → Value} {m : List (α × β)} (h : MapAt w b kv vv m) : b < w.heap.size := by
  obtain ⟨es, c, hb, _⟩ := h; exact lt_of_block hb
theorem MapAt.new (w : World) (kv : α → Value) (vv : β → Value) : MapAt (w.alloc (.map #[] 0)) w.heap.size kv vv [] :=
  ⟨#[], 0, block_new w _, by simp, by simp, by simp, by simp⟩
theorem MapAt.nodup {w : World} {b : Nat} {kv : α → Value} {vv : β → Value} {m : List (α × β)} (h : MapAt w b kv vv m) : (m.map (·.1)).Nodup := by
  obtain ⟨es, c, _, _, _, _, hn⟩ := h; exact hn
/-- A block of cells is none of a map. -/
theorem MapAt.ne {w : World} {b : Nat} {kv : α → Value} {vv : β → Value} {m : List (α × β)} (h : MapAt w b kv vv m) {k : Nat} {c : Array Value} {e : TypeId} {fr : Nat × Nat} (hk : w.heap[k]? = some (.cells c e fr)) : b ≠ k := by
  rintro rfl
  obtain ⟨es, cl, hb, _⟩ := h
  rw [hb] at hk; cases hk

theorem entry_keys {kv : α → Value} {vv : β → Value} {m : List (α × β)} {l : List MapEntry} (h : l.map (fun e => (e.key, e.val)) = m.map (fun p => (kv p.1, vv p.2))) : l.map (·.key) = (m.map (·.1)).map kv := by
  have := congrArg (List.map Prod.fst) h
  simpa [List.map_map, Function.comp_def] using this
theorem entry_at {kv : α → Value} {vv : β → Value} {m : List (α × β)} {l : List MapEntry} (h : l.map (fun e => (e.key, e.val)) = m.map (fun p => (kv p.1, vv p.2))) (i : Nat) :
    (l[i]?).map (fun e => (e.key, e.val)) = (m[i]?).map (fun p => (kv p.1, vv p.2)) := by
  have := congrArg (fun x => x[i]?) h
  simpa using this
theorem find_some {m : List (α × β)} {k : α} {v : β} (h : mget m k = some v) : ∃ i, (m.map (·.1)).findIdx? (fun x => x = k) = some i ∧ m[i]? = some (k, v) := by
  induction m with
  | nil => simp [mget] at h
  | cons p m ih =>
    by_cases e : p.1 = k
    · refine ⟨0, by simp [List.findIdx?_cons, e], ?_⟩
      simp only [mget, List.find?_cons, e, decide_true, Option.map_some, Option.some.injEq] at h
      simp [← e, ← h]
    · simp only [mget, List.find?_cons, e, decide_false] at h
      obtain ⟨i, hi, hm⟩ := ih h
      exact ⟨i + 1, by simp [List.findIdx?_cons, e, hi], by simpa using hm⟩
theorem find_none {m : List (α × β)} {k : α} (h : mget m k = none) : (m.map (·.1)).findIdx? (fun x => x = k) = none := by
  rw [List.findIdx?_eq_none_iff]
  intro x hx
  have := mget_none.1 h
  simp only [decide_eq_false_iff_not]
  rintro rfl; exact this hx

variable {P : Program} {kt : TypeId} {kv : α → Value} {vv : β → Value} {w : World} {b : Nat} {m : List (α × β)}
theorem run_findKey_some (K : KeyLaw P kt kv) {es : Array MapEntry} (hm : es.toList.map (fun e => (e.key, e.val)) = m.map (fun p => (kv p.1, vv p.2))) {k : α} {v : β} (h : mget m k = some v) :
    ∃ i e, (Instr.findKey kt (kv k) es.toList).run P w = .ok (some (i, vv v)) w ∧ es[i]? = some e ∧ e.key = kv k ∧ e.val = vv v ∧ m[i]? = some (k, v) := by
  obtain ⟨i, hi, hmi⟩ := find_some h
  have he := entry_at hm i
  rw [hmi] at he
  obtain ⟨e, hei, hee⟩ := Option.map_eq_some_iff.1 he
  simp only [Prod.mk.injEq] at hee
  refine ⟨i, e, ?_, by simpa using hei, hee.1, hee.2, hmi⟩
  rw [K.find k es.toList _ w (entry_keys hm), hi]
  simp only [Option.bind_some, hei, Option.map_some, hee.2]
theorem run_findKey_none (K : KeyLaw P kt kv) {es : Array MapEntry} (hm : es.toList.map (fun e => (e.key, e.val)) = m.map (fun p => (kv p.1, vv p.2))) {k : α} (h : mget m k = none) :
    (Instr.findKey kt (kv k) es.toList).run P w = .ok none w := by
  rw [K.find k es.toList _ w (entry_keys hm), find_none h]; rfl

theorem run_lookup_some (K : KeyLaw P kt kv) {t et : TypeId} (ht : P.underlying t = some (.map kt et)) (hM : MapAt w b kv vv m) {k : α} {v : β} (h : mget m k = some v) (ok : Bool) :
    (Instr.lookup t (.map (some b)) (kv k) ok).run P w = .ok (if ok then .tuple #[vv v, .bool true] else vv v) w := by
  obtain ⟨es, c, hb, hm, _⟩ := hM
  obtain ⟨i, e, hf, _⟩ := run_findKey_some (w := w) K hm h
  simp only [Instr.lookup, Sem.run_bind, run_underlying ht, Result.andThen_ok, MapKept.run_getObj_map hb, Sem.run_pure, K.check, hf]
theorem run_lookup_none (K : KeyLaw P kt kv) {t et : TypeId} (ht : P.underlying t = some (.map kt et)) (hM : MapAt w b kv vv m) {z : Value} (hz : (zeroValue et).run P w = .ok z w) {k : α} (h : mget m k = none) (ok : Bool) :
    (Instr.lookup t (.map (some b)) (kv k) ok).run P w = .ok (if ok then .tuple #[z, .bool false] else z) w := by
  obtain ⟨es, c, hb, hm, _⟩ := hM
  have hf := run_findKey_none (w := w) K hm h
  simp only [Instr.lookup, Sem.run_bind, run_underlying ht, Result.andThen_ok, MapKept.run_getObj_map hb, Sem.run_pure, K.check, hf, hz]

/-- The entries behind 'm[k] = v'. -/
theorem mput_some {m : List (α × β)} {k : α} {v0 : β} (v : β) (h : mget m k = some v0) : mput m k v = m.map (fun p => if p.1 = k then (k, v) else p) := by
  rw [mput, if_pos]
  have : mget m k ≠ none := by rw [h]; simp
  exact Classical.not_not.1 fun hn => this (mget_none.2 hn)
theorem put_entries {es : Array MapEntry} (K : KeyLaw P kt kv) (hm : es.toList.map (fun e => (e.key, e.val)) = m.map (fun p => (kv p.1, vv p.2))) (hn : (m.map (·.1)).Nodup) {k : α} {v0 : β} (h : mget m k = some v0) (v : β) (val : Value) (hval : val = vv v)
    {i : Nat} (hi : m[i]? = some (k, v0)) : (es.modify i fun e => { e with key := kv k, val := val }).toList.map (fun e => (e.key, e.val)) = (mput m k v).map (fun p => (kv p.1, vv p.2)) := by
  rw [mput_some v h]
  apply List.ext_getElem?
  intro j
  have he := entry_at hm j
  simp only [List.getElem?_map, Array.getElem?_toList, Array.getElem?_modify, List.map_map, Function.comp_def] at he ⊢
  by_cases hij : i = j
  · subst hij
    rw [hi] at he ⊢
    obtain ⟨e, hei, _⟩ := Option.map_eq_some_iff.1 he
    simp [hei, hval]
  · rw [if_neg hij]
    cases hmj : m[j]? with
    | none => rw [hmj] at he; simpa using he
    | some p =>
      have hp : p.1 ≠ k := by
        intro e
        have h1 : (m.map (·.1))[i]? = some k := by simp [hi]
        have h2 : (m.map (·.1))[j]? = some k := by simp [hmj, e]
        have := (List.getElem?_inj (by
          obtain ⟨hlt, _⟩ := List.getElem?_eq_some_iff.1 h1; exact hlt) hn).1 (h1.trans h2.symm)
        exact hij this
      rw [hmj] at he
      simpa [hp] using he
theorem run_keyThatStays (K : KeyLaw P kt kv) (k : α) (w : World) : (Instr.keyThatStays (kv k) (kv k)).run P w = .ok (kv k) w := by
  simp [Instr.keyThatStays, K.bits]

/-- 'm[k] = v' as one operation. -/
theorem run_mapUpdate (K : KeyLaw P kt kv) {t et : TypeId} (ht : P.underlying t = some (.map kt et)) (hM : MapAt w b kv vv m) (k : α) (v : β) :
    ∃ w', (Instr.mapUpdate t (.map (some b)) (kv k) (vv v)).run P w = .ok () w' ∧ MapAt w' b kv vv (mput m k v) ∧ Ext (at1 b) w w' ∧ w'.heap.size = w.heap.size := by
  obtain ⟨es, c, hb, hm, hc, hd, hn⟩ := hM
  have hext : ∀ o, Ext (at1 b) w { w with heap := w.heap.setIfInBounds b o } := fun o =>
    ⟨rfl, rfl, rfl, by simp, fun i _ hs => (MapKept.heap_set hb).2 i hs⟩
  cases hg : mget m k with
  | none =>
    have hf := run_findKey_none (w := w) K hm hg
    refine ⟨{ w with heap := w.heap.setIfInBounds b (.map (es.push { key := kv k, val := vv v, born := c }) (c + 1)) }, ?_, ⟨es.push { key := kv k, val := vv v, born := c }, c + 1, (MapKept.heap_set hb).1, ?_, ?_, ?_, mput_nodup hn⟩, hext _, by simp⟩
    · simp only [Instr.mapUpdate, Sem.run_bind, run_underlying ht, Result.andThen_ok, MapKept.run_getObj_map hb, K.check, hf]
      exact MapKept.run_setObj_map _ hb
    · rw [mput_new v hg]; simp [hm]
    · intro e he
      simp only [Array.toList_push, List.mem_append, List.mem_singleton] at he
      rcases he with he | rfl
      · exact Nat.lt_succ_of_lt (hc e he)
      · exact Nat.lt_succ_self _
    · simp only [Array.toList_push, List.map_append, List.map_cons, List.map_nil]
      refine List.nodup_append.2 ⟨hd, by simp, ?_⟩
      intro a ha d hd'
      simp only [List.mem_singleton] at hd'
      subst hd'
      obtain ⟨x, hx, rfl⟩ := List.mem_map.1 ha
      exact Nat.ne_of_lt (hc x hx)
  | some v0 =>
    obtain ⟨i, e, hf, hei, hek, _, hmi⟩ := run_findKey_some (w := w) K hm hg
    have hst := MapKept.stamped_modify (es := es) (clock := c) ⟨hc, hd, by
      have := entry_keys hm
      rw [this]
      exact nodup_map K.inj hn⟩ i (fun e => { e with key := kv k, val := vv v }) (fun _ _ => rfl) (fun x _ hx => by rw [hei] at hx; cases hx; exact hek.symm)
    refine ⟨{ w with heap := w.heap.setIfInBounds b (.map (es.modify i fun e => { e with key := kv k, val := vv v }) c) }, ?_, ⟨_, c, (MapKept.heap_set hb).1, put_entries K hm hn hg v (vv v) rfl hmi, hst.1, hst.2.1, mput_nodup hn⟩, hext _, by simp⟩
    simp only [Instr.mapUpdate, Sem.run_bind, run_underlying ht, Result.andThen_ok, MapKept.run_getObj_map hb, K.check, hf, hei, Option.map_some, Option.getD_some, hek, run_keyThatStays K]
    exact MapKept.run_setObj_map _ hb

/-- The map with a place for k, born as s, that waits for its value. -/
def MapPend (w : World) (b : Nat) (kv : α → Value) (vv : β → Value) (m : List (α × β)) (k : α) (s : Nat) : Prop :=
  ∃ es clock, w.heap[b]? = some (.map es clock) ∧ (∃ i e, es[i]? = some e ∧ e.born = s ∧ ∀ v, (es.modify i fun e => { e with val := vv v }).toList.map (fun e => (e.key, e.val)) = (mput m k v).map (fun p => (kv p.1, vv p.2))) ∧
    (∀ e ∈ es.toList, e.born < clock) ∧ (es.toList.map (·.born)).Nodup ∧ (m.map (·.1)).Nodup
theorem MapPend.ext {S : Nat → Prop} {w w' : World} {k : α} {s : Nat} (h : MapPend w b kv vv m k s) (e : Ext S w w') (hs : ¬ S b) : MapPend w' b kv vv m k s := by
  obtain ⟨es, c, hb, r⟩ := h
  exact ⟨es, c, e.heap hb hs, r⟩

theorem run_mapEntry (K : KeyLaw P kt kv) {t et : TypeId} (ht : P.underlying t = some (.map kt et)) (hM : MapAt w b kv vv m) {z : Value} (hz : (zeroValue et).run P w = .ok z w) (k : α) :
    ∃ (w' : World) (s : Nat), (Instr.mapEntry t (.map (some b)) (kv k)).run P w = .ok (.tuple #[((mget m k).map vv).getD z, .int .i64 (s : Int)]) w' ∧ MapPend w' b kv vv m k s ∧ Ext (at1 b) w w' ∧ w'.heap.size = w.heap.size := by
  obtain ⟨es, c, hb, hm, hc, hd, hn⟩ := hM
  have hext : ∀ o, Ext (at1 b) w { w with heap := w.heap.setIfInBounds b o } := fun o =>
    ⟨rfl, rfl, rfl, by simp, fun i _ hs => (MapKept.heap_set hb).2 i hs⟩
  cases hg : mget m k with
  | none =>
    have hf := run_findKey_none (w := w) K hm hg
    refine ⟨{ w with heap := w.heap.setIfInBounds b (.map (es.push { key := kv k, val := z, born := c }) (c + 1)) }, c, ?_, ⟨es.push { key := kv k, val := z, born := c }, c + 1, (MapKept.heap_set hb).1, ⟨es.size, { key := kv k, val := z, born := c }, Array.getElem?_push_size, rfl, ?_⟩, ?_, ?_, hn⟩, hext _, by simp⟩
    · simp only [Instr.mapEntry, Sem.run_bind, run_underlying ht, Result.andThen_ok, MapKept.run_getObj_map hb, K.check, hf, hz, MapKept.run_setObj_map _ hb, Sem.run_pure, goInt, Option.map_none, Option.getD_none]
    · intro v
      rw [mput_new v hg]
      apply List.ext_getElem?
      intro j
      have he := entry_at hm j
      have hsz : es.size = m.length := by have := congrArg List.length hm; simpa using this
      simp only [List.getElem?_map, Array.getElem?_toList, Array.getElem?_modify, Array.getElem?_push, List.map_append, List.getElem?_append, List.length_map, List.map_cons, List.map_nil] at he ⊢
      rcases Nat.lt_trichotomy j m.length with hj | hj | hj
      · rw [if_neg (by omega), if_neg (by omega), if_pos hj]; exact he
      · subst hj; simp [hsz]
      · rw [if_neg (by omega), if_neg (by omega), if_neg (by omega)]
        have h1 : es[j]? = none := by simp; omega
        have h2 : [(kv k, vv v)][j - m.length]? = none := by simp; omega
        rw [h1, h2]; rfl
    · intro e he
      simp only [Array.toList_push, List.mem_append, List.mem_singleton] at he
      rcases he with he | rfl
      · exact Nat.lt_succ_of_lt (hc e he)
      · exact Nat.lt_succ_self _
    · simp only [Array.toList_push, List.map_append, List.map_cons, List.map_nil]
      refine List.nodup_append.2 ⟨hd, by simp, ?_⟩
      intro a ha d hd'
      simp only [List.mem_singleton] at hd'
      subst hd'
      obtain ⟨x, hx, rfl⟩ := List.mem_map.1 ha
      exact Nat.ne_of_lt (hc x hx)
  | some v0 =>
    obtain ⟨i, e, hf, hei, hek, hev, hmi⟩ := run_findKey_some (w := w) K hm hg
    have hst := MapKept.stamped_modify (es := es) (clock := c) ⟨hc, hd, by
      have := entry_keys hm
      rw [this]
      exact nodup_map K.inj hn⟩ i (fun e => { e with key := kv k }) (fun _ _ => rfl) (fun x _ hx => by rw [hei] at hx; cases hx; exact hek.symm)
    refine ⟨{ w with heap := w.heap.setIfInBounds b (.map (es.modify i fun e => { e with key := kv k }) c) }, e.born, ?_, ⟨es.modify i fun e => { e with key := kv k }, c, (MapKept.heap_set hb).1, ⟨i, { e with key := kv k }, by simp [Array.getElem?_modify, hei], rfl, ?_⟩, hst.1, hst.2.1, hn⟩, hext _, by simp⟩
    · simp only [Instr.mapEntry, Sem.run_bind, run_underlying ht, Result.andThen_ok, MapKept.run_getObj_map hb, K.check, hf, hei, Option.map_some, Option.getD_some, hek, run_keyThatStays K, MapKept.run_setObj_map _ hb, Sem.run_pure, goInt, hev]
    · intro v
      rw [← put_entries K hm hn hg v (vv v) rfl hmi]
      congr 1
      apply congrArg
      apply Array.ext_getElem?
      intro j
      simp only [Array.getElem?_modify]
      by_cases hij : i = j
      · simp only [hij, if_true, Option.map_map]
        cases es[j]? <;> rfl
      · simp [hij]
theorem run_entryStore {t : TypeId} {k : α} {s : Nat} (h : MapPend w b kv vv m k s) (v : β) :
    ∃ w', (Instr.entryStore t (.map (some b)) (.int .i64 (s : Int)) (vv v)).run P w = .ok () w' ∧ MapAt w' b kv vv (mput m k v) ∧ Ext (at1 b) w w' ∧ w'.heap.size = w.heap.size := by
  obtain ⟨es, c, hb, ⟨i, e, hei, hes, hput⟩, hc, hd, hn⟩ := h
  have hfind : es.findIdx? (fun e => (e.born : Int) == (s : Int)) = some i := by
    rw [Array.findIdx?_eq_some_iff_getElem]
    obtain ⟨hlt, hget⟩ := Array.getElem?_eq_some_iff.1 hei
    refine ⟨hlt, by rw [hget, hes]; simp, fun j hj => ?_⟩
    have hlt' : j < es.size := by omega
    intro he
    have hb1 : (es.toList.map (·.born))[i]? = some s := by simp [hei, hes]
    have hb2 : (es.toList.map (·.born))[j]? = some s := by
      simp only [List.getElem?_map, Array.getElem?_toList, Array.getElem?_eq_getElem hlt', Option.map_some, Option.some.injEq]
      have := of_decide_eq_true (by simpa using he : decide (((es[j].born : Nat) : Int) = (s : Int)) = true)
      omega
    have := (List.getElem?_inj (by obtain ⟨hl, _⟩ := List.getElem?_eq_some_iff.1 hb1; exact hl) hd).1 (hb1.trans hb2.symm)
    omega
  refine ⟨{ w with heap := w.heap.setIfInBounds b (.map (es.modify i fun e => { e with val := vv v }) c) }, ?_, ⟨es.modify i fun e => { e with val := vv v }, c, (MapKept.heap_set hb).1, hput v, ?_, ?_, mput_nodup hn⟩, ⟨rfl, rfl, rfl, by simp, fun i _ hs => (MapKept.heap_set hb).2 i hs⟩, by simp⟩
  · simp only [Instr.entryStore, Sem.run_bind, Result.andThen_ok, MapKept.run_getObj_map hb, asInt, asIntOf, Sem.run_pure, hfind]
    exact MapKept.run_setObj_map _ hb
  · have hborn : (es.modify i fun e => { e with val := vv v }).toList.map (·.born) = es.toList.map (·.born) := by
      apply List.ext_getElem?; intro j
      simp only [List.getElem?_map, Array.getElem?_toList, Array.getElem?_modify]
      by_cases hij : i = j
      · subst hij; simp [hei]
      · simp [hij]
    intro x hx
    have : x.born ∈ (es.modify i fun e => { e with val := vv v }).toList.map (·.born) := List.mem_map.2 ⟨x, hx, rfl⟩
    rw [hborn] at this
    obtain ⟨y, hy, e⟩ := List.mem_map.1 this
    rw [← e]; exact hc y hy
  · have hborn : (es.modify i fun e => { e with val := vv v }).toList.map (·.born) = es.toList.map (·.born) := by
      apply List.ext_getElem?; intro j
      simp only [List.getElem?_map, Array.getElem?_toList, Array.getElem?_modify]
      by_cases hij : i = j
      · subst hij; simp [hei]
      · simp [hij]
    rw [hborn]; exact hd

/-! ### keys -/
theorem findNow_list {d : TypeDesc} (hs : ∀ a b : α, Instr.sameNow d (kv a) (kv b) = some (decide (a = b))) (k : α) : ∀ (l : List MapEntry) (ks : List α) (i : Nat), l.map (·.key) = ks.map kv →
    Instr.findNow d (kv k) l i = some ((ks.findIdx? (fun x => x = k)).bind fun j => (l[j]?).map fun e => (i + j, e.val))
  | [], [], _, _ => rfl
  | [], _ :: _, _, h => by simp at h
  | _ :: _, [], _, h => by simp at h
  | e :: l, x :: ks, i, h => by
    simp only [List.map_cons, List.cons.injEq] at h
    have ih := findNow_list hs k l ks (i + 1) h.2
    by_cases hx : x = k
    · subst hx
      simp [Instr.findNow, h.1, hs, List.findIdx?_cons]
    · have hx' : ¬ k = x := fun e => hx e.symm
      simp only [Instr.findNow, h.1, hs, hx', decide_false, ih, List.findIdx?_cons, hx, Option.map_eq_map, Bool.false_eq_true, if_false]
      cases ks.findIdx? (fun x => decide (x = k)) with
      | none => rfl
      | some j => simp [Nat.add_assoc, Nat.add_comm 1 j]
theorem keyLaw_simple {d : TypeDesc} (hd : P.underlying kt = some d) (hk : ∀ a, IsKey d (kv a)) (inj : ∀ a b, kv a = kv b → a = b) (hs : ∀ a b : α, Instr.sameNow d (kv a) (kv b) = some (decide (a = b)))
    (hb : ∀ k, Instr.sameBits 10000 (kv k) (kv k) = true) : KeyLaw P kt kv where
  inj := inj
  check := fun k e w => MapKept.run_checkKey hd (hk k) e 9999
  find := fun k l ks w h => by
    rw [MapKept.run_findKey hd (findNow_list hs k l ks 0 h)]
    simp
  bits := hb
end
theorem beq_bytes (a b : ByteArray) : (a == b) = decide (a = b) := by
  rw [Bool.eq_iff_iff, bytes_beq, decide_eq_true_iff]
theorem keyString {P : Program} {kt : TypeId} (h : P.underlying kt = some .string) : KeyLaw P kt Value.string :=
  keyLaw_simple h (fun _ => trivial) (fun _ _ e => by injection e) (fun a b => by simp [Instr.sameNow, beq_bytes]) (fun k => by simp [Instr.sameBits, beq_bytes])
theorem keyInt {P : Program} {kt : TypeId} {q : IntKind} (h : P.underlying kt = some (.int q)) : KeyLaw P kt (Value.int q) :=
  keyLaw_simple h (fun _ => rfl) (fun _ _ e => by injection e) (fun a b => by simp [Instr.sameNow, BEq.beq, instBEqOfDecidableEq]) (fun k => by simp [Instr.sameBits])
theorem keyBool {P : Program} {kt : TypeId} (h : P.underlying kt = some .bool) : KeyLaw P kt Value.bool :=
  keyLaw_simple h (fun _ => trivial) (fun _ _ e => by injection e) (fun a b => by cases a <;> cases b <;> rfl) (fun k => by simp [Instr.sameBits])

/-- Two whole numbers as a key. -/
def pairV (p : Int × Int) : Value := .agg #[.int .i64 p.1, .int .i64 p.2]
structure PairType (P : Program) (kt : TypeId) : Prop where
  ex : ∃ fa fb : Field, ∃ ta : TypeId, P.underlying kt = some (.struct #[fa, fb]) ∧ fa.name ≠ "_" ∧ fb.name ≠ "_" ∧ fa.type = ta ∧ fb.type = ta ∧ fa.offset = 0 ∧ fb.offset = 1 ∧ P.underlying ta = some (.int .i64) ∧ P.stoodInHeld kt = false
theorem run_part_int {P : Program} {ta : TypeId} {q : IntKind} (h : P.underlying ta = some (.int q)) (w : World) (c : Array Value) (o : Nat) (v : Value) (hc : c[o]? = some v) : (part ta c o).run P w = .ok v w := by
  simp [part, isAgg, run_underlying h, hc]
theorem run_equal_pair {P : Program} {kt : TypeId} (h : PairType P kt) (a b : Int × Int) (w : World) : (Op.equal kt (pairV a) (pairV b)).run P w = .ok (decide (a = b)) w := by
  obtain ⟨a1, a2⟩ := a
  obtain ⟨b1, b2⟩ := b
  obtain ⟨fa, fb, ta, hu, na, nb, ea, eb, oa, ob, hi, hst⟩ := h.ex
  have hp := @run_part_int P ta .i64 hi
  have hf : P.fieldsOf kt = #[fa, fb] := by simp [Program.fieldsOf, hu]
  unfold Op.equal pairV
  have := run_equalIn_struct (P := P) w 9999 kt #[.int .i64 a1, .int .i64 a2] #[.int .i64 b1, .int .i64 b2] (by rw [hf]; exact hu) hst
  simp only [Op.maxDepth] at this ⊢
  rw [this, hf]
  have p1 : ∀ w, (part ta #[.int .i64 a1, .int .i64 a2] 0).run P w = .ok (.int .i64 a1) w := fun w => hp w _ _ _ rfl
  have p2 : ∀ w, (part ta #[.int .i64 b1, .int .i64 b2] 0).run P w = .ok (.int .i64 b1) w := fun w => hp w _ _ _ rfl
  have p3 : ∀ w, (part ta #[.int .i64 a1, .int .i64 a2] 1).run P w = .ok (.int .i64 a2) w := fun w => hp w _ _ _ rfl
  have p4 : ∀ w, (part ta #[.int .i64 b1, .int .i64 b2] 1).run P w = .ok (.int .i64 b2) w := fun w => hp w _ _ _ rfl
  have h5 : ∀ (x y : Int) (w : World), (Op.equalIn 9999 ta (.int .i64 x) (.int .i64 y)).run P w = .ok (x == y) w := fun x y w => run_equalIn_int w 9998 ta .i64 .i64 x y hi
  by_cases e1 : a1 = b1
  · by_cases e2 : a2 = b2
    · subst e1; subst e2
      simp [Op.eqFields, na, nb, ea, eb, oa, ob, p1, p3, h5]
    · simp only [Op.eqFields, na, nb, ne_eq, not_false_eq_true, if_true, ea, eb, oa, ob, Sem.run_bind, p1, p2, p3, p4, Result.andThen_ok, h5]
      subst e1
      simp [p3, p4, h5, e2]
  · simp only [Op.eqFields, na, nb, ne_eq, not_false_eq_true, if_true, ea, eb, oa, ob, Sem.run_bind, p1, p2, p3, p4, Result.andThen_ok, h5]
    simp [e1]
theorem keyPair {P : Program} {kt : TypeId} (h : PairType P kt) : KeyLaw P kt pairV where
  inj := fun a b e => by
    obtain ⟨a1, a2⟩ := a; obtain ⟨b1, b2⟩ := b
    simpa [pairV] using e
  check := fun k e w => by
    obtain ⟨fa, fb, ta, hu, na, nb, ea, eb, oa, ob, hi, hst⟩ := h.ex
    have hp := @run_part_int P ta .i64 hi
    have p1 : ∀ w, (part ta #[.int .i64 k.1, .int .i64 k.2] 0).run P w = .ok (.int .i64 k.1) w := fun w => hp w _ _ _ rfl
    have p3 : ∀ w, (part ta #[.int .i64 k.1, .int .i64 k.2] 1).run P w = .ok (.int .i64 k.2) w := fun w => hp w _ _ _ rfl
    have c1 : ∀ (v : Int) (w : World), (Instr.checkKey e 9999 ta (.int .i64 v)).run P w = .ok () w := fun v w => MapKept.run_checkKey (k := .int .i64 v) hi (show IsKey (.int .i64) (.int .i64 v) from rfl) e 9998
    unfold Instr.checkKey pairV
    simp only [Sem.run_bind, run_underlying hu, Result.andThen_ok]
    rw [← Array.forIn_toList]
    simp only [List.forIn_cons, List.forIn_nil, na, nb, ne_eq, not_false_eq_true, if_true, ea, eb, oa, ob, Sem.run_bind, p1, p3, c1, Result.andThen_ok, Sem.run_pure]
  find := fun k l ks w hl => by
    obtain ⟨fa, fb, ta, hu, _⟩ := h.ex
    have asking : ∀ (l : List MapEntry) (ks : List (Int × Int)) (i : Nat), l.map (·.key) = ks.map pairV →
        (Instr.findAsking kt (pairV k) l i).run P w = .ok ((ks.findIdx? (fun x => x = k)).bind fun j => (l[j]?).map fun e => (i + j, e.val)) w := by
      intro l
      induction l with
      | nil =>
        intro ks i h
        cases ks with
        | nil => rfl
        | cons _ _ => simp at h
      | cons e l ih =>
        intro ks i hh
        cases ks with
        | nil => simp at hh
        | cons x ks =>
          simp only [List.map_cons, List.cons.injEq] at hh
          simp only [Instr.findAsking, Sem.run_bind, hh.1, run_equal_pair h, Result.andThen_ok]
          by_cases hx : x = k
          · subst hx
            simp [List.findIdx?_cons]
          · have hx' : ¬ k = x := fun e => hx e.symm
            simp only [hx', decide_false, Bool.false_eq_true, if_false, ih ks (i + 1) hh.2, List.findIdx?_cons, hx, Option.map_eq_map]
            cases ks.findIdx? (fun x => decide (x = k)) with
            | none => rfl
            | some j => simp [Nat.add_assoc, Nat.add_comm 1 j]
    unfold Instr.findKey
    simp only [Sem.run_bind, run_underlying hu, Result.andThen_ok]
    cases l with
    | nil =>
      cases ks with
      | nil => rfl
      | cons _ _ => simp at hl
    | cons e l =>
      cases ks with
      | nil => simp at hl
      | cons x ks =>
        have hn : Instr.findNow (.struct #[fa, fb]) (pairV k) (e :: l) 0 = none := by
          simp [Instr.findNow, Instr.sameNow]
        simp only [hn]
        have := asking (e :: l) (x :: ks) 0 hl
        simpa using this
  bits := fun k => by simp [Instr.sameBits, pairV]

/-! ### the laws at an operation, for the walk -/
section
variable {P : Program} {ops : Array Oper} {rest : List Oper} {o : Oper} {a : Act} {Q : Exit → Act → World → Prop} {K : Act → World → Prop} {w : World} {E : Prop}
theorem wp_run_value {v : Value} {w' : World} (hrun : (execOp a.eval o).run P w = .ok (.value v) w') (hK : K (a.put o.dst v) w') : o.wp P a w K Q := by
  unfold Oper.wp; rw [hrun]; exact hK
theorem wp_run_skip {w' : World} (hrun : (execOp a.eval o).run P w = .ok .skip w') (hK : K (a.put o.dst undef) w') : o.wp P a w K Q := by
  unfold Oper.wp; rw [hrun]; exact hK
theorem wpList_value (hg : o.guard = none) {v : Value} {w' : World} (hrun : (execOp a.eval o).run P w = .ok (.value v) w') (hK : wpList P ops Q rest (a.put o.dst v) w') : wpList P ops Q (o :: rest) a w :=
  wpList_plain hg fun _ hK' => wp_run_value hrun (hK' _ _ hK)
theorem wpList_skip_ (hg : o.guard = none) {w' : World} (hrun : (execOp a.eval o).run P w = .ok .skip w') (hK : wpList P ops Q rest (a.put o.dst undef) w') : wpList P ops Q (o :: rest) a w :=
  wpList_plain hg fun _ hK' => wp_run_skip hrun (hK' _ _ hK)
theorem step_value (hg : o.guard = none) {v : Value} {w' : World} (hrun : (execOp a.eval o).run P w = .ok (.value v) w') (hK : K (a.put o.dst v) w') :
    if Region.wanted o (yielded ops a.tmps) = true then Oper.wp P o a w K Q else E := by
  rw [if_pos (by simp [Region.wanted, hg])]; exact wp_run_value hrun hK
theorem step_skip_ (hg : o.guard = none) {w' : World} (hrun : (execOp a.eval o).run P w = .ok .skip w') (hK : K (a.put o.dst undef) w') :
    if Region.wanted o (yielded ops a.tmps) = true then Oper.wp P o a w K Q else E := by
  rw [if_pos (by simp [Region.wanted, hg])]; exact wp_run_skip hrun hK

variable {α β : Type} [DecidableEq α] {kv : α → Value} {vv : β → Value} {kt et t : TypeId} {b : Nat} {m : List (α × β)} {k : α}
theorem exec_lookup_some {x y : Operand} {ok : Bool} (hop : o.op = .lookup t x y ok) (KL : KeyLaw P kt kv) (ht : P.underlying t = some (.map kt et)) (hM : MapAt w b kv vv m) (hx : a.eval x = .map (some b)) (hy : a.eval y = kv k) {v : β} (h : mget m k = some v) :
    (execOp a.eval o).run P w = .ok (.value (if ok then .tuple #[vv v, .bool true] else vv v)) w := by
  simp [execOp, hop, hx, hy, run_lookup_some KL ht hM h ok, Result.andThen]
theorem exec_lookup_none {x y : Operand} {ok : Bool} (hop : o.op = .lookup t x y ok) (KL : KeyLaw P kt kv) (ht : P.underlying t = some (.map kt et)) (hM : MapAt w b kv vv m) {z : Value} (hz : (zeroValue et).run P w = .ok z w) (hx : a.eval x = .map (some b)) (hy : a.eval y = kv k) (h : mget m k = none) :
    (execOp a.eval o).run P w = .ok (.value (if ok then .tuple #[z, .bool false] else z)) w := by
  simp [execOp, hop, hx, hy, run_lookup_none KL ht hM hz h ok, Result.andThen]
theorem exec_mapUpdate {x y z : Operand} (hop : o.op = .mapUpdate t x y z) (KL : KeyLaw P kt kv) (ht : P.underlying t = some (.map kt et)) (hM : MapAt w b kv vv m) (hx : a.eval x = .map (some b)) (hy : a.eval y = kv k) {v : β} (hz : a.eval z = vv v) :
    ∃ w', (execOp a.eval o).run P w = .ok .skip w' ∧ MapAt w' b kv vv (mput m k v) ∧ Ext (at1 b) w w' ∧ w'.heap.size = w.heap.size := by
  obtain ⟨w', hr, r⟩ := run_mapUpdate (w := w) KL ht hM k v
  exact ⟨w', by simp [execOp, hop, hx, hy, hz, hr, Result.andThen], r⟩
theorem exec_mapEntry {x y : Operand} (hop : o.op = .mapEntry t x y) (KL : KeyLaw P kt kv) (ht : P.underlying t = some (.map kt et)) (hM : MapAt w b kv vv m) {z : Value} (hz : (zeroValue et).run P w = .ok z w) (hx : a.eval x = .map (some b)) (hy : a.eval y = kv k) :
    ∃ (w' : World) (s : Nat), (execOp a.eval o).run P w = .ok (.value (.tuple #[((mget m k).map vv).getD z, .int .i64 (s : Int)])) w' ∧ MapPend w' b kv vv m k s ∧ Ext (at1 b) w w' ∧ w'.heap.size = w.heap.size := by
  obtain ⟨w', s, hr, r⟩ := run_mapEntry (w := w) KL ht hM hz k
  exact ⟨w', s, by simp [execOp, hop, hx, hy, hr, Result.andThen], r⟩
theorem exec_entryStore {x y z : Operand} {s : Nat} (hop : o.op = .entryStore t x y z) (h : MapPend w b kv vv m k s) (hx : a.eval x = .map (some b)) (hy : a.eval y = .int .i64 (s : Int)) {v : β} (hz : a.eval z = vv v) :
    ∃ w', (execOp a.eval o).run P w = .ok .skip w' ∧ MapAt w' b kv vv (mput m k v) ∧ Ext (at1 b) w w' ∧ w'.heap.size = w.heap.size := by
  obtain ⟨w', hr, r⟩ := run_entryStore (P := P) (t := t) h v
  exact ⟨w', by simp [execOp, hop, hx, hy, hz, hr, Result.andThen], r⟩

theorem wpList_lookup_some (hg : o.guard = none) (x y : Operand) (t : TypeId) (ok : Bool) (hop : o.op = .lookup t x y ok) (KL : KeyLaw P kt kv) (ht : P.underlying t = some (.map kt et)) (hM : MapAt w b kv vv m) (k : α) (hx : a.eval x = .map (some b)) (hy : a.eval y = kv k) (v : β) (h : mget m k = some v)
    (hK : wpList P ops Q rest (a.put o.dst (if ok then .tuple #[vv v, .bool true] else vv v)) w) : wpList P ops Q (o :: rest) a w :=
  wpList_value hg (exec_lookup_some hop KL ht hM hx hy h) hK
theorem wpList_lookup_none (hg : o.guard = none) (x y : Operand) (t : TypeId) (ok : Bool) (hop : o.op = .lookup t x y ok) (KL : KeyLaw P kt kv) (ht : P.underlying t = some (.map kt et)) (hM : MapAt w b kv vv m) {z : Value} (hz : (zeroValue et).run P w = .ok z w) (k : α) (hx : a.eval x = .map (some b)) (hy : a.eval y = kv k) (h : mget m k = none)
    (hK : wpList P ops Q rest (a.put o.dst (if ok then .tuple #[z, .bool false] else z)) w) : wpList P ops Q (o :: rest) a w :=
  wpList_value hg (exec_lookup_none hop KL ht hM hz hx hy h) hK
theorem wp_mapEntry (x y : Operand) (t : TypeId) (hop : o.op = .mapEntry t x y) (KL : KeyLaw P kt kv) (ht : P.underlying t = some (.map kt et)) (hM : MapAt w b kv vv m) {z : Value} (hz : (zeroValue et).run P w = .ok z w) (k : α) (hx : a.eval x = .map (some b)) (hy : a.eval y = kv k)
    (hK : ∀ (w' : World) (s : Nat), MapPend w' b kv vv m k s → Ext (at1 b) w w' → w'.heap.size = w.heap.size → K (a.put o.dst (.tuple #[((mget m k).map vv).getD z, .int .i64 (s : Int)])) w') : o.wp P a w K Q := by
  obtain ⟨w', s, hr, h1, h2, h3⟩ := exec_mapEntry (a := a) (w := w) hop KL ht hM hz hx hy
  exact wp_run_value hr (hK w' s h1 h2 h3)
theorem wp_entryStore (x y z : Operand) (t : TypeId) {s : Nat} (hop : o.op = .entryStore t x y z) (h : MapPend w b kv vv m k s) (hx : a.eval x = .map (some b)) (hy : a.eval y = .int .i64 (s : Int)) (v : β) (hz : a.eval z = vv v)
    (hK : ∀ w', MapAt w' b kv vv (mput m k v) → Ext (at1 b) w w' → w'.heap.size = w.heap.size → K (a.put o.dst undef) w') : o.wp P a w K Q := by
  obtain ⟨w', hr, h1, h2, h3⟩ := exec_entryStore (P := P) (a := a) (w := w) hop h hx hy hz
  exact wp_run_skip hr (hK w' h1 h2 h3)
theorem wp_mapUpdate (x y z : Operand) (t : TypeId) (hop : o.op = .mapUpdate t x y z) (KL : KeyLaw P kt kv) (ht : P.underlying t = some (.map kt et)) (hM : MapAt w b kv vv m) (k : α) (hx : a.eval x = .map (some b)) (hy : a.eval y = kv k) (v : β) (hz : a.eval z = vv v)
    (hK : ∀ w', MapAt w' b kv vv (mput m k v) → Ext (at1 b) w w' → w'.heap.size = w.heap.size → K (a.put o.dst undef) w') : o.wp P a w K Q := by
  obtain ⟨w', hr, h1, h2, h3⟩ := exec_mapUpdate (a := a) (w := w) hop KL ht hM hx hy hz
  exact wp_run_skip hr (hK w' h1 h2 h3)
theorem wp_lookup_some (x y : Operand) (t : TypeId) (ok : Bool) (hop : o.op = .lookup t x y ok) (KL : KeyLaw P kt kv) (ht : P.underlying t = some (.map kt et)) (hM : MapAt w b kv vv m) (k : α) (hx : a.eval x = .map (some b)) (hy : a.eval y = kv k) (v : β) (h : mget m k = some v)
    (hK : K (a.put o.dst (if ok then .tuple #[vv v, .bool true] else vv v)) w) : o.wp P a w K Q :=
  wp_run_value (exec_lookup_some hop KL ht hM hx hy h) hK
theorem wp_lookup_none (x y : Operand) (t : TypeId) (ok : Bool) (hop : o.op = .lookup t x y ok) (KL : KeyLaw P kt kv) (ht : P.underlying t = some (.map kt et)) (hM : MapAt w b kv vv m) {z : Value} (hz : (zeroValue et).run P w = .ok z w) (k : α) (hx : a.eval x = .map (some b)) (hy : a.eval y = kv k) (h : mget m k = none)
    (hK : K (a.put o.dst (if ok then .tuple #[z, .bool false] else z)) w) : o.wp P a w K Q :=
  wp_run_value (exec_lookup_none hop KL ht hM hz hx hy h) hK
theorem wpList_mapUpdate (hg : o.guard = none) (x y z : Operand) (t : TypeId) (hop : o.op = .mapUpdate t x y z) (KL : KeyLaw P kt kv) (ht : P.underlying t = some (.map kt et)) (hM : MapAt w b kv vv m) (k : α) (hx : a.eval x = .map (some b)) (hy : a.eval y = kv k) (v : β) (hz : a.eval z = vv v)
    (hK : ∀ w', MapAt w' b kv vv (mput m k v) → Ext (at1 b) w w' → w'.heap.size = w.heap.size → wpList P ops Q rest (a.put o.dst undef) w') : wpList P ops Q (o :: rest) a w :=
  wpList_plain hg fun _ hK' => wp_mapUpdate x y z t hop KL ht hM k hx hy v hz fun w' a1 a2 a3 => hK' _ _ (hK w' a1 a2 a3)
end
end Go.Proofs.YtiiaklaojlnokaaGreatDoor.B
