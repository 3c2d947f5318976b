/- Rows that a slice owns, lookups with any answer: laws that all packages use. -/
import Derived.Test.YtiiaklaojlnokaaGreatDoorTokNew
set_option linter.unusedVariables false
set_option linter.unusedSimpArgs false
namespace Go.Proofs.YtiiaklaojlnokaaGreatDoor.B
open Go Go.RowKit

theorem own_ext {S : Nat → Prop} {w w' : World} {B n size : Nat} {e : TypeId} {v : Value} {xs : List Value} (h : w.ownsRow B e size v n xs) (x : Ext S w w') (hs : ∀ k, rowOf v k → ¬ S k) : w'.ownsRow B e size v n xs := by
  refine ⟨h.1, ?_⟩
  rcases h.2 with h2 | ⟨g, cap, cur, hv, hg, hh, r⟩
  · exact .inl h2
  · exact .inr ⟨g, cap, cur, hv, hg, x.heap hh (hs g (by rw [hv]; rfl)), r⟩
theorem own_len {w : World} {B n size : Nat} {e : TypeId} {v : Value} {xs : List Value} (h : w.ownsRow B e size v n xs) : n ≤ 9223372036854775807 := by
  rcases h.2 with ⟨_, h2⟩ | ⟨g', cap, cur, he, _, _, h1, h2, _⟩
  · omega
  · simp only [maxLen] at h2; omega
/-- The owned row is of its type. -/
theorem own_row {w : World} {B n size : Nat} {e : TypeId} {v : Value} {xs : List Value} (h : w.ownsRow B e size v n xs) {k : Nat} (hk : rowOf v k) : (∃ cur, w.heap[k]? = some (.cells cur e (0, 0))) ∧ B ≤ k := by
  rcases h.2 with ⟨rfl, _⟩ | ⟨g, cap, cur, rfl, hg, hh, r⟩
  · simp [rowOf, Value.ownBlock] at hk
  · simp only [rowOf, Value.ownBlock, Option.some.injEq] at hk
    subst hk; exact ⟨⟨cur, hh⟩, hg⟩
theorem own_at {w : World} {B n size : Nat} {e : TypeId} {v : Value} {xs : List Value} (h : w.ownsRow B e size v n xs) : ∃ A c, v = .slice A n c ∧ RowAt w A xs := by
  rcases h.2 with ⟨rfl, rfl⟩ | ⟨g, cap, cur, rfl, hg, hh, r⟩
  · have hl := h.1
    refine ⟨none, 0, rfl, .inl ?_⟩
    exact List.length_eq_zero_iff.1 (by simpa using hl)
  · refine ⟨_, cap, rfl, .inr ⟨g, 0, rfl, fun j v hj => ?_⟩⟩
    have := h.cells (g := g) rfl j v hj
    have add : (⟨g, 0, none⟩ : Addr).add j = ⟨g, 0 + j, none⟩ := by unfold Addr.add; split <;> simp_all
    rwa [add] at this
theorem own_nil (w : World) (B : Nat) (e : TypeId) (size : Nat) : w.ownsRow B e size (.slice none 0 0) 0 [] := ⟨by simp, .inl ⟨rfl, rfl⟩⟩
section
variable {P : Program} {ops : Array Oper} {Q : Exit → Act → World → Prop} {rest : List Oper} {o : Oper} {a : Act} {w : World} {b : Nat} {α : Type} [DecidableEq α] {kv : α → Value} {kt et : TypeId} {m : List (α × Nat)} {K : Act → World → Prop}
/-- A lookup of a number, with any answer. -/
theorem wp_lookup_any (x y : Operand) (t : TypeId) (hop : o.op = .lookup t x y true) (KL : KeyLaw P kt kv) (ht : P.underlying t = some (.map kt et)) (hM : MapAt w b kv natV m) (hz : (zeroValue et).run P w = .ok (.int .i64 0) w) (k : α) (hx : a.eval x = .map (some b)) (hy : a.eval y = kv k)
    (hK : K (a.put o.dst (.tuple #[.int .i64 (((mget m k).getD 0 : Nat) : Int), .bool (mget m k).isSome])) w) : o.wp P a w K Q := by
  cases h : mget m k with
  | none => rw [h] at hK; exact wp_lookup_none x y t true hop KL ht hM hz k hx hy h hK
  | some v => rw [h] at hK; exact wp_lookup_some x y t true hop KL ht hM k hx hy v h hK
theorem wpList_lookup_any (hg : o.guard = none) (x y : Operand) (t : TypeId) (hop : o.op = .lookup t x y true) (KL : KeyLaw P kt kv) (ht : P.underlying t = some (.map kt et)) (hM : MapAt w b kv natV m) (hz : (zeroValue et).run P w = .ok (.int .i64 0) w) (k : α) (hx : a.eval x = .map (some b)) (hy : a.eval y = kv k)
    (hK : wpList P ops Q rest (a.put o.dst (.tuple #[.int .i64 (((mget m k).getD 0 : Nat) : Int), .bool (mget m k).isSome])) w) : wpList P ops Q (o :: rest) a w :=
  wpList_plain hg fun _ hK' => wp_lookup_any x y t hop KL ht hM hz k hx hy (hK' _ _ hK)
end
end Go.Proofs.YtiiaklaojlnokaaGreatDoor.B
