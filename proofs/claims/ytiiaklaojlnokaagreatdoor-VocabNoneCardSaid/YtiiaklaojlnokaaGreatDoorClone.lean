/- append of a whole list; package slices: Clone. -/
import Derived.Test.YtiiaklaojlnokaaGreatDoorRightB
import Derived.Laws.OwnMore
set_option linter.unusedVariables false
set_option linter.unusedSimpArgs false
namespace Go.Proofs.YtiiaklaojlnokaaGreatDoor.B
open Go Go.RowKit
set_option maxRecDepth 100000
set_option maxHeartbeats 1000000

section
variable {P : Program} {ops : Array Oper} {Q : Exit → Act → World → Prop} {rest : List Oper} {o : Oper} {a : Act} {w : World} {K : Act → World → Prop}
theorem run_append_zero (base : Nat) (t ty e : TypeId) (i : TypeInfo) (size : Nat) (ht : P.underlying t = some (.slice e)) (hi : P.info? e = some i)
    (v : Value) (n : Nat) (xs : List Value) (hown : w.ownsRow base e size v n xs) (A : Option Addr) (c : Nat) :
    (Builtin.append_ #[t, t] ty #[v, .slice A 0 c]).run P w = .ok v w := by
  have hl0 : ∀ ad : Addr, (loadCells ad 0).run P w = .ok #[] w := fun _ => rfl
  rcases hown.2 with ⟨rfl, rfl⟩ | ⟨g, cap, cur, rfl, _, _, hnc, _⟩
  · cases A <;> simp [hl0, Result.andThen, Builtin.append_, run_underlying ht, sizeOf, typeInfo, hi, Builtin.lenOf, Builtin.firstCells]
  · cases A <;> simp [hl0, Result.andThen, Builtin.append_, run_underlying ht, sizeOf, typeInfo, hi, Builtin.lenOf, Builtin.firstCells, hnc, storeCells]
/-- append(v, l...): v a list of the call's own, l any list. -/
theorem wp_appendL (hgd : o.guard = none) (s x : Operand) (t : TypeId) (hop : o.op = Op.call { callee := Callee.builtin Builtin.append, args := #[s, x], argTypes := #[t, t] })
    (base : Nat) (e : TypeId) {z : Value} {size bytes : Nat} (h1 : P.underlying t = some (.slice e)) (hinfo : (P.info? e).map (fun i => (i.zero, i.size, i.bytes)) = some (some z, size, bytes)) (hz : z.cells.size = size) (hs0 : 0 < size)
    (v : Value) (n : Nat) (xs : List Value) (hs : a.eval s = v) (hown : w.ownsRow base e size v n xs) (A : Option Addr) (m c : Nat) (hx : a.eval x = .slice A m c) (cs : List Value) (hR : RowAt w A cs) (hn : cs.length = m * size)
    (h1c : ∀ u ∈ cs, u.oneCell' = true) (hl : n + m ≤ maxLen) (hb : (n + m) * bytes ≤ 140737488355328) (hbase : base ≤ w.heap.size)
    (hK : ∀ (v' : Value) (w' : World), w'.ownsRow base e size v' (n + m) (xs ++ cs) → Ext (rowOf v) w w' → (∀ k, rowOf v' k → rowOf v k ∨ w.heap.size ≤ k) → K (a.put o.dst v') w') : o.wp P a w K Q := by
  by_cases hm : m = 0
  · subst hm
    have hcs : cs = [] := List.length_eq_zero_iff.1 (by omega)
    subst hcs
    obtain ⟨i0, hi, _⟩ := info_parts hinfo
    have hrun := run_append_zero (P := P) (w := w) base t o.type e i0 size h1 hi v n xs hown A c
    refine wp_run_value (v := v) (w' := w) (by simp [execOp, hop, resolve, invoke, builtin, hs, hx, hrun, Result.andThen]) ?_
    exact hK v w (by simpa using hown) (Ext.refl _ _) (fun k hk => .inl hk)
  · obtain ⟨b, of, rfl, hcs⟩ := hR.form (by rw [hn]; exact Nat.mul_pos (by omega) hs0)
    refine wp_append_own hgd s x t hop base e h1 hinfo hz hs0 v n xs hs hown ⟨b, of, none⟩ m c cs hx hn (fun j u hj => ?_) h1c (by omega) hl hb hbase ?_
    · have hadd : (⟨b, of, none⟩ : Addr).add j = ⟨b, of + j, none⟩ := by unfold Addr.add; split <;> simp_all
      rw [hadd]; exact hcs j u hj
    · intro g cap w' h2 h3 h4 h5
      refine hK _ w' h2 ((Ext.refl (rowOf v) w).grown h3 (fun k hk _ => hk)) ?_
      intro k hk
      simp only [rowOf, Value.ownBlock, Option.some.injEq] at hk
      subst hk
      rcases h4 with h4 | h4
      · exact .inl h4
      · right; omega
theorem wpList_appendL (hgd : o.guard = none) (s x : Operand) (t : TypeId) (hop : o.op = Op.call { callee := Callee.builtin Builtin.append, args := #[s, x], argTypes := #[t, t] })
    (base : Nat) (e : TypeId) {z : Value} {size bytes : Nat} (h1 : P.underlying t = some (.slice e)) (hinfo : (P.info? e).map (fun i => (i.zero, i.size, i.bytes)) = some (some z, size, bytes)) (hz : z.cells.size = size) (hs0 : 0 < size)
    (v : Value) (n : Nat) (xs : List Value) (hs : a.eval s = v) (hown : w.ownsRow base e size v n xs) (A : Option Addr) (m c : Nat) (hx : a.eval x = .slice A m c) (cs : List Value) (hR : RowAt w A cs) (hn : cs.length = m * size)
    (h1c : ∀ u ∈ cs, u.oneCell' = true) (hl : n + m ≤ maxLen) (hb : (n + m) * bytes ≤ 140737488355328) (hbase : base ≤ w.heap.size)
    (hK : ∀ (v' : Value) (w' : World), w'.ownsRow base e size v' (n + m) (xs ++ cs) → Ext (rowOf v) w w' → (∀ k, rowOf v' k → rowOf v k ∨ w.heap.size ≤ k) → wpList P ops Q rest (a.put o.dst v') w') : wpList P ops Q (o :: rest) a w :=
  wpList_plain hgd fun _ hK' => wp_appendL hgd s x t hop base e h1 hinfo hz hs0 v n xs hs hown A m c hx cs hR hn h1c hl hb hbase fun v' w' a1 a2 a3 => hK' _ _ (hK v' w' a1 a2 a3)
end
theorem i_merge : (Tryz.prog.info? 54).map (fun i => (i.zero, i.size, i.bytes)) = some (some (.agg #[.int .i64 0, .int .i64 0]), 2, 16) := by kernel_rfl
theorem i_join : (Tryz.prog.info? 87).map (fun i => (i.zero, i.size, i.bytes)) = some (some (.agg #[.int .i64 0, .int .i64 0]), 2, 16) := by kernel_rfl
theorem i_class : (Tryz.prog.info? 58).map (fun i => (i.zero, i.size, i.bytes)) = some (some (.agg #[.int .i64 0, .int .i64 0, .int .i64 0]), 3, 24) := by kernel_rfl
theorem i_text : (Tryz.prog.info? 9).map (fun i => (i.zero, i.size, i.bytes)) = some (some (.string ByteArray.empty), 1, 16) := by kernel_rfl
theorem clone_merge (w : World) (A : Option Addr) (c : Nat) (xs : List (Int × Int)) (hR : RowAt w A (xs.flatMap mergeC)) (hn : xs.length ≤ 1048576) :
    Calls Tryz.prog 79 #[.slice A xs.length c] w fun e w' => ∃ v, e = .returned v ∧ Ext no w w' ∧ w'.ownsRow w.heap.size 54 2 v xs.length (xs.flatMap mergeC) := by
  have hlen := flatMap_len mergeC 2 (fun _ => rfl) xs
  have heq0 : ∀ (n c : Nat) (w : World), (binOp BinOp.eql 27 (Value.slice none n c) (Value.slice none 0 0)).run Tryz.prog w = .ok (.bool true) w := fun _ _ _ => rfl
  have heq1 : ∀ (ad : Addr) (n c : Nat) (w : World), (binOp BinOp.eql 27 (Value.slice (some ad) n c) (Value.slice none 0 0)).run Tryz.prog w = .ok (.bool false) w := fun _ _ _ _ => rfl
  have h1c : ∀ u ∈ xs.flatMap mergeC, u.oneCell' = true := by
    intro u hu
    simp only [List.mem_flatMap, mergeC, List.mem_cons, List.not_mem_nil, or_false] at hu
    obtain ⟨_, _, hu⟩ := hu
    first | (rcases hu with rfl | rfl | rfl <;> rfl) | (rcases hu with rfl | rfl <;> rfl) | (subst hu; rfl)
  cases A with
  | none =>
    have hz : xs.flatMap mergeC = [] := by
      rcases hR with h | ⟨b, o, h, _⟩
      · exact h
      · cases h
    have hx : xs = [] := by
      cases xs with
      | nil => rfl
      | cons x xs => rw [hz] at hlen; simp at hlen
    subst hx
    go_enter Tryz.func79, Tryz.ntmps79
    go_wp2
    go_ret
    exact ⟨_, rfl, Ext.refl _ _, own_nil _ _ _ _⟩
  | some ad =>
    go_enter Tryz.func79, Tryz.ntmps79
    go_wp2_with (at_builtin; refine wpList_appendL rfl _ _ _ rfl w.heap.size 54 Tryz.underlying27 i_merge rfl (by decide) (.slice (some ⟨w.heap.size, 0, none⟩) 0 0) 0 [] rfl (World.ownsRow_lit w #[] 0 (Nat.le_refl _) (by decide) rfl) (some ad) xs.length c rfl (xs.flatMap mergeC) (hR.ext ((Ext.refl no w).alloc _) (fun _ _ _ => not_no _)) hlen h1c (by unfold maxLen; omega) (by omega) (by simp) ?_; intro v' w' hown e2 hv')
    have e3 : Ext no w w' := ((Ext.refl no w).alloc _).then e2 (fun i hi hr => absurd hi (by simp only [rowOf, Value.ownBlock, Option.some.injEq] at hr; omega))
    go_ret
    refine ⟨v', rfl, e3, ?_⟩
    simpa using hown
theorem clone_text (w : World) (A : Option Addr) (c : Nat) (xs : List (ByteArray)) (hR : RowAt w A (xs.flatMap textC)) (hn : xs.length ≤ 1048576) :
    Calls Tryz.prog 80 #[.slice A xs.length c] w fun e w' => ∃ v, e = .returned v ∧ Ext no w w' ∧ w'.ownsRow w.heap.size 9 1 v xs.length (xs.flatMap textC) := by
  have hlen := flatMap_len textC 1 (fun _ => rfl) xs
  have heq0 : ∀ (n c : Nat) (w : World), (binOp BinOp.eql 28 (Value.slice none n c) (Value.slice none 0 0)).run Tryz.prog w = .ok (.bool true) w := fun _ _ _ => rfl
  have heq1 : ∀ (ad : Addr) (n c : Nat) (w : World), (binOp BinOp.eql 28 (Value.slice (some ad) n c) (Value.slice none 0 0)).run Tryz.prog w = .ok (.bool false) w := fun _ _ _ _ => rfl
  have h1c : ∀ u ∈ xs.flatMap textC, u.oneCell' = true := by
    intro u hu
    simp only [List.mem_flatMap, textC, List.mem_cons, List.not_mem_nil, or_false] at hu
    obtain ⟨_, _, hu⟩ := hu
    first | (rcases hu with rfl | rfl | rfl <;> rfl) | (rcases hu with rfl | rfl <;> rfl) | (subst hu; rfl)
  cases A with
  | none =>
    have hz : xs.flatMap textC = [] := by
      rcases hR with h | ⟨b, o, h, _⟩
      · exact h
      · cases h
    have hx : xs = [] := by
      cases xs with
      | nil => rfl
      | cons x xs => rw [hz] at hlen; simp at hlen
    subst hx
    go_enter Tryz.func80, Tryz.ntmps80
    go_wp2
    go_ret
    exact ⟨_, rfl, Ext.refl _ _, own_nil _ _ _ _⟩
  | some ad =>
    go_enter Tryz.func80, Tryz.ntmps80
    go_wp2_with (at_builtin; refine wpList_appendL rfl _ _ _ rfl w.heap.size 9 Tryz.underlying28 i_text rfl (by decide) (.slice (some ⟨w.heap.size, 0, none⟩) 0 0) 0 [] rfl (World.ownsRow_lit w #[] 0 (Nat.le_refl _) (by decide) rfl) (some ad) xs.length c rfl (xs.flatMap textC) (hR.ext ((Ext.refl no w).alloc _) (fun _ _ _ => not_no _)) hlen h1c (by unfold maxLen; omega) (by omega) (by simp) ?_; intro v' w' hown e2 hv')
    have e3 : Ext no w w' := ((Ext.refl no w).alloc _).then e2 (fun i hi hr => absurd hi (by simp only [rowOf, Value.ownBlock, Option.some.injEq] at hr; omega))
    go_ret
    refine ⟨v', rfl, e3, ?_⟩
    simpa using hown
theorem clone_special (w : World) (A : Option Addr) (c : Nat) (xs : List (Int × ByteArray)) (hR : RowAt w A (xs.flatMap specialC)) (hn : xs.length ≤ 1048576) :
    Calls Tryz.prog 81 #[.slice A xs.length c] w fun e w' => ∃ v, e = .returned v ∧ Ext no w w' ∧ w'.ownsRow w.heap.size 56 2 v xs.length (xs.flatMap specialC) := by
  have hlen := flatMap_len specialC 2 (fun _ => rfl) xs
  have heq0 : ∀ (n c : Nat) (w : World), (binOp BinOp.eql 29 (Value.slice none n c) (Value.slice none 0 0)).run Tryz.prog w = .ok (.bool true) w := fun _ _ _ => rfl
  have heq1 : ∀ (ad : Addr) (n c : Nat) (w : World), (binOp BinOp.eql 29 (Value.slice (some ad) n c) (Value.slice none 0 0)).run Tryz.prog w = .ok (.bool false) w := fun _ _ _ _ => rfl
  have h1c : ∀ u ∈ xs.flatMap specialC, u.oneCell' = true := by
    intro u hu
    simp only [List.mem_flatMap, specialC, List.mem_cons, List.not_mem_nil, or_false] at hu
    obtain ⟨_, _, hu⟩ := hu
    first | (rcases hu with rfl | rfl | rfl <;> rfl) | (rcases hu with rfl | rfl <;> rfl) | (subst hu; rfl)
  cases A with
  | none =>
    have hz : xs.flatMap specialC = [] := by
      rcases hR with h | ⟨b, o, h, _⟩
      · exact h
      · cases h
    have hx : xs = [] := by
      cases xs with
      | nil => rfl
      | cons x xs => rw [hz] at hlen; simp at hlen
    subst hx
    go_enter Tryz.func81, Tryz.ntmps81
    go_wp2
    go_ret
    exact ⟨_, rfl, Ext.refl _ _, own_nil _ _ _ _⟩
  | some ad =>
    go_enter Tryz.func81, Tryz.ntmps81
    go_wp2_with (at_builtin; refine wpList_appendL rfl _ _ _ rfl w.heap.size 56 Tryz.underlying29 i_special rfl (by decide) (.slice (some ⟨w.heap.size, 0, none⟩) 0 0) 0 [] rfl (World.ownsRow_lit w #[] 0 (Nat.le_refl _) (by decide) rfl) (some ad) xs.length c rfl (xs.flatMap specialC) (hR.ext ((Ext.refl no w).alloc _) (fun _ _ _ => not_no _)) hlen h1c (by unfold maxLen; omega) (by omega) (by simp) ?_; intro v' w' hown e2 hv')
    have e3 : Ext no w w' := ((Ext.refl no w).alloc _).then e2 (fun i hi hr => absurd hi (by simp only [rowOf, Value.ownBlock, Option.some.injEq] at hr; omega))
    go_ret
    refine ⟨v', rfl, e3, ?_⟩
    simpa using hown
theorem clone_class (w : World) (A : Option Addr) (c : Nat) (xs : List (Int × Int × Int)) (hR : RowAt w A (xs.flatMap classC)) (hn : xs.length ≤ 1048576) :
    Calls Tryz.prog 82 #[.slice A xs.length c] w fun e w' => ∃ v, e = .returned v ∧ Ext no w w' ∧ w'.ownsRow w.heap.size 58 3 v xs.length (xs.flatMap classC) := by
  have hlen := flatMap_len classC 3 (fun _ => rfl) xs
  have heq0 : ∀ (n c : Nat) (w : World), (binOp BinOp.eql 30 (Value.slice none n c) (Value.slice none 0 0)).run Tryz.prog w = .ok (.bool true) w := fun _ _ _ => rfl
  have heq1 : ∀ (ad : Addr) (n c : Nat) (w : World), (binOp BinOp.eql 30 (Value.slice (some ad) n c) (Value.slice none 0 0)).run Tryz.prog w = .ok (.bool false) w := fun _ _ _ _ => rfl
  have h1c : ∀ u ∈ xs.flatMap classC, u.oneCell' = true := by
    intro u hu
    simp only [List.mem_flatMap, classC, List.mem_cons, List.not_mem_nil, or_false] at hu
    obtain ⟨_, _, hu⟩ := hu
    first | (rcases hu with rfl | rfl | rfl <;> rfl) | (rcases hu with rfl | rfl <;> rfl) | (subst hu; rfl)
  cases A with
  | none =>
    have hz : xs.flatMap classC = [] := by
      rcases hR with h | ⟨b, o, h, _⟩
      · exact h
      · cases h
    have hx : xs = [] := by
      cases xs with
      | nil => rfl
      | cons x xs => rw [hz] at hlen; simp at hlen
    subst hx
    go_enter Tryz.func82, Tryz.ntmps82
    go_wp2
    go_ret
    exact ⟨_, rfl, Ext.refl _ _, own_nil _ _ _ _⟩
  | some ad =>
    go_enter Tryz.func82, Tryz.ntmps82
    go_wp2_with (at_builtin; refine wpList_appendL rfl _ _ _ rfl w.heap.size 58 Tryz.underlying30 i_class rfl (by decide) (.slice (some ⟨w.heap.size, 0, none⟩) 0 0) 0 [] rfl (World.ownsRow_lit w #[] 0 (Nat.le_refl _) (by decide) rfl) (some ad) xs.length c rfl (xs.flatMap classC) (hR.ext ((Ext.refl no w).alloc _) (fun _ _ _ => not_no _)) hlen h1c (by unfold maxLen; omega) (by omega) (by simp) ?_; intro v' w' hown e2 hv')
    have e3 : Ext no w w' := ((Ext.refl no w).alloc _).then e2 (fun i hi hr => absurd hi (by simp only [rowOf, Value.ownBlock, Option.some.injEq] at hr; omega))
    go_ret
    refine ⟨v', rfl, e3, ?_⟩
    simpa using hown
theorem clone_join (w : World) (A : Option Addr) (c : Nat) (xs : List (Int × Int)) (hR : RowAt w A (xs.flatMap joinC)) (hn : xs.length ≤ 1048576) :
    Calls Tryz.prog 83 #[.slice A xs.length c] w fun e w' => ∃ v, e = .returned v ∧ Ext no w w' ∧ w'.ownsRow w.heap.size 87 2 v xs.length (xs.flatMap joinC) := by
  have hlen := flatMap_len joinC 2 (fun _ => rfl) xs
  have heq0 : ∀ (n c : Nat) (w : World), (binOp BinOp.eql 31 (Value.slice none n c) (Value.slice none 0 0)).run Tryz.prog w = .ok (.bool true) w := fun _ _ _ => rfl
  have heq1 : ∀ (ad : Addr) (n c : Nat) (w : World), (binOp BinOp.eql 31 (Value.slice (some ad) n c) (Value.slice none 0 0)).run Tryz.prog w = .ok (.bool false) w := fun _ _ _ _ => rfl
  have h1c : ∀ u ∈ xs.flatMap joinC, u.oneCell' = true := by
    intro u hu
    simp only [List.mem_flatMap, joinC, List.mem_cons, List.not_mem_nil, or_false] at hu
    obtain ⟨_, _, hu⟩ := hu
    first | (rcases hu with rfl | rfl | rfl <;> rfl) | (rcases hu with rfl | rfl <;> rfl) | (subst hu; rfl)
  cases A with
  | none =>
    have hz : xs.flatMap joinC = [] := by
      rcases hR with h | ⟨b, o, h, _⟩
      · exact h
      · cases h
    have hx : xs = [] := by
      cases xs with
      | nil => rfl
      | cons x xs => rw [hz] at hlen; simp at hlen
    subst hx
    go_enter Tryz.func83, Tryz.ntmps83
    go_wp2
    go_ret
    exact ⟨_, rfl, Ext.refl _ _, own_nil _ _ _ _⟩
  | some ad =>
    go_enter Tryz.func83, Tryz.ntmps83
    go_wp2_with (at_builtin; refine wpList_appendL rfl _ _ _ rfl w.heap.size 87 Tryz.underlying31 i_join rfl (by decide) (.slice (some ⟨w.heap.size, 0, none⟩) 0 0) 0 [] rfl (World.ownsRow_lit w #[] 0 (Nat.le_refl _) (by decide) rfl) (some ad) xs.length c rfl (xs.flatMap joinC) (hR.ext ((Ext.refl no w).alloc _) (fun _ _ _ => not_no _)) hlen h1c (by unfold maxLen; omega) (by omega) (by simp) ?_; intro v' w' hown e2 hv')
    have e3 : Ext no w w' := ((Ext.refl no w).alloc _).then e2 (fun i hi hr => absurd hi (by simp only [rowOf, Value.ownBlock, Option.some.injEq] at hr; omega))
    go_ret
    refine ⟨v', rfl, e3, ?_⟩
    simpa using hown
end Go.Proofs.YtiiaklaojlnokaaGreatDoor.B
