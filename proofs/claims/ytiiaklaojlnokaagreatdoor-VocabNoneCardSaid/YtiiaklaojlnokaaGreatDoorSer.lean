/- A statement whose order is open, walked once: in one order that takes what has no effect as early as it may; whatever may come later is shown to yield the same behind each effect. No condition on the program. -/
import Derived.OrdersHeld
import Derived.Deep.RegionHeld3
import Derived.Deep.AppendLies
import Derived.Test.YtiiaklaojlnokaaGreatDoorBase
set_option linter.unusedVariables false
set_option linter.unusedSimpArgs false
namespace Go.Proofs.YtiiaklaojlnokaaGreatDoor.B
open Go Go.RowKit

/-- What an operation yields, at this world. -/
def yAt (P : Program) (ops : Array Oper) (o : Oper) (v : Value) (a : Act) (w : World) : Prop :=
  (Region.wanted o (yielded ops a.tmps) = true ∧ (execOp a.eval o).run P w = .ok (.value v) w) ∨ (Region.wanted o (yielded ops a.tmps) = false ∧ v = undef)

def noSel (o : Oper) : Bool := match o.op with | .select _ _ => false | _ => true
theorem noSel_spec {o : Oper} (h : noSel o = true) : ∀ cs b, o.op ≠ .select cs b := by
  intro cs b e; simp [noSel, e] at h

/-- y waits for x, over at most so many edges. -/
def befF (ops : Array Oper) : Nat → Nat → Nat → Bool
  | 0, _, _ => false
  | n + 1, y, x => match ops[y]? with
    | none => false
    | some o => (o.after.toList.any fun e => Region.binds .any e && e.on == x) || (o.after.toList.any fun e => Region.binds .any e && befF ops n e.on x)

/-- An item: the operation's number, whether it has an effect, what must be shown again behind it. -/
abbrev It := Nat × Bool × List Nat
def hasDst (o : Oper) (l : List Tmp) : Bool := match o.dst with | some d => l.contains d | none => false
def sameDst (x y : Oper) : Bool := match x.dst, y.dst with | some d, some e => d == e | _, _ => false
def okPair (ops : Array Oper) (x y : It) (ox oy : Oper) : Bool :=
  x.1 != y.1 && !sameDst ox oy && !hasDst oy (ox.looksAt ops) && (!hasDst ox (oy.looksAt ops) || befF ops 6 y.1 x.1) && (!x.2.1 || befF ops 6 y.1 x.1) &&
  (!y.2.1 || x.2.1 || befF ops 6 y.1 x.1 || y.2.2.contains x.1)
def okItem (ops : Array Oper) (pre : List It) (y : It) : Bool :=
  match ops[y.1]? with
  | none => false
  | some oy => noSel oy && !hasDst oy (oy.looksAt ops) && (oy.after.all fun e => !Region.binds .any e || pre.any fun x => x.1 == e.on) && (y.2.1 || oy.dst.isSome) &&
    pre.all fun x => match ops[x.1]? with
      | none => false
      | some ox => okPair ops x y ox oy
def okAll (ops : Array Oper) : List It → List It → Bool
  | _, [] => true
  | pre, y :: r => okItem ops pre y && okAll ops (pre ++ [y]) r
def serOk (ops : Array Oper) (C : List It) : Bool := okAll ops [] C && C.length == ops.size && (List.range ops.size).all fun i => C.any fun x => x.1 == i

section
variable {P : Program} {ops : Array Oper} {Q : Exit → Act → World → Prop}

def agn (P : Program) (ops : Array Oper) (j : Nat) (a : Act) (w : World) : Prop := ∃ o d v, ops[j]? = some o ∧ o.dst = some d ∧ a.tmps[d]? = some v ∧ yAt P ops o v a w
def effAt (P : Program) (ops : Array Oper) (Q : Exit → Act → World → Prop) (o : Oper) (a : Act) (w : World) (K : Act → World → Prop) : Prop :=
  if Region.wanted o (yielded ops a.tmps) = true then o.wp P a w K Q else K (a.put o.dst undef) w
def serC (P : Program) (ops : Array Oper) (Q : Exit → Act → World → Prop) : List It → Act → World → Prop
  | [], a, w => Q .normal a w
  | (i, false, _) :: r, a, w => ∃ o v, ops[i]? = some o ∧ yAt P ops o v a w ∧ serC P ops Q r (a.put o.dst v) w
  | (i, true, ag) :: r, a, w => ∃ o, ops[i]? = some o ∧ effAt P ops Q o a w fun a' w' => (∀ j ∈ ag, agn P ops j a' w') ∧ serC P ops Q r a' w'

/-- Operations that wait, with what they yield, each in the frame behind those ahead of it. -/
def fl (P : Program) (ops : Array Oper) (w : World) (K : Act → Prop) : List (Nat × Value) → Act → Prop
  | [], a => K a
  | (i, v) :: r, a => ∃ o, ops[i]? = some o ∧ yAt P ops o v a w ∧ fl P ops w K r (a.put o.dst v)
def dstOf (ops : Array Oper) (i : Nat) : Option Tmp := (ops[i]?).bind (·.dst)
def putAll (ops : Array Oper) : List (Nat × Value) → Act → Act
  | [], a => a
  | (i, v) :: r, a => putAll ops r (a.put (dstOf ops i) v)

theorem dstOf_eq {i : Nat} {o : Oper} (h : ops[i]? = some o) : dstOf ops i = o.dst := by simp [dstOf, h]

theorem yAt_put {o : Oper} {v u : Value} {a : Act} {w : World} {dst : Option Tmp} (hs : noSel o = true) (h : ∀ d, dst = some d → d ∉ o.looksAt ops) : yAt P ops o v (a.put dst u) w ↔ yAt P ops o v a w := by
  unfold yAt
  rw [wanted_put o a dst u h, execOp_put o (noSel_spec hs) a dst u h]

/-- Two operations that don't meet. -/
structure Apart (ops : Array Oper) (x y : Oper) : Prop where
  a : ∀ d, x.dst = some d → d ∉ y.looksAt ops
  b : ∀ d, x.dst = some d → y.dst ≠ some d
  c : ∀ d, y.dst = some d → d ∉ x.looksAt ops

theorem fl_append {w : World} {K : Act → Prop} : ∀ (F G : List (Nat × Value)) (a : Act), fl P ops w K (F ++ G) a ↔ fl P ops w (fun a => fl P ops w K G a) F a
  | [], _, _ => Iff.rfl
  | (i, v) :: F, G, a => by
    simp only [List.cons_append, fl]
    constructor
    · rintro ⟨o, h1, h2, h3⟩; exact ⟨o, h1, h2, (fl_append F G _).1 h3⟩
    · rintro ⟨o, h1, h2, h3⟩; exact ⟨o, h1, h2, (fl_append F G _).2 h3⟩
theorem fl_mono {w : World} {K K' : Act → Prop} (h : ∀ a, K a → K' a) : ∀ (F : List (Nat × Value)) (a : Act), fl P ops w K F a → fl P ops w K' F a
  | [], a, hk => h a hk
  | (i, v) :: F, a, ⟨o, h1, h2, h3⟩ => ⟨o, h1, h2, fl_mono h F _ h3⟩
theorem fl_put {w : World} {K : Act → Prop} : ∀ (F : List (Nat × Value)) (a : Act), fl P ops w K F a → K (putAll ops F a)
  | [], _, h => h
  | (i, v) :: F, a, ⟨o, h1, h2, h3⟩ => by
    simp only [putAll, dstOf_eq h1]
    exact fl_put F _ h3

theorem fl_front {w : World} {K : Act → Prop} {i : Nat} {v : Value} {oi : Oper} (hi : ops[i]? = some oi) (hsi : noSel oi = true) : ∀ (F G : List (Nat × Value)) (a : Act),
    (∀ x ∈ F, ∃ ox, ops[x.1]? = some ox ∧ noSel ox = true ∧ Apart ops ox oi) → fl P ops w K (F ++ (i, v) :: G) a → yAt P ops oi v a w ∧ fl P ops w K (F ++ G) (a.put oi.dst v)
  | [], G, a, _, ⟨o, h1, h2, h3⟩ => by
    rw [hi] at h1; cases h1
    exact ⟨h2, h3⟩
  | (h, u) :: F, G, a, hA, ⟨o, h1, h2, h3⟩ => by
    obtain ⟨ox, hx, hsx, hap⟩ := hA (h, u) (.head _)
    rw [h1] at hx; cases hx
    obtain ⟨g1, g2⟩ := fl_front hi hsi F G _ (fun x hx => hA x (.tail _ hx)) h3
    refine ⟨(yAt_put hsi hap.a).1 g1, o, h1, (yAt_put hsx hap.c).2 h2, ?_⟩
    rw [← Act.put_comm a u v hap.b]
    exact g2

theorem effAt_mono {o : Oper} {a : Act} {w : World} {K K' : Act → World → Prop} (h : ∀ a w, K a w → K' a w) (hh : effAt P ops Q o a w K) : effAt P ops Q o a w K' := by
  unfold effAt at *
  split
  · rename_i hw; rw [if_pos hw] at hh; exact Oper.wp_mono h hh
  · rename_i hw; rw [if_neg hw] at hh; exact h _ _ hh

theorem effAt_put {oi oj : Oper} {v : Value} (hap : Apart ops oi oj) (hsj : noSel oj = true) (hQ : ∀ c a a' w, Q (.panic c) a w → Q (.panic c) a' w) {K : Act → World → Prop} {a : Act} {w : World}
    (h : effAt P ops Q oj (a.put oi.dst v) w K) : effAt P ops Q oj a w fun a' w' => K (a'.put oi.dst v) w' := by
  unfold effAt at *
  rw [wanted_put oj a oi.dst v hap.a] at h
  split
  · rename_i hw
    rw [if_pos hw] at h
    unfold Oper.wp at *
    rw [execOp_put oj (noSel_spec hsj) a oi.dst v hap.a] at h
    generalize (execOp a.eval oj).run P w = r at *
    cases r with
    | ok n w' =>
      cases n <;> simp only [Oper.upon] at h ⊢
      case value u => rw [← Act.put_comm a v u hap.b]; exact h
      case skip => rw [← Act.put_comm a v undef hap.b]; exact h
      case defer d =>
        rw [← Act.put_comm _ v undef hap.b, ← Act.put_defers]
        exact h
      case enter f args =>
        refine Calls.mono h fun e w'' he => ?_
        cases e with
        | returned u => simp only [] at he ⊢; rw [← Act.put_comm a v u hap.b]; exact he
        | panicked c => exact hQ _ _ _ _ he
        | outgrown => exact he
      case row row args => exact Rows.mono h fun u w'' he => by rw [← Act.put_comm a v u hap.b]; exact he
    | halt x w' =>
      cases x <;> simp only [Oper.upon] at h ⊢
      case panic u => exact hQ _ _ _ _ h
  · rename_i hw
    rw [if_neg hw] at h
    rw [← Act.put_comm a v undef hap.b]; exact h

theorem effAt_front {w : World} {K : Act → World → Prop} {oj : Oper} (hsj : noSel oj = true) (hQ : ∀ c a a' w, Q (.panic c) a w → Q (.panic c) a' w) : ∀ (F : List (Nat × Value)) (a : Act),
    (∀ x ∈ F, ∃ ox, ops[x.1]? = some ox ∧ Apart ops ox oj) → fl P ops w (fun a => effAt P ops Q oj a w K) F a → effAt P ops Q oj a w fun a' w' => K (putAll ops F a') w'
  | [], _, _, h => h
  | (i, v) :: F, a, hA, ⟨o, h1, h2, h3⟩ => by
    obtain ⟨ox, hx, hap⟩ := hA (i, v) (.head _)
    rw [h1] at hx; cases hx
    have ih := effAt_front hsj hQ F _ (fun x hx => hA x (.tail _ hx)) h3
    have := effAt_put hap hsj hQ ih
    refine effAt_mono (fun a' w' hk => ?_) this
    simp only [putAll, dstOf_eq h1]
    exact hk

/-- From what all yield in the last frame. -/
theorem fl_of_all {w : World} {K : Act → Prop} : ∀ (F : List (Nat × Value)) (a : Act),
    F.Pairwise (fun x y => ∀ ox, ops[x.1]? = some ox → ∀ d, dstOf ops y.1 = some d → d ∉ ox.looksAt ops) →
    (∀ x ∈ F, ∃ ox, ops[x.1]? = some ox ∧ noSel ox = true ∧ (∀ d, ox.dst = some d → d ∉ ox.looksAt ops) ∧ yAt P ops ox x.2 (putAll ops F a) w) → K (putAll ops F a) → fl P ops w K F a
  | [], _, _, _, hk => hk
  | (i, v) :: F, a, hp, hy, hk => by
    obtain ⟨ox, hx, hs, hself, hya⟩ := hy (i, v) (.head _)
    rw [List.pairwise_cons] at hp
    have strip : ∀ (G : List (Nat × Value)) (b : Act), (∀ y ∈ G, ∀ d, dstOf ops y.1 = some d → d ∉ ox.looksAt ops) → (yAt P ops ox v (putAll ops G b) w ↔ yAt P ops ox v b w) := by
      intro G
      induction G with
      | nil => intro b _; rfl
      | cons g G ih =>
        intro b hG
        simp only [putAll]
        rw [ih _ (fun y hy => hG y (.tail _ hy)), yAt_put hs (hG g (.head _))]
    refine ⟨ox, hx, ?_, fl_of_all F _ hp.2 (fun x hxF => ?_) ?_⟩
    · simp only [putAll, dstOf_eq hx] at hya
      rw [strip F _ (fun y hy => hp.1 y hy ox hx)] at hya
      exact (yAt_put hs hself).1 hya
    · obtain ⟨o, h1, h2, h3, h4⟩ := hy x (.tail _ hxF)
      refine ⟨o, h1, h2, h3, ?_⟩
      simp only [putAll, dstOf_eq hx] at h4
      exact h4
    · simp only [putAll, dstOf_eq hx] at hk
      exact hk

theorem putAll_slot : ∀ (F : List (Nat × Value)) (a : Act) {i : Nat} {v u : Value} {d : Tmp}, (i, v) ∈ F → dstOf ops i = some d → F.Pairwise (fun x y => ∀ e, dstOf ops x.1 = some e → dstOf ops y.1 ≠ some e) → (putAll ops F a).tmps[d]? = some u → u = v
  | [], _, _, _, _, _, hm, _, _, _ => by cases hm
  | (j, x) :: F, a, i, v, u, d, hm, hd, hp, hu => by
    rw [List.pairwise_cons] at hp
    have other : ∀ (G : List (Nat × Value)) (b : Act), (∀ y ∈ G, dstOf ops y.1 ≠ some d) → (putAll ops G b).tmps[d]? = b.tmps[d]? := by
      intro G
      induction G with
      | nil => intro b _; rfl
      | cons g G ih =>
        intro b hG
        simp only [putAll]
        rw [ih _ (fun y hy => hG y (.tail _ hy))]
        have hne := hG g (.head _)
        cases hg : dstOf ops g.1 with
        | none => rfl
        | some e =>
          rw [hg] at hne
          simp only [Act.put]
          exact Array.getElem?_setIfInBounds_ne (fun e' => hne (by rw [e']))
    rcases List.mem_cons.1 hm with h | h
    · cases h
      simp only [putAll] at hu
      rw [other F _ (fun y hy => hp.1 y hy d hd), hd] at hu
      simp only [Act.put, Array.getElem?_setIfInBounds] at hu
      split at hu
      · split at hu
        · cases hu; rfl
        · cases hu
      · rename_i h'; exact absurd trivial h'
    · simp only [putAll] at hu
      exact putAll_slot F _ h hd hp.2 hu

/-- What has no effect, ahead of the next effect, waits. -/
theorem serC_unroll {w : World} : ∀ (R : List It) (a : Act), serC P ops Q R a w → ∃ (F : List (Nat × Value)) (R' : List It) (N : List It), R = N ++ R' ∧ N.map (·.1) = F.map (·.1) ∧ (∀ x ∈ N, x.2.1 = false) ∧ (∀ x, R'.head? = some x → x.2.1 = true) ∧ fl P ops w (fun a => serC P ops Q R' a w) F a
  | [], a, h => ⟨[], [], [], rfl, rfl, (by simp), (by simp), h⟩
  | (i, true, ag) :: R, a, h => ⟨[], (i, true, ag) :: R, [], rfl, rfl, (by simp), (by simp), h⟩
  | (i, false, ag) :: R, a, ⟨o, v, h1, h2, h3⟩ => by
    obtain ⟨F, R', N, e1, e2, e3, e4, h⟩ := serC_unroll R _ h3
    refine ⟨(i, v) :: F, R', (i, false, ag) :: N, by rw [e1]; rfl, by simp [e2], ?_, e4, o, h1, h2, h⟩
    intro x hx
    rcases List.mem_cons.1 hx with rfl | hx
    · rfl
    · exact e3 x hx

def PairOk (ops : Array Oper) (x y : It) : Prop := ∃ ox oy, ops[x.1]? = some ox ∧ ops[y.1]? = some oy ∧ okPair ops x y ox oy = true
theorem okAll_spec : ∀ (C pre : List It), okAll ops pre C = true → ∀ p y r, C = p ++ y :: r → okItem ops (pre ++ p) y = true
  | [], _, _, p, y, r, e => by cases p <;> cases e
  | x :: C, pre, h, p, y, r, e => by
    simp only [okAll, Bool.and_eq_true] at h
    cases p with
    | nil => simp only [List.nil_append, List.cons.injEq] at e; rw [← e.1, List.append_nil]; exact h.1
    | cons z p =>
      simp only [List.cons_append, List.cons.injEq] at e
      have := okAll_spec C (pre ++ [x]) h.2 p y r e.2
      rw [← e.1]; simpa using this
theorem okItem_spec {pre : List It} {y : It} (h : okItem ops pre y = true) : ∃ oy, ops[y.1]? = some oy ∧ noSel oy = true ∧ (∀ d, oy.dst = some d → d ∉ oy.looksAt ops) ∧
    (∀ e ∈ oy.after, Region.binds .any e = true → ∃ x ∈ pre, x.1 = e.on) ∧ ∀ x ∈ pre, PairOk ops x y := by
  unfold okItem at h
  cases ho : ops[y.1]? with
  | none => rw [ho] at h; cases h
  | some oy =>
    rw [ho] at h
    simp only [Bool.and_eq_true] at h
    obtain ⟨⟨⟨⟨h1, h2⟩, h3⟩, h4⟩, h5⟩ := h
    refine ⟨oy, rfl, h1, ?_, ?_, ?_⟩
    · intro d hd hm
      simp [hasDst, hd, hm] at h2
    · intro e he hb
      have := Array.all_eq_true_iff_forall_mem.1 h3 e he
      simp only [hb, Bool.not_true, Bool.false_or, List.any_eq_true, beq_iff_eq] at this
      exact this
    · intro x hx
      have := List.all_eq_true.1 h5 x hx
      cases hox : ops[x.1]? with
      | none => rw [hox] at this; cases this
      | some ox => rw [hox] at this; exact ⟨ox, oy, hox, ho, this⟩
theorem okAll_pairwise {C : List It} (h : okAll ops [] C = true) : C.Pairwise (PairOk ops) := by
  rw [List.pairwise_iff_forall_sublist]
  intro x y hxy
  -- x, y stand in C in this order
  have : ∃ p q r, C = p ++ x :: q ++ y :: r := by
    have gen : ∀ C : List It, [x, y].Sublist C → ∃ p q r, C = p ++ x :: q ++ y :: r := by
      intro C
      induction C with
      | nil => intro h; cases h
      | cons z C ih =>
        intro h
        cases h with
        | cons _ h => obtain ⟨p, q, r, e⟩ := ih h; exact ⟨z :: p, q, r, by rw [e]; rfl⟩
        | cons_cons _ h =>
          have hm : y ∈ C := h.subset (.head _)
          obtain ⟨q, r, e⟩ := List.append_of_mem hm
          exact ⟨[], q, r, by rw [e]; rfl⟩
    exact gen C hxy
  obtain ⟨p, q, r, e⟩ := this
  obtain ⟨_, _, _, _, _, h5⟩ := okItem_spec (okAll_spec C [] h (p ++ x :: q) y r e)
  exact h5 x (by simp)
theorem pair_ne {x y : It} (h : PairOk ops x y) : x.1 ≠ y.1 := by
  obtain ⟨ox, oy, _, _, h⟩ := h
  simp only [okPair, Bool.and_eq_true] at h
  simpa using h.1.1.1.1.1
theorem befF_listed {L : Array Bool} (hc : ∀ i o, L.getD i false = true → ops[i]? = some o → ∀ e ∈ o.after, Region.binds .any e = true → L.getD e.on false = true) : ∀ (n y x : Nat) (oy : Oper), ops[y]? = some oy →
    (∀ e ∈ oy.after, Region.binds .any e = true → L.getD e.on false = true) → befF ops n y x = true → L.getD x false = true
  | 0, _, _, _, _, _, h => by cases h
  | n + 1, y, x, oy, ho, he, h => by
    simp only [befF, ho, Bool.or_eq_true, List.any_eq_true, Array.mem_toList_iff] at h
    rcases h with ⟨e, hm, h⟩ | ⟨e, hm, h⟩
    · simp only [Bool.and_eq_true, beq_iff_eq] at h
      rw [← h.2]; exact he e hm h.1
    · simp only [Bool.and_eq_true] at h
      have hl := he e hm h.1
      cases hoe : ops[e.on]? with
      | none => cases n <;> simp [befF, hoe] at h
      | some oe => exact befF_listed hc n e.on x oe hoe (hc e.on oe hl hoe) h.2
theorem sub_tail {α : Type} : ∀ {pre : List α} {y : α} {t post : List α}, (y :: t).Sublist (pre ++ y :: post) → y ∉ pre → t.Sublist post
  | [], y, t, post, h, _ => by
    cases h with
    | cons _ h => exact (List.sublist_cons_self _ _).trans h
    | cons_cons _ h => exact h
  | z :: pre, y, t, post, h, hn => by
    cases h with
    | cons _ h => exact sub_tail h (fun hm => hn (.tail _ hm))
    | cons_cons _ h => exact absurd (.head _) hn

abbrev Gs := List (It × Value)
def gv (G : Gs) : List (Nat × Value) := G.map fun g => (g.1.1, g.2)
theorem gv_zip : ∀ (N : List It) (F : List (Nat × Value)), N.map (·.1) = F.map (·.1) → gv (N.zip (F.map (·.2))) = F
  | [], [], _ => rfl
  | [], _ :: _, h => by simp at h
  | _ :: _, [], h => by simp at h
  | x :: N, f :: F, h => by
    simp only [List.map_cons, List.cons.injEq] at h
    have ih := gv_zip N F h.2
    simp only [gv, List.map_cons, List.zip_cons_cons, List.cons.injEq] at ih ⊢
    exact ⟨by rw [h.1], ih⟩
structure Inv (P : Program) (ops : Array Oper) (Q : Exit → Act → World → Prop) (C : List It) (L : Array Bool) (a : Act) (w : World) (G : Gs) (R : List It) : Prop where
  size : L.size = ops.size
  pend : ∀ i, i < ops.size → (L.getD i true = false ↔ i ∈ G.map (·.1.1) ∨ i ∈ R.map (·.1))
  sub : (G.map (·.1) ++ R).Sublist C
  non : ∀ g ∈ G, g.1.2.1 = false
  suf : ∃ pre, C = pre ++ R
  head : ∀ x, R.head? = some x → x.2.1 = true
  closed : ∀ i o, L.getD i false = true → ops[i]? = some o → ∀ e ∈ o.after, Region.binds .any e = true → L.getD e.on false = true
  run : fl P ops w (fun a => serC P ops Q R a w) (gv G) a

theorem getD_set (L : Array Bool) (i j : Nat) (d : Bool) (hi : i < L.size) : (L.setIfInBounds i true).getD j d = if j = i then true else L.getD j d := by
  by_cases h : j = i
  · subst h; simp [hi]
  · rw [if_neg h]; exact getD_set_ne d (Ne.symm h)
theorem getD_false_of {L : Array Bool} {i : Nat} (hi : i < L.size) : L.getD i false = !(decide (L.getD i true = false)) := by
  simp [hi]

theorem ser_inv {C : List It} (hC : serOk ops C = true) (hQ : ∀ c a a' w, Q (.panic c) a w → Q (.panic c) a' w) : ∀ (m : Nat) (L : Array Bool) (a : Act) (w : World) (G : Gs) (R : List It),
    G.length + R.length = m → Inv P ops Q C L a w G R → wpAny P .any ops Q m L a w := by
  simp only [serOk, Bool.and_eq_true] at hC
  obtain ⟨⟨hall, hlen⟩, hcov⟩ := hC
  have hpw := okAll_pairwise hall
  have hnd : (C.map (·.1)).Nodup := List.pairwise_map.2 (hpw.imp fun h => pair_ne h)
  have hin : ∀ y ∈ C, ∃ oy, ops[y.1]? = some oy ∧ noSel oy = true ∧ (∀ d, oy.dst = some d → d ∉ oy.looksAt ops) := fun y hy => by
    obtain ⟨p, r, e⟩ := List.append_of_mem hy
    obtain ⟨oy, h1, h2, h3, _⟩ := okItem_spec (okAll_spec C [] hall p y r e)
    exact ⟨oy, h1, h2, h3⟩
  intro m
  induction m with
  | zero =>
    intro L a w G R hm I
    obtain rfl : G = [] := List.eq_nil_of_length_eq_zero (by omega)
    obtain rfl : R = [] := List.eq_nil_of_length_eq_zero (by omega)
    refine ⟨?_, I.run⟩
    cases hr : Region.ready .any ops L with
    | nil => rfl
    | cons i rs =>
      have : i ∈ Region.ready .any ops L := by rw [hr]; exact .head _
      obtain ⟨h0, o, ho, _⟩ := mem_ready.1 this
      have hlt := (Array.getElem?_eq_some_iff.1 ho).1
      have := (I.pend i hlt).1 h0
      simp at this
  | succ m ih =>
    intro L a w G R hm I
    -- what is pending, in order
    have hpwP := hpw.sublist I.sub
    have pending : ∀ x, x ∈ G.map (·.1) ++ R → L.getD x.1 false = false := by
      intro x hx
      have hxC := I.sub.subset hx
      obtain ⟨ox, hox, _⟩ := hin x hxC
      have hlt := (Array.getElem?_eq_some_iff.1 hox).1
      have : L.getD x.1 true = false := (I.pend x.1 hlt).2 (by
        rcases List.mem_append.1 hx with h | h
        · left
          obtain ⟨g, hg, e⟩ := List.mem_map.1 h
          exact List.mem_map.2 ⟨g, hg, by rw [e]⟩
        · exact .inr (List.mem_map.2 ⟨x, h, rfl⟩))
      rw [getD_false_of (by rw [I.size]; exact hlt), this]; rfl
    refine ⟨fun hr => ?_, fun i hi => ?_⟩
    · -- the first of them is ready
      exfalso
      obtain ⟨y, t, hyt⟩ : ∃ y t, G.map (·.1) ++ R = y :: t := by
        cases h : G.map (·.1) ++ R with
        | nil =>
          have := congrArg List.length h
          rw [List.length_append, List.length_map] at this
          simp only [List.length_nil] at this
          omega
        | cons y t => exact ⟨y, t, rfl⟩
      have hy : y ∈ C := I.sub.subset (by rw [hyt]; exact .head _)
      obtain ⟨p, r, e⟩ := List.append_of_mem hy
      obtain ⟨oy, hoy, _, _, htop, _⟩ := okItem_spec (okAll_spec C [] hall p y r e)
      have hnp : y ∉ p := by
        intro hm
        rw [e, List.map_append, List.nodup_append] at hnd
        exact hnd.2.2 y.1 (List.mem_map.2 ⟨y, hm, rfl⟩) y.1 (by simp) rfl
      have hsub := I.sub
      rw [hyt, e] at hsub
      have ht := sub_tail hsub hnp
      have : y.1 ∈ Region.ready .any ops L := by
        have hlt := (Array.getElem?_eq_some_iff.1 hoy).1
        refine mem_ready.2 ⟨?_, oy, hoy, fun ed hed hb => ?_⟩
        · have := pending y (by rw [hyt]; exact .head _)
          rw [getD_false_of (by rw [I.size]; exact hlt)] at this
          simpa using this
        · obtain ⟨x, hx, hxe⟩ := htop ed hed hb
          simp only [List.nil_append] at hx
          have hxC : x ∈ C := by rw [e]; simp [hx]
          obtain ⟨ox, hox, _⟩ := hin x hxC
          have hltx := (Array.getElem?_eq_some_iff.1 hox).1
          rw [← hxe, getD_false_of (by rw [I.size]; exact hltx)]
          simp only [Bool.not_eq_true', decide_eq_false_iff_not]
          intro hf
          have hxp : x.1 ∈ (y :: t).map (·.1) := by
            rw [← hyt, List.map_append]
            rcases (I.pend x.1 hltx).1 hf with h | h
            · exact List.mem_append_left _ (by simpa using h)
            · exact List.mem_append_right _ h
          rw [e, List.map_append, List.nodup_append] at hnd
          refine hnd.2.2 x.1 (List.mem_map.2 ⟨x, hx, rfl⟩) x.1 ?_ rfl
          rw [List.map_cons] at hxp ⊢
          rcases List.mem_cons.1 hxp with h | h
          · rw [h]; exact .head _
          · exact .tail _ ((ht.map _).subset h)
      rw [hr] at this; cases this
    · obtain ⟨h0, oi, hoi, hedges⟩ := mem_ready.1 hi
      have hlt := (Array.getElem?_eq_some_iff.1 hoi).1
      have hltL : i < L.size := by rw [I.size]; exact hlt
      have nobef : ∀ x, x ∈ G.map (·.1) ++ R → befF ops 6 i x.1 = false := by
        intro x hx
        cases hb : befF ops 6 i x.1 with
        | false => rfl
        | true =>
          have := befF_listed I.closed 6 i x.1 oi hoi hedges hb
          rw [pending x hx] at this; cases this
      have closed' : ∀ j o, (L.setIfInBounds i true).getD j false = true → ops[j]? = some o → ∀ e ∈ o.after, Region.binds .any e = true → (L.setIfInBounds i true).getD e.on false = true := by
        intro j o hj ho e he hb
        rw [getD_set _ _ _ _ hltL] at hj ⊢
        split
        · rfl
        · split at hj
          · rename_i hji
            subst hji
            rw [hoi] at ho; cases ho
            exact hedges e he hb
          · exact I.closed j o hj ho e he hb
      rcases (I.pend i hlt).1 h0 with hG | hR
      · -- it waits for nothing: it yields
        obtain ⟨g, hg, hgi⟩ := List.mem_map.1 hG
        obtain ⟨G1, G2, rfl⟩ := List.append_of_mem hg
        have hapart : ∀ x ∈ gv G1, ∃ ox, ops[x.1]? = some ox ∧ noSel ox = true ∧ Apart ops ox oi := by
          intro x hx
          obtain ⟨h, hh, rfl⟩ := List.mem_map.1 hx
          have hmem : h.1 ∈ ((G1 ++ g :: G2).map (·.1)) ++ R := List.mem_append_left _ (List.mem_map.2 ⟨h, List.mem_append_left _ hh, rfl⟩)
          obtain ⟨ox, hox, hsx, _⟩ := hin h.1 (I.sub.subset hmem)
          have hp : PairOk ops h.1 g.1 := by
            have := (List.pairwise_append.1 hpwP).1
            rw [List.map_append, List.map_cons] at this
            exact (List.pairwise_append.1 this).2.2 h.1 (List.mem_map.2 ⟨h, hh, rfl⟩) g.1 (.head _)
          obtain ⟨ox', oy', e1, e2, hk⟩ := hp
          rw [hox] at e1; cases e1
          rw [hgi, hoi] at e2; cases e2
          have hb := nobef h.1 hmem
          simp only [okPair, Bool.and_eq_true, hgi, hb, Bool.or_false] at hk
          obtain ⟨⟨⟨⟨⟨_, k2⟩, k3⟩, k4⟩, _⟩, _⟩ := hk
          refine ⟨ox, hox, hsx, ⟨fun d hd hm => ?_, fun d hd hd' => ?_, fun d hd hm => ?_⟩⟩
          · simp [hasDst, hd, hm] at k4
          · simp [sameDst, hd, hd'] at k2
          · simp [hasDst, hd, hm] at k3
        have hsi : noSel oi = true := by
          obtain ⟨o, ho, hs, _⟩ := hin g.1 (I.sub.subset (List.mem_append_left _ (List.mem_map.2 ⟨g, hg, rfl⟩)))
          rw [hgi, hoi] at ho; cases ho; exact hs
        have hrun := I.run
        have hgv : gv (G1 ++ g :: G2) = gv G1 ++ (i, g.2) :: gv G2 := by simp [gv, hgi]
        rw [hgv] at hrun
        obtain ⟨y1, y2⟩ := fl_front hoi hsi (gv G1) (gv G2) a hapart hrun
        have I' : Inv P ops Q C (L.setIfInBounds i true) (a.put oi.dst g.2) w (G1 ++ G2) R := by
          refine ⟨by simp [I.size], fun j hj => ?_, ?_, fun x hx => I.non x (by
            rcases List.mem_append.1 hx with h | h
            · exact List.mem_append_left _ h
            · exact List.mem_append_right _ (.tail _ h)), I.suf, I.head, closed', by rw [show gv (G1 ++ G2) = gv G1 ++ gv G2 by simp [gv]]; exact y2⟩
          · rw [getD_set _ _ _ _ hltL]
            by_cases hji : j = i
            · subst hji
              simp only [if_true, Bool.true_eq_false, false_iff]
              have hsubn : ((G1 ++ g :: G2).map (·.1) ++ R).map (·.1) |>.Nodup := (I.sub.map _).nodup hnd
              simp only [List.map_append, List.map_cons, List.map_map, List.append_assoc, List.cons_append] at hsubn
              rw [List.nodup_append] at hsubn
              have hn2 := hsubn.2.1
              rw [List.nodup_cons] at hn2
              rintro (h | h)
              · rw [List.map_append] at h
                rcases List.mem_append.1 h with h | h
                · exact hsubn.2.2 j (by simpa [Function.comp_def] using h) j (by rw [hgi]; exact .head _) rfl
                · exact hn2.1 (by rw [hgi]; exact List.mem_append_left _ (by simpa [Function.comp_def] using h))
              · exact hn2.1 (by rw [hgi]; exact List.mem_append_right _ h)
            · rw [if_neg hji, I.pend j hj]
              simp only [List.map_append, List.map_cons, List.mem_append, List.mem_cons, hgi, hji, false_or]
          · refine List.Sublist.trans ?_ I.sub
            refine List.Sublist.append ?_ (List.Sublist.refl _)
            rw [List.map_append, List.map_append, List.map_cons]
            exact List.Sublist.append (List.Sublist.refl _) (List.sublist_cons_self _ _)
        have hK := ih _ _ _ (G1 ++ G2) R (by simp at hm ⊢; omega) I'
        unfold wpOp
        simp only [hoi]
        rcases y1 with ⟨hw, hv⟩ | ⟨hw, hu⟩
        · simp only [hw, if_true, Oper.wp, hv, Oper.upon]; exact .inl hK
        · simp only [hw, Bool.false_eq_true, if_false]; rw [hu] at hK; exact hK
      · -- the next effect
        cases R with
        | nil => simp at hR
        | cons e R' =>
          have heff : e.2.1 = true := I.head e rfl
          have hei : e.1 = i := by
            rw [List.map_cons] at hR
            rcases List.mem_cons.1 hR with h | h
            · exact h.symm
            · exfalso
              obtain ⟨y, hy, hyi⟩ := List.mem_map.1 h
              have hp : PairOk ops e y := by
                have := (List.pairwise_append.1 hpwP).2.1
                rw [List.pairwise_cons] at this
                exact this.1 y hy
              obtain ⟨ox, oy, e1, e2, hk⟩ := hp
              simp only [okPair, Bool.and_eq_true, heff, Bool.not_true, Bool.false_or] at hk
              have hb := hk.1.2
              rw [hyi, nobef e (List.mem_append_right _ (.head _))] at hb
              cases hb
          obtain ⟨n, eff, ag⟩ := e
          simp only at heff hei
          subst heff hei
          have hse : noSel oi = true := by
            obtain ⟨o, ho, hs, _⟩ := hin (n, true, ag) (I.sub.subset (List.mem_append_right _ (.head _)))
            rw [hoi] at ho; cases ho; exact hs
          have hGp : ∀ g ∈ G, PairOk ops g.1 (n, true, ag) := fun g hg =>
            (List.pairwise_append.1 hpwP).2.2 g.1 (List.mem_map.2 ⟨g, hg, rfl⟩) _ (.head _)
          have hmemG : ∀ g ∈ G, g.1 ∈ G.map (·.1) ++ (n, true, ag) :: R' := fun g hg => List.mem_append_left _ (List.mem_map.2 ⟨g, hg, rfl⟩)
          have hapart : ∀ x ∈ gv G, ∃ ox, ops[x.1]? = some ox ∧ Apart ops ox oi := by
            intro x hx
            obtain ⟨h, hh, rfl⟩ := List.mem_map.1 hx
            obtain ⟨ox, oy, e1, e2, hk⟩ := hGp h hh
            rw [hoi] at e2; cases e2
            have hb := nobef h.1 (hmemG h hh)
            simp only [okPair, Bool.and_eq_true, hb, Bool.or_false] at hk
            obtain ⟨⟨⟨⟨⟨_, k2⟩, k3⟩, k4⟩, _⟩, _⟩ := hk
            refine ⟨ox, e1, ⟨fun d hd hm => ?_, fun d hd hd' => ?_, fun d hd hm => ?_⟩⟩
            · simp [hasDst, hd, hm] at k4
            · simp [sameDst, hd, hd'] at k2
            · simp [hasDst, hd, hm] at k3
          have hag : ∀ g ∈ G, g.1.1 ∈ ag := by
            intro g hg
            obtain ⟨ox, oy, e1, e2, hk⟩ := hGp g hg
            have hb := nobef g.1 (hmemG g hg)
            simp only [okPair, Bool.and_eq_true, hb, I.non g hg, Bool.or_false, Bool.not_true, Bool.false_or] at hk
            simpa using hk.2
          have hrun := fl_mono (K' := fun a => effAt P ops Q oi a w fun a' w' => (∀ j ∈ ag, agn P ops j a' w') ∧ serC P ops Q R' a' w') (fun b hb => by
            obtain ⟨o, ho, h⟩ := hb
            rw [hoi] at ho; cases ho; exact h) _ _ I.run
          have hfront := effAt_front hse hQ (gv G) a hapart hrun
          have hGdst : (gv G).Pairwise (fun x y => ∀ e, dstOf ops x.1 = some e → dstOf ops y.1 ≠ some e) := by
            have := (List.pairwise_append.1 hpwP).1
            unfold gv
            rw [List.pairwise_map] at this ⊢
            refine this.imp fun {x y} hp e hx hy => ?_
            obtain ⟨ox, oy, e1, e2, hk⟩ := hp
            simp only [dstOf_eq e1] at hx
            simp only [dstOf_eq e2] at hy
            simp only [okPair, Bool.and_eq_true] at hk
            have k2 := hk.1.1.1.1.2
            simp [sameDst, hx, hy] at k2
          have hGlook : (gv G).Pairwise (fun x y => ∀ ox, ops[x.1]? = some ox → ∀ d, dstOf ops y.1 = some d → d ∉ ox.looksAt ops) := by
            have := (List.pairwise_append.1 hpwP).1
            unfold gv
            rw [List.pairwise_map] at this ⊢
            refine this.imp fun {x y} hp ox hox d hd hm => ?_
            obtain ⟨ox', oy, e1, e2, hk⟩ := hp
            simp only at hox hd
            rw [hox] at e1; cases e1
            simp only [dstOf_eq e2] at hd
            simp only [okPair, Bool.and_eq_true] at hk
            have k3 := hk.1.1.1.2
            simp [hasDst, hd, hm] at k3
          have goal : effAt P ops Q oi a w (wpAny P .any ops Q m (L.setIfInBounds n true)) := by
            refine effAt_mono (fun a' w' hk => ?_) hfront
            obtain ⟨hagn, hser⟩ := hk
            obtain ⟨F', R'', N, eR, eN, eNon, eHead, hfl⟩ := serC_unroll R' _ hser
            have hlen' : N.length = F'.length := by have := congrArg List.length eN; simpa using this
            -- what waits: G, then N with F''s values
            have hzip : gv (N.zip (F'.map (·.2))) = F' := gv_zip N F' eN
            refine ih _ _ _ (G ++ N.zip (F'.map (·.2))) R'' ?_ ?_
            · have := congrArg List.length eR
              simp at this hm ⊢
              omega
            · have hNz : (N.zip (F'.map (·.2))).map (·.1) = N := by
                rw [List.map_fst_zip]; simp [hlen']
              refine ⟨by simp [I.size], fun j hj => ?_, ?_, fun g hg => ?_, ?_, eHead, closed', ?_⟩
              · rw [getD_set _ _ _ _ hltL]
                have hsubn : ((G.map (·.1) ++ (n, true, ag) :: R').map (·.1)).Nodup := (I.sub.map _).nodup hnd
                rw [List.map_append, List.map_cons, List.nodup_append] at hsubn
                have hn2 := hsubn.2.1
                rw [List.nodup_cons] at hn2
                have hNG : (G ++ N.zip (F'.map (·.2))).map (·.1.1) = G.map (·.1.1) ++ N.map (·.1) := by
                  rw [List.map_append]
                  congr 1
                  have h2 := congrArg (List.map (·.1)) hNz
                  rw [List.map_map] at h2
                  exact h2
                have hRR : R'.map (·.1) = N.map (·.1) ++ R''.map (·.1) := by rw [eR, List.map_append]
                rw [hNG]
                by_cases hji : j = n
                · subst hji
                  simp only [if_true, Bool.true_eq_false, false_iff]
                  rintro (h | h)
                  · rcases List.mem_append.1 h with h | h
                    · exact hsubn.2.2 j (by simpa [List.map_map, Function.comp_def] using h) j (.head _) rfl
                    · exact hn2.1 (by rw [hRR]; exact List.mem_append_left _ h)
                  · exact hn2.1 (by rw [hRR]; exact List.mem_append_right _ h)
                · rw [if_neg hji, I.pend j hj, List.map_cons, hRR]
                  simp only [List.mem_append, List.mem_cons, hji, false_or, or_assoc]
              · refine List.Sublist.trans ?_ I.sub
                rw [List.map_append, hNz, List.append_assoc, ← eR]
                exact List.Sublist.append (List.Sublist.refl _) (List.sublist_cons_self _ _)
              · rcases List.mem_append.1 hg with h | h
                · exact I.non g h
                · exact eNon g.1 (by rw [← hNz]; exact List.mem_map.2 ⟨g, h, rfl⟩)
              · obtain ⟨pre, ep⟩ := I.suf
                exact ⟨pre ++ (n, true, ag) :: N, by rw [ep, eR]; simp⟩
              · have hg2 : gv (G ++ N.zip (F'.map (·.2))) = gv G ++ F' := by
                  rw [show gv (G ++ N.zip (F'.map (·.2))) = gv G ++ gv (N.zip (F'.map (·.2))) by simp [gv], hzip]
                rw [hg2, fl_append]
                refine fl_of_all (gv G) a' hGlook (fun x hx => ?_) hfl
                obtain ⟨g, hg, rfl⟩ := List.mem_map.1 hx
                obtain ⟨ox, hox, hsx, hself⟩ := hin g.1 (I.sub.subset (hmemG g hg))
                refine ⟨ox, hox, hsx, hself, ?_⟩
                obtain ⟨o, d, v, h1, h2, h3, h4⟩ := hagn g.1.1 (hag g hg)
                rw [hox] at h1; cases h1
                have := putAll_slot (gv G) a' (i := g.1.1) (v := g.2) hx (by rw [dstOf_eq hox]; exact h2) hGdst h3
                rw [this] at h4
                exact h4
          unfold effAt at goal
          unfold wpOp
          simp only [hoi]
          split
          · rename_i hw; rw [if_pos hw] at goal; exact .inl goal
          · rename_i hw; rw [if_neg hw] at goal; exact goal

theorem noPanic_any {Q : Exit → Act → World → Prop} (c : List PanicEntry) (a a' : Act) (w : World) (h : NoPanic Q (.panic c) a w) : NoPanic Q (.panic c) a' w := h
theorem wp_region_ser {id : Nat} {l : List Oper} {a : Act} {w : World} (C : List It) (hm : P.follows .mixedOrders = true) (hC : serOk l.toArray C = true)
    (h : serC P l.toArray (NoPanic Q) C a w.drew) : (Code.region id l.toArray true).wp P Q a w := by
  refine wp_region_noPanic (wp_region_any hm ?_)
  have hC0 := hC
  simp only [serOk, Bool.and_eq_true] at hC0
  obtain ⟨⟨hall, hlen⟩, hcov⟩ := hC0
  obtain ⟨F, R, N, e1, e2, e3, e4, h⟩ := serC_unroll C a h
  have hl : N.length = F.length := by have := congrArg List.length e2; simpa using this
  have hNz : (N.zip (F.map (·.2))).map (·.1) = N := by rw [List.map_fst_zip]; simp [hl]
  have hlC : C.length = l.toArray.size := by simpa using hlen
  refine ser_inv hC noPanic_any l.toArray.size (Array.replicate l.toArray.size false) a w.drew (N.zip (F.map (·.2))) R ?_ ?_
  · rw [← hlC, e1]; simp [hl]
  · refine ⟨by simp, fun i hi => ?_, ?_, fun g hg => ?_, ⟨N, e1⟩, e4, fun i o hl' => ?_, ?_⟩
    · have hf : (Array.replicate l.toArray.size false).getD i true = false := by
        have hi' : i < l.length := by simpa using hi
        simp [Array.getD, hi']
      rw [hf]
      simp only [true_iff]
      have := List.all_eq_true.1 hcov i (List.mem_range.2 hi)
      simp only [List.any_eq_true, beq_iff_eq] at this
      obtain ⟨x, hx, hxi⟩ := this
      rw [e1] at hx
      rcases List.mem_append.1 hx with h' | h'
      · left
        have h2 := congrArg (List.map (·.1)) hNz
        rw [List.map_map] at h2
        have : i ∈ N.map (·.1) := List.mem_map.2 ⟨x, h', hxi⟩
        rw [← h2] at this
        exact this
      · exact .inr (List.mem_map.2 ⟨x, h', hxi⟩)
    · rw [hNz, ← e1]; exact List.Sublist.refl _
    · exact e3 g.1 (by rw [← hNz]; exact List.mem_map.2 ⟨g, hg, rfl⟩)
    · simp [Array.getD] at hl'
    · rw [gv_zip N F e2]; exact h

/-! ### the walk's steps -/
def quietKind (o : Oper) : Bool := match o.op with
  | .move _ | .assign _ | .pick _ _ _ | .build _ _ | .load _ _ | .nilCheck _ | .binOp _ _ _ _ _ | .unOp _ _ _ | .convert _ _ _ | .makeInterface _ _ | .makeFunc _ _ _ | .slice _ _ _ _ _ | .fieldAddr _ _ _ | .field _ _ _
  | .indexAddr _ _ _ | .index _ _ _ | .lookup _ _ _ _ | .extract _ _ => true
  | .call { callee := .builtin .len, .. } | .call { callee := .builtin .cap, .. } | .call { callee := .builtin .min, .. } | .call { callee := .builtin .max, .. } => true
  | _ => false
theorem run_v {s : Sem Value} {w : World} : (∃ v w', ((do pure (.value (← s)) : Sem Next)).run P w = .ok (.value v) w') ∨ ∃ h w', ((do pure (.value (← s)) : Sem Next)).run P w = .halt h w' := by
  simp only [Sem.run_bind]
  cases s.run P w with
  | ok v w' => exact .inl ⟨v, w', rfl⟩
  | halt h w' => exact .inr ⟨h, w', rfl⟩
theorem quiet_run {o : Oper} {ρ : Operand → Value} {w : World} (h : quietKind o = true) : (∃ v w', (execOp ρ o).run P w = .ok (.value v) w') ∨ ∃ x w', (execOp ρ o).run P w = .halt x w' := by
  unfold quietKind at h
  unfold execOp
  split at h <;> rename_i heq <;> simp only [heq]
  case h_1 => exact .inl ⟨_, _, rfl⟩
  case h_2 => exact .inl ⟨_, _, rfl⟩
  case h_3 => 
    simp only [Sem.run_bind]
    cases (asBool _).run P w with
    | ok v w' => exact .inl ⟨_, w', rfl⟩
    | halt h w' => exact .inr ⟨h, w', rfl⟩
  case h_6 =>
    split
    · exact .inr ⟨_, _, rfl⟩
    · exact .inr ⟨_, _, rfl⟩
    · exact .inr ⟨_, _, rfl⟩
    · split
      · exact .inr ⟨_, _, rfl⟩
      · simp only [Sem.run_bind]
        generalize (Sem.run P program w) = r1
        cases r1 with
        | halt h w' => exact .inr ⟨h, w', rfl⟩
        | ok p w1 =>
          simp only [Result.andThen_ok]
          generalize (Sem.run P (nilAhead _ _ _ _) w1) = r2
          cases r2 with
          | halt h w' => exact .inr ⟨h, w', rfl⟩
          | ok q w2 =>
            simp only [Result.andThen_ok]
            split
            · exact .inr ⟨_, _, rfl⟩
            · exact .inl ⟨_, _, rfl⟩
      · exact .inl ⟨_, _, rfl⟩
    · exact .inl ⟨_, _, rfl⟩
  all_goals first | exact run_v | (simp only [resolve, invoke, Sem.run_bind, Sem.run_pure, Result.andThen_ok, builtin]; exact run_v) | (cases h)

theorem toA {l : List Oper} {i : Nat} {o : Oper} (h : l[i]? = some o) : l.toArray[i]? = some o := by simpa using h
section
variable {l : List Oper}
/-- An operation without an effect. -/
theorem ser_next {i : Nat} {ag : List Nat} {r : List It} {a : Act} {w : World} {o : Oper} (ho : l[i]? = some o) (hk : quietKind o = true) (hw : Region.wanted o (yielded l.toArray a.tmps) = true)
    (h : ∀ K : Act → World → Prop, (∀ a', serC P l.toArray Q r a' w → K a' w) → o.wp P a w K (fun _ _ _ => False)) : serC P l.toArray Q ((i, false, ag) :: r) a w := by
  have := h (fun a' w' => w' = w ∧ serC P l.toArray Q r a' w) (fun a' h => ⟨rfl, h⟩)
  unfold Oper.wp at this
  rcases quiet_run (P := P) (ρ := a.eval) (w := w) hk with ⟨v, w', hr⟩ | ⟨x, w', hr⟩
  · rw [hr] at this
    obtain ⟨rfl, h2⟩ := this
    exact ⟨o, v, toA ho, .inl ⟨hw, hr⟩, h2⟩
  · rw [hr] at this
    exfalso
    cases x <;> exact this
theorem ser_off {i : Nat} {ag : List Nat} {r : List It} {a : Act} {w : World} {o : Oper} (ho : l[i]? = some o) (hw : Region.wanted o (yielded l.toArray a.tmps) = false)
    (h : serC P l.toArray Q r (a.put o.dst undef) w) : serC P l.toArray Q ((i, false, ag) :: r) a w := ⟨o, undef, toA ho, .inr ⟨hw, rfl⟩, h⟩
/-- An operation with an effect. -/
theorem ser_eff {i : Nat} {ag : List Nat} {r : List It} {a : Act} {w : World} {o : Oper} (ho : l[i]? = some o) (hw : Region.wanted o (yielded l.toArray a.tmps) = true)
    (h : ∀ K : Act → World → Prop, (∀ a' w', (∀ j ∈ ag, agn P l.toArray j a' w') → serC P l.toArray Q r a' w' → K a' w') → o.wp P a w K Q) : serC P l.toArray Q ((i, true, ag) :: r) a w :=
  ⟨o, toA ho, by unfold effAt; rw [if_pos hw]; exact h _ (fun a' w' h1 h2 => ⟨h1, h2⟩)⟩
theorem ser_eff_off {i : Nat} {ag : List Nat} {r : List It} {a : Act} {w : World} {o : Oper} (ho : l[i]? = some o) (hw : Region.wanted o (yielded l.toArray a.tmps) = false)
    (h1 : ∀ j ∈ ag, agn P l.toArray j (a.put o.dst undef) w) (h : serC P l.toArray Q r (a.put o.dst undef) w) : serC P l.toArray Q ((i, true, ag) :: r) a w :=
  ⟨o, toA ho, by unfold effAt; rw [if_neg (by rw [hw]; exact Bool.false_ne_true)]; exact ⟨h1, h⟩⟩
theorem ag_nil {a : Act} {w : World} : ∀ j ∈ ([] : List Nat), agn P l.toArray j a w := fun _ h => by cases h
theorem ag_cons {j : Nat} {ag : List Nat} {a : Act} {w : World} {o : Oper} {d : Tmp} {v : Value} (ho : l[j]? = some o) (hk : quietKind o = true) (hd : o.dst = some d) (hv : a.tmps[d]? = some v) (hw : Region.wanted o (yielded l.toArray a.tmps) = true)
    (h : ∀ K : Act → World → Prop, K (a.put (some d) v) w → o.wp P a w K (fun _ _ _ => False)) (hs : ∀ j ∈ ag, agn P l.toArray j a w) : ∀ i ∈ j :: ag, agn P l.toArray i a w := fun i hi => by
  rcases List.mem_cons.1 hi with rfl | hi
  · refine ⟨o, d, v, toA ho, hd, hv, .inl ⟨hw, ?_⟩⟩
    have := h (fun a' w' => a' = a.put (some d) v ∧ w' = w) ⟨rfl, rfl⟩
    unfold Oper.wp at this
    rcases quiet_run (P := P) (ρ := a.eval) (w := w) hk with ⟨u, w', hr⟩ | ⟨x, w', hr⟩
    · rw [hr] at this
      obtain ⟨h1, rfl⟩ := this
      rw [hr]
      have h2 := congrArg (fun b : Act => b.tmps[d]?) h1
      have hlt := (Array.getElem?_eq_some_iff.1 hv).1
      simp only [hd, Act.put, Array.getElem?_setIfInBounds, if_true, hlt, Option.some.injEq] at h2
      rw [h2]
    · rw [hr] at this
      exfalso
      cases x <;> exact this
  · exact hs i hi
theorem ag_off {j : Nat} {ag : List Nat} {a : Act} {w : World} {o : Oper} {d : Tmp} (ho : l[j]? = some o) (hd : o.dst = some d) (hv : a.tmps[d]? = some undef) (hw : Region.wanted o (yielded l.toArray a.tmps) = false)
    (hs : ∀ j ∈ ag, agn P l.toArray j a w) : ∀ i ∈ j :: ag, agn P l.toArray i a w := fun i hi => by
  rcases List.mem_cons.1 hi with rfl | hi
  · exact ⟨o, d, undef, toA ho, hd, hv, .inr ⟨hw, rfl⟩⟩
  · exact hs i hi
end
theorem ser_nil {a : Act} {w : World} (h : Q .normal a w) : serC P ops (NoPanic Q) [] a w := h

/-! ### laws at one operation -/
theorem wp_append_own {o : Oper} {a : Act} {w : World} {K : Act → World → Prop} (hgd : o.guard = none) (s x : Operand) (t : TypeId) (hop : o.op = Op.call { callee := Callee.builtin Builtin.append, args := #[s, x], argTypes := #[t, t] })
    (base : Nat) (e : TypeId) {z : Value} {size bytes : Nat} (h1 : P.underlying t = some (.slice e)) (hinfo : (P.info? e).map (fun i => (i.zero, i.size, i.bytes)) = some (some z, size, bytes)) (hz : z.cells.size = size) (hs0 : 0 < size)
    (v : Value) (n : Nat) (xs : List Value) (hs : a.eval s = v) (hown : w.ownsRow base e size v n xs) (ad : Addr) (m c : Nat) (news : List Value) (hx : a.eval x = .slice (some ad) m c)
    (hn : news.length = m * size) (hc : ∀ j u, news[j]? = some u → w.cell? (ad.add j) = some u) (h1c : ∀ u ∈ news, u.oneCell' = true) (hm : 0 < m) (hl : n + m ≤ maxLen) (hb : (n + m) * bytes ≤ 140737488355328) (hbase : base ≤ w.heap.size)
    (hK : ∀ (g cap : Nat) (w' : World), w'.ownsRow base e size (.slice (some ⟨g, 0, none⟩) (n + m) cap) (n + m) (xs ++ news) → w.grownBy w' v.ownBlock → (v.ownBlock = some g ∨ g = w.heap.size) → g < w'.heap.size → K (a.put o.dst (.slice (some ⟨g, 0, none⟩) (n + m) cap)) w') :
    o.wp P a w K Q := by
  obtain ⟨i0, hi, hz0, hz1, hz2⟩ := info_parts hinfo
  have hw : Region.wanted o (yielded #[] a.tmps) = true := by simp [Region.wanted, hgd]
  have := step_append_lies (ops := #[]) (Q := Q) (K := K) (E := False) w hgd s x t hop base e i0 z size bytes h1 hi hz0 hz1 hz2 hz hs0 v n xs hs hown ad m c news hx hn hc h1c hm hl hb hbase _ rfl hK
  rw [if_pos hw] at this
  exact this

/-- The row that a slice owns. -/
def rowOf (v : Value) : Nat → Prop := fun k => v.ownBlock = some k
/-- append(s, x) of one element: the translation lays x in a new block first. -/
theorem wp_append1 {o : Oper} {a : Act} {w : World} {K : Act → World → Prop} (hgd : o.guard = none) (s x : Operand) (t : TypeId) (hop : o.op = Op.call { callee := Callee.builtin Builtin.append, args := #[s, x], argTypes := #[t, t] })
    (base : Nat) (e : TypeId) {z : Value} {size bytes : Nat} (h1 : P.underlying t = some (.slice e)) (hinfo : (P.info? e).map (fun i => (i.zero, i.size, i.bytes)) = some (some z, size, bytes)) (hz : z.cells.size = size) (hs0 : 0 < size)
    (v : Value) (n : Nat) (xs : List Value) (hs : a.eval s = v) (hown : w.ownsRow base e size v n xs) (cs : Array Value) (hx : a.eval x = .slice (some ⟨w.heap.size, 0, none⟩) 1 1) (hn : cs.size = size)
    (h1c : ∀ u ∈ cs.toList, u.oneCell' = true) (hl : n + 1 ≤ maxLen) (hb : (n + 1) * bytes ≤ 140737488355328) (hbase : base ≤ w.heap.size)
    (hK : ∀ (g cap : Nat) (w' : World), w'.ownsRow base e size (.slice (some ⟨g, 0, none⟩) (n + 1) cap) (n + 1) (xs ++ cs.toList) → Ext (rowOf v) w w' → (v.ownBlock = some g ∨ w.heap.size ≤ g) → g < w'.heap.size → K (a.put o.dst (.slice (some ⟨g, 0, none⟩) (n + 1) cap)) w') :
    o.wp P a (w.alloc (.cells cs e)) K Q := by
  refine wp_append_own hgd s x t hop base e h1 hinfo hz hs0 v n xs hs (hown.alloc _) ⟨w.heap.size, 0, none⟩ 1 1 cs.toList hx (by simpa using hn) (World.news_of_block (block_new w _)) h1c (by decide) hl hb (Nat.le_trans hbase (by simp)) ?_
  intro g cap w' h2 h3 h4 h5
  refine hK g cap w' h2 (((Ext.refl (rowOf v) w).alloc _).grown h3 (fun k hk _ => hk)) ?_ h5
  rcases h4 with h4 | h4
  · exact .inl h4
  · right; rw [h4]; simp
theorem wpList_append1 {ops : Array Oper} {rest : List Oper} {o : Oper} {a : Act} {w : World} (hgd : o.guard = none) (s x : Operand) (t : TypeId) (hop : o.op = Op.call { callee := Callee.builtin Builtin.append, args := #[s, x], argTypes := #[t, t] })
    (base : Nat) (e : TypeId) {z : Value} {size bytes : Nat} (h1 : P.underlying t = some (.slice e)) (hinfo : (P.info? e).map (fun i => (i.zero, i.size, i.bytes)) = some (some z, size, bytes)) (hz : z.cells.size = size) (hs0 : 0 < size)
    (v : Value) (n : Nat) (xs : List Value) (hs : a.eval s = v) (hown : w.ownsRow base e size v n xs) (cs : Array Value) (hx : a.eval x = .slice (some ⟨w.heap.size, 0, none⟩) 1 1) (hn : cs.size = size)
    (h1c : ∀ u ∈ cs.toList, u.oneCell' = true) (hl : n + 1 ≤ maxLen) (hb : (n + 1) * bytes ≤ 140737488355328) (hbase : base ≤ w.heap.size)
    (hK : ∀ (g cap : Nat) (w' : World), w'.ownsRow base e size (.slice (some ⟨g, 0, none⟩) (n + 1) cap) (n + 1) (xs ++ cs.toList) → Ext (rowOf v) w w' → (v.ownBlock = some g ∨ w.heap.size ≤ g) → g < w'.heap.size → wpList P ops Q rest (a.put o.dst (.slice (some ⟨g, 0, none⟩) (n + 1) cap)) w') :
    wpList P ops Q (o :: rest) a (w.alloc (.cells cs e)) :=
  wpList_plain hgd fun _ hK' => wp_append1 hgd s x t hop base e h1 hinfo hz hs0 v n xs hs hown cs hx hn h1c hl hb hbase fun g cap w' a1 a2 a3 a4 => hK' _ _ (hK g cap w' a1 a2 a3 a4)
end
end Go.Proofs.YtiiaklaojlnokaaGreatDoor.B
