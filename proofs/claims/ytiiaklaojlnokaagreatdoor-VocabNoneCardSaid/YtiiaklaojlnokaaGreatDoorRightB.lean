/- Package spec: Right. -/
import Derived.Test.YtiiaklaojlnokaaGreatDoorRight
set_option linter.unusedVariables false
set_option linter.unusedSimpArgs false
namespace Go.Proofs.YtiiaklaojlnokaaGreatDoor.B
open Go Go.RowKit
set_option maxRecDepth 100000
set_option maxHeartbeats 1000000

/-- A spec, as plain data. -/
structure SpecD where
  ranked : Bool
  merges : List (Int × Int)
  tokens : List ByteArray
  specials : List (Int × ByteArray)
  classes : List (Int × Int × Int)
  joins : List (Int × Int)
/-- Where its five lists lie. -/
structure SpecP where
  a1 : Option Addr
  c1 : Nat
  a2 : Option Addr
  c2 : Nat
  a3 : Option Addr
  c3 : Nat
  a4 : Option Addr
  c4 : Nat
  a5 : Option Addr
  c5 : Nat
def SpecP.cells (p : SpecP) (S : SpecD) : Array Value := #[.bool S.ranked, .slice p.a1 S.merges.length p.c1, .slice p.a2 S.tokens.length p.c2, .slice p.a3 S.specials.length p.c3, .slice p.a4 S.classes.length p.c4, .slice p.a5 S.joins.length p.c5]
structure SpecIn (w : World) (S : SpecD) (p : SpecP) : Prop where
  r1 : RowAt w p.a1 (S.merges.flatMap mergeC)
  r2 : RowAt w p.a2 (S.tokens.flatMap textC)
  r3 : RowAt w p.a3 (S.specials.flatMap specialC)
  r4 : RowAt w p.a4 (S.classes.flatMap classC)
  r5 : RowAt w p.a5 (S.joins.flatMap joinC)
theorem SpecIn.ext {w w' : World} {S : SpecD} {p : SpecP} (h : SpecIn w S p) (e : Ext no w w') : SpecIn w' S p :=
  ⟨h.r1.ext e (fun _ _ _ => not_no _), h.r2.ext e (fun _ _ _ => not_no _), h.r3.ext e (fun _ _ _ => not_no _), h.r4.ext e (fun _ _ _ => not_no _), h.r5.ext e (fun _ _ _ => not_no _)⟩
/-- Lengths that a run may have. -/
structure SpecD.Ok (S : SpecD) : Prop where
  n1 : S.merges.length ≤ 4611686018427387903
  n2 : S.tokens.length ≤ 4611686018427387903
  n3 : S.specials.length ≤ 4611686018427387903
  n4 : S.classes.length ≤ 4611686018427387903
  n5 : S.joins.length ≤ 4611686018427387903
  s2 : ∀ x ∈ S.tokens, x.size ≤ 4611686018427387903
  s3 : ∀ x ∈ S.specials, x.2.size ≤ 4611686018427387903
def SpecD.right (S : SpecD) : Bool :=
  if (S.ranked && decide (0 < S.merges.length)) || (!S.ranked && decide (0 < S.tokens.length)) then false
  else allB mayMerge 744 S.merges && (allB mayText 744 S.tokens && (allB maySpecial 32 S.specials && (allB mayClass 64 S.classes && allB mayJoin 64 S.joins)))
theorem spec_right2 (w : World) (S : SpecD) (p : SpecP) (h : SpecIn w S p) (hk : S.Ok) (h1 : S.ranked = true → S.merges.length = 0) (h2 : S.ranked = false → S.tokens.length = 0) :
    Calls Tryz.prog 48 #[.agg (p.cells S)] w fun e w' => e = .returned (.bool (S.right)) ∧ Ext no w w' := by
  obtain ⟨rk, ms, ts, ss, cs, js⟩ := S
  obtain ⟨n1, n2, n3, n4, n5, s2, s3⟩ := hk
  obtain ⟨a1, c1, a2, c2, a3, c3, a4, c4, a5, c5⟩ := p
  simp only at h1 h2 n1 n2 n3 n4 n5 s2 s3
  show Calls _ _ #[.agg #[.bool rk, .slice a1 ms.length c1, .slice a2 ts.length c2, .slice a3 ss.length c3, .slice a4 cs.length c4, .slice a5 js.length c5]] _ _
  have e1 : Ext no w (w.alloc (.cells #[.bool rk, .slice a1 ms.length c1, .slice a2 ts.length c2, .slice a3 ss.length c3, .slice a4 cs.length c4, .slice a5 js.length c5] 33)) := (Ext.refl _ _).alloc _
  have hm := block_new w (.cells #[.bool rk, .slice a1 ms.length c1, .slice a2 ts.length c2, .slice a3 ss.length c3, .slice a4 cs.length c4, .slice a5 js.length c5] 33)
  have hR : SpecD.right ⟨rk, ms, ts, ss, cs, js⟩ = (allB mayMerge 744 ms && (allB mayText 744 ts && (allB maySpecial 32 ss && (allB mayClass 64 cs && allB mayJoin 64 js)))) := by
    unfold SpecD.right
    rw [if_neg]
    cases rk with
    | true => simp [h1 rfl]
    | false => simp [h2 rfl]
  rw [hR]
  clear hR
  have h1' := h.ext e1
  clear h
  have rr : ∀ w2, Ext no (w.alloc (.cells #[.bool rk, .slice a1 ms.length c1, .slice a2 ts.length c2, .slice a3 ss.length c3, .slice a4 cs.length c4, .slice a5 js.length c5] 33)) w2 → Ext no w w2 := fun w2 h => e1.trans h
  have cell : ∀ (w2 : World) (o : Nat) (v : Value), Ext no (w.alloc (.cells #[.bool rk, .slice a1 ms.length c1, .slice a2 ts.length c2, .slice a3 ss.length c3, .slice a4 cs.length c4, .slice a5 js.length c5] 33)) w2 → (SpecP.cells ⟨a1, c1, a2, c2, a3, c3, a4, c4, a5, c5⟩ ⟨rk, ms, ts, ss, cs, js⟩)[o]? = some v → w2.cell? ⟨w.heap.size, o, none⟩ = some v := fun w2 o v h hv => h.cell ((cell_of_block hm o).trans hv) (not_no _)
  have RR := Lib.hid rr
  have CELL := Lib.hid cell
  have ROWS := Lib.hid h1'
  clear rr cell h1' hm e1
  replace h1 : rk = true → decide (0 < ms.length) = false := fun h => decide_eq_false (by have := h1 h; omega)
  replace h2 : rk = false → decide (0 < ts.length) = false := fun h => decide_eq_false (by have := h2 h; omega)
  cases rk
  case' false => replace h2 := h2 rfl
  case' true => replace h1 := h1 rfl
  all_goals
    go_enter Tryz.func48, Tryz.ntmps48
    go_upto_region 3 with fail
    clear h1 h2
    go_wp2_with fail
    refine (specAll_merge _ a1 c1 ms ((ROWS.out.r1).ext (Ext.refl no _) (fun _ _ _ => not_no _)) (by omega) (fun _ _ => trivial) 744).mono ?_
    rintro e v1 ⟨rfl, f1⟩
    have E1 := f1
    clear f1
    have q1 := CELL.out _ 2 _ E1 rfl
    cases hb1 : allB mayMerge 744 ms with
    | false =>
      have HB1 := Lib.hid hb1
      clear hb1
      go_wp2
      go_ret
      exact ⟨by simp only [HB1.out, Bool.true_and, Bool.false_and]; rfl, RR.out _ E1⟩
    | true =>
    have HB1 := Lib.hid hb1
    clear hb1
    go_wp2_with fail
    refine (specAll_text _ a2 c2 ts ((ROWS.out.r2).ext E1 (fun _ _ _ => not_no _)) (by omega) s2 744).mono ?_
    rintro e v2 ⟨rfl, f2⟩
    have E2 := E1.trans f2
    clear f2 q1
    have q2 := CELL.out _ 3 _ E2 rfl
    cases hb2 : allB mayText 744 ts with
    | false =>
      have HB2 := Lib.hid hb2
      clear hb2
      go_wp2
      go_ret
      exact ⟨by simp only [HB1.out, HB2.out, Bool.true_and, Bool.false_and]; rfl, RR.out _ E2⟩
    | true =>
    have HB2 := Lib.hid hb2
    clear hb2
    go_wp2_with fail
    refine (specAll_special _ a3 c3 ss ((ROWS.out.r3).ext E2 (fun _ _ _ => not_no _)) (by omega) s3 32).mono ?_
    rintro e v3 ⟨rfl, f3⟩
    have E3 := E2.trans f3
    clear f3 q2
    have q3 := CELL.out _ 4 _ E3 rfl
    cases hb3 : allB maySpecial 32 ss with
    | false =>
      have HB3 := Lib.hid hb3
      clear hb3
      go_wp2
      go_ret
      exact ⟨by simp only [HB1.out, HB2.out, HB3.out, Bool.true_and, Bool.false_and]; rfl, RR.out _ E3⟩
    | true =>
    have HB3 := Lib.hid hb3
    clear hb3
    go_wp2_with fail
    refine (specAll_class _ a4 c4 cs ((ROWS.out.r4).ext E3 (fun _ _ _ => not_no _)) (by omega) (fun _ _ => trivial) 64).mono ?_
    rintro e v4 ⟨rfl, f4⟩
    have E4 := E3.trans f4
    clear f4 q3
    have q4 := CELL.out _ 5 _ E4 rfl
    cases hb4 : allB mayClass 64 cs with
    | false =>
      have HB4 := Lib.hid hb4
      clear hb4
      go_wp2
      go_ret
      exact ⟨by simp only [HB1.out, HB2.out, HB3.out, HB4.out, Bool.true_and, Bool.false_and]; rfl, RR.out _ E4⟩
    | true =>
    have HB4 := Lib.hid hb4
    clear hb4
    go_wp2_with fail
    refine (specAll_join _ a5 c5 js ((ROWS.out.r5).ext E4 (fun _ _ _ => not_no _)) (by omega) (fun _ _ => trivial) 64).mono ?_
    rintro e v5 ⟨rfl, f5⟩
    have E5 := E4.trans f5
    clear f5 q4
    cases hb5 : allB mayJoin 64 js with
    | false =>
      have HB5 := Lib.hid hb5
      clear hb5
      go_wp2
      go_ret
      exact ⟨by simp only [HB1.out, HB2.out, HB3.out, HB4.out, HB5.out, Bool.true_and, Bool.false_and]; rfl, RR.out _ E5⟩
    | true =>
      have HB5 := Lib.hid hb5
      clear hb5
      go_wp2
      go_ret
      exact ⟨by simp only [HB1.out, HB2.out, HB3.out, HB4.out, HB5.out, Bool.true_and]; rfl, RR.out _ E5⟩
theorem spec_right1 (w : World) (S : SpecD) (p : SpecP) (hk : S.Ok) (hh : (S.ranked = true ∧ 0 < S.merges.length) ∨ (S.ranked = false ∧ 0 < S.tokens.length)) :
    Calls Tryz.prog 48 #[.agg (p.cells S)] w fun e w' => e = .returned (.bool (S.right)) ∧ Ext no w w' := by
  have hR : S.right = false := by
    unfold SpecD.right
    rw [if_pos]
    rcases hh with ⟨h1, h2⟩ | ⟨h1, h2⟩ <;> simp [h1, h2]
  rw [hR]
  clear hR
  obtain ⟨rk, ms, ts, ss, cs, js⟩ := S
  obtain ⟨n1, n2, n3, n4, n5, s2, s3⟩ := hk
  obtain ⟨a1, c1, a2, c2, a3, c3, a4, c4, a5, c5⟩ := p
  simp only at hh n1 n2 n3 n4 n5 s2 s3
  show Calls _ _ #[.agg #[.bool rk, .slice a1 ms.length c1, .slice a2 ts.length c2, .slice a3 ss.length c3, .slice a4 cs.length c4, .slice a5 js.length c5]] _ _
  rcases hh with ⟨rfl, h2⟩ | ⟨rfl, h2⟩
  all_goals
    have e1 : ∀ o, Ext no w (w.alloc o) := fun o => (Ext.refl _ _).alloc o
    have h3 := decide_eq_true h2
    clear h2
    go_enter Tryz.func48, Tryz.ntmps48
    go_wp2
    go_ret
    exact ⟨rfl, e1 _⟩
theorem spec_right (w : World) (S : SpecD) (p : SpecP) (h : SpecIn w S p) (hk : S.Ok) :
    Calls Tryz.prog 48 #[.agg (p.cells S)] w fun e w' => e = .returned (.bool (S.right)) ∧ Ext no w w' := by
  by_cases hh : (S.ranked = true ∧ 0 < S.merges.length) ∨ (S.ranked = false ∧ 0 < S.tokens.length)
  · exact spec_right1 w S p hk hh
  · refine spec_right2 w S p h hk (fun h1 => ?_) (fun h2 => ?_)
    · by_cases hz : S.merges.length = 0
      · exact hz
      · exact absurd (.inl ⟨h1, by omega⟩) hh
    · by_cases hz : S.tokens.length = 0
      · exact hz
      · exact absurd (.inr ⟨h2, by omega⟩) hh
end Go.Proofs.YtiiaklaojlnokaaGreatDoor.B
