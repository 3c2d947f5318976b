/- Package spec (seat ZD): the reader's methods: head, token, special: contracts. -/
import Derived.Test.YtiiaklaojlnokaaGreatDoorReaderB
set_option linter.unusedVariables false
set_option linter.unusedSimpArgs false
namespace Go.Proofs.YtiiaklaojlnokaaGreatDoor.B
open Go Go.RowKit
set_option maxRecDepth 100000
set_option maxHeartbeats 1000000

def ranksB : ByteArray := ⟨#[114, 97, 110, 107, 115]⟩
def mergesB : ByteArray := ⟨#[109, 101, 114, 103, 101, 115]⟩
/-- Ranked?, and whether it is right. -/
def headD : List ByteArray → Bool × Bool
  | [s] => (decide (s = ranksB), decide (s = ranksB) || decide (s = mergesB))
  | _ => (false, false)
theorem row_one {w : World} {A : Option Addr} {l : List ByteArray} (hR : RowAt w A (l.flatMap textC)) {i : Nat} {s : ByteArray} (hp : l[i]? = some s) : ∃ b o, A = some ⟨b, o, none⟩ ∧ w.cell? ⟨b, o + i, none⟩ = some (.string s) := by
  have hlt := (List.getElem?_eq_some_iff.1 hp).1
  obtain ⟨b, o, rfl, hcs⟩ := hR.form (by rw [flatMap_len textC 1 (fun _ => rfl)]; omega)
  have h1 := flatMap_at textC 1 (fun _ => rfl) l i s hp 0 (by omega)
  have h2 := hcs (i * 1 + 0) (.string s) (h1.trans rfl)
  rw [Nat.mul_one, Nat.add_zero] at h2
  exact ⟨b, o, rfl, h2⟩
def HeadPost (B : Nat) (w : World) (r : Nat) (S : SpecD) (p : SpecP) (kind : Int) (q : Bool × Bool) (e : Ending) (w' : World) : Prop :=
  Below B w w' ∧ e = .returned (.bool q.2) ∧ RdIn B w' r { S with ranked := q.1 } p kind
theorem RdIn.ranked {B : Nat} {w : World} {r : Nat} {S : SpecD} {p : SpecP} {kind : Int} (h : RdIn B w r S p kind) (b : Bool) : RdIn B (w.setCell ⟨r, 0, none⟩ (.bool b)) r { S with ranked := b } p kind := by
  refine ⟨?_, ⟨own_store h.hs.r1 h.hr (by decide) _ _, own_store h.hs.r2 h.hr (by decide) _ _, own_store h.hs.r3 h.hr (by decide) _ _, own_store h.hs.r4 h.hr (by decide) _ _, own_store h.hs.r5 h.hr (by decide) _ _⟩, h.rB⟩
  have := block_setCell h.hr 0 (.bool b)
  rw [this]; rfl
theorem reader_head (B : Nat) (w : World) (r : Nat) (S : SpecD) (p : SpecP) (kind : Int) (h : RdIn B w r S p kind) (A : Option Addr) (c : Nat) (l : List ByteArray) (hR : RowAt w A (l.flatMap textC)) (hn : l.length ≤ 1048576) :
    Calls Tryz.prog 150 #[.pointer (some ⟨r, 0, none⟩), .slice A l.length c] w (HeadPost B w r S p kind (headD l)) := by
  have k0 : w.cell? ⟨r, 0, none⟩ = some (.bool S.ranked) := by rw [cell_of_block h.hr]; rfl
  have f0 := free_of_block h.hr 0
  have fin : ∀ b : Bool, Below B w (w.setCell ⟨r, 0, none⟩ (.bool b)) ∧ RdIn B (w.setCell ⟨r, 0, none⟩ (.bool b)) r { S with ranked := b } p kind := fun b => ⟨(Below.refl B w).setCell (p := ⟨r, 0, none⟩) h.rB _, h.ranked b⟩
  have FIN := Lib.hid fin
  clear fin
  match l, hn, hR with
  | [s], _, hR =>
    obtain ⟨b, o, rfl, c0⟩ := row_one hR (i := 0) (s := s) rfl
    have hbr : b ≠ r := by
      rintro rfl
      rw [cell_of_block h.hr, List.getElem?_toArray] at c0
      have hm := List.mem_of_getElem? c0
      simp [rdCells] at hm
    rw [Nat.add_zero] at c0
    have c1 : ∀ v, (w.setCell ⟨r, 0, none⟩ v).cell? ⟨b, o, none⟩ = some (.string s) := fun v => Ext.setCell_other c0 hbr
    have l1 : ranksB.toList = [114, 97, 110, 107, 115] := by rw [ByteArray.toList_eq]; rfl
    have l2 : mergesB.toList = [109, 101, 114, 103, 101, 115] := by rw [ByteArray.toList_eq]; rfl
    have b1 := bytes_list s ranksB
    have b2 := bytes_list s mergesB
    rw [l1] at b1
    rw [l2] at b2
    have hh : headD [s] = (decide (s = ranksB), decide (s = ranksB) || decide (s = mergesB)) := rfl
    rw [hh]
    clear hh l1 l2 hR
    generalize decide (s = ranksB) = x1 at *
    generalize decide (s = mergesB) = x2 at *
    cases x1 with
    | true =>
      go_enter Tryz.func150, Tryz.ntmps150
      go_wp2
      go_ret
      exact ⟨(FIN.out true).1, rfl, (FIN.out true).2⟩
    | false =>
      cases x2 with
      | true =>
        go_enter Tryz.func150, Tryz.ntmps150
        go_wp2
        go_ret
        exact ⟨(FIN.out false).1, rfl, (FIN.out false).2⟩
      | false =>
        go_enter Tryz.func150, Tryz.ntmps150
        go_wp2
        go_ret
        exact ⟨(FIN.out false).1, rfl, (FIN.out false).2⟩
  | [], _, hR =>
    go_enter Tryz.func150, Tryz.ntmps150
    go_wp2
    go_ret
    exact ⟨(FIN.out false).1, rfl, (FIN.out false).2⟩
  | x :: y :: l, hn, hR =>
    have hl : ((x :: y :: l).length == 1) = false := by simp
    have hl2 : (((x :: y :: l).length : Int) == 1) = false := by simp; omega
    have hd : headD (x :: y :: l) = (false, false) := rfl
    rw [hd]
    generalize (x :: y :: l).length = n at *
    clear hR hd
    go_enter Tryz.func150, Tryz.ntmps150
    go_wp2
    go_ret
    exact ⟨(FIN.out false).1, rfl, (FIN.out false).2⟩

/-! ### token, special -/
/-- The spec behind a token's line, and whether it was right; none: it stays. -/
def tokenD (S : SpecD) : List ByteArray → Option (SpecD × Bool)
  | [s] => some ({ S with tokens := S.tokens ++ [(wordUnhex s).1] }, (wordUnhex s).2)
  | _ => none
def specialD (S : SpecD) : List ByteArray → Option (SpecD × Bool)
  | [a, b] => some ({ S with specials := S.specials ++ [((wordParse a 1073741824).1, (wordUnhex b).1)] }, (wordParse a 1073741824).2 && (wordUnhex b).2)
  | _ => none
def AddPost (B : Nat) (w : World) (r : Nat) (S : SpecD) (p : SpecP) (kind : Int) (q : Option (SpecD × Bool)) (e : Ending) (w' : World) : Prop :=
  Below B w w' ∧ match q with
    | some (S', ok) => e = .returned (.bool ok) ∧ ∃ p', RdIn B w' r S' p' kind
    | none => e = .returned (.bool false) ∧ RdIn B w' r S p kind
theorem reader_token (B : Nat) (w : World) (r : Nat) (S : SpecD) (p : SpecP) (kind : Int) (h : RdIn B w r S p kind) (hB : B ≤ w.heap.size) (hs : S.Small) (A : Option Addr) (c : Nat) (l : List ByteArray) (hR : RowAt w A (l.flatMap textC)) (hn : l.length ≤ 1048576) (hsz : ∀ x ∈ l, x.size < 4294967281) :
    Calls Tryz.prog 152 #[.pointer (some ⟨r, 0, none⟩), .slice A l.length c] w (AddPost B w r S p kind (tokenD S l)) := by
  obtain ⟨rk, ms, ts, ss, cl, js⟩ := S
  obtain ⟨a1, c1, a2, c2, a3, c3, a4, c4, a5, c5⟩ := p
  obtain ⟨n1, n2, n3, n4, n5⟩ := hs
  simp only at n1 n2 n3 n4 n5
  by_cases hl : l.length = 1
  · obtain ⟨s, rfl⟩ : ∃ s, l = [s] := by
      match l, hl with
      | [s], _ => exact ⟨s, rfl⟩
    obtain ⟨b, o, rfl, x0⟩ := row_one hR (i := 0) (s := s) rfl
    rw [Nat.add_zero] at x0
    have hss := hsz s (by simp)
    have hT : tokenD ⟨rk, ms, ts, ss, cl, js⟩ [s] = some (⟨rk, ms, ts ++ [(wordUnhex s).1], ss, cl, js⟩, (wordUnhex s).2) := rfl
    have HT := Lib.hid hT
    clear hT hR
    go_enter Tryz.func152, Tryz.ntmps152
    go_wp2_with fail
    refine (word_unhex w s hss).mono ?_
    rintro e w2 ⟨rfl, e2⟩
    cases hu : wordUnhex s with
    | mk u ok =>
    rw [hu] at HT
    clear hu
    have h2 := h.keep e2
    have BB2 : Below B w w2 := e2.below hB (fun _ hk => absurd hk (not_no _))
    have B2 := Nat.le_trans hB BB2.size
    obtain ⟨hrd, ho, rB⟩ := h2
    obtain ⟨o1, o2, o3, o4, o5⟩ := ho
    simp only at o1 o2 o3 o4 o5
    have k0 : w2.cell? ⟨r, 2, none⟩ = some (.slice a2 ts.length c2) := by rw [cell_of_block hrd]; rfl
    have hrn : ¬ rowOf (.slice a2 ts.length c2) r := fun hk => by
      obtain ⟨⟨c2, hc2⟩, _⟩ := own_row o2 hk
      rw [hrd] at hc2; cases hc2
    clear x0 h e2
    simp only
    go_wp2_with (at_builtin; refine wpList_append1 rfl _ _ _ rfl B 9 Tryz.underlying28 i_text rfl (by decide) (.slice a2 ts.length c2) ts.length _ rfl o2 #[.string u] rfl rfl (by simp [Value.oneCell']) (by unfold maxLen; omega) (by omega) B2 ?_; intro g4 cap w4 hown e4 hwh hlt; have hr4 := e4.heap hrd hrn; have z0 : w4.cell? ⟨r, 2, none⟩ = some (.slice a2 ts.length c2) := (cell_of_block hr4 2).trans rfl; have f0 := free_of_block hr4 2)
    have ow1 := own_ext o1 e4 (fun k hk => own_sep o1 o2 (by decide) k hk)
    have ow3 := own_ext o3 e4 (fun k hk => own_sep o3 o2 (by decide) k hk)
    have ow4 := own_ext o4 e4 (fun k hk => own_sep o4 o2 (by decide) k hk)
    have ow5 := own_ext o5 e4 (fun k hk => own_sep o5 o2 (by decide) k hk)
    have BB4 := BB2.trans (e4.below B2 (fun k hk => (own_row o2 hk).2))
    have u2 := own_store hown hr4 (by decide) 2 (.slice (some ⟨g4, 0, none⟩) (ts.length + 1) cap)
    have u1 := own_store ow1 hr4 (by decide) 2 (.slice (some ⟨g4, 0, none⟩) (ts.length + 1) cap)
    have u3 := own_store ow3 hr4 (by decide) 2 (.slice (some ⟨g4, 0, none⟩) (ts.length + 1) cap)
    have u4 := own_store ow4 hr4 (by decide) 2 (.slice (some ⟨g4, 0, none⟩) (ts.length + 1) cap)
    have u5 := own_store ow5 hr4 (by decide) 2 (.slice (some ⟨g4, 0, none⟩) (ts.length + 1) cap)
    have hr5 := block_setCell hr4 2 (.slice (some ⟨g4, 0, none⟩) (ts.length + 1) cap)
    have BB5 := BB4.setCell (p := ⟨r, 2, none⟩) rB (.slice (some ⟨g4, 0, none⟩) (ts.length + 1) cap)
    generalize w4.setCell ⟨r, 2, none⟩ (.slice (some ⟨g4, 0, none⟩) (ts.length + 1) cap) = w5 at *
    go_ret
    rw [HT.out]
    refine ⟨BB5, rfl, ⟨a1, c1, some ⟨g4, 0, none⟩, cap, a3, c3, a4, c4, a5, c5⟩, ?_, ⟨u1, ?_, u3, u4, u5⟩, rB⟩
    · rw [hr5]
      simp only [rdCells, List.length_append, List.length_singleton]
      rfl
    · simp only [List.flatMap_append, List.length_append, List.length_singleton]; exact u2
  · have hT : tokenD ⟨rk, ms, ts, ss, cl, js⟩ l = none := by
      match l, hl with
      | [], _ => rfl
      | [s], hl => exact absurd rfl hl
      | x :: y :: l, _ => rfl
    rw [hT]
    have hb : ((l.length : Int) != 1) = true := by
      have : ¬ (l.length : Int) = 1 := by omega
      simp [this]
    have hb2 : (l.length != 1) = true := by simp [hl]
    clear hT hR
    go_enter Tryz.func152, Tryz.ntmps152
    go_wp2
    go_ret
    exact ⟨Below.refl _ _, rfl, h⟩
theorem reader_special (B : Nat) (w : World) (hS : Std w) (r : Nat) (S : SpecD) (p : SpecP) (kind : Int) (h : RdIn B w r S p kind) (hB : B ≤ w.heap.size) (hs : S.Small) (A : Option Addr) (c : Nat) (l : List ByteArray) (hR : RowAt w A (l.flatMap textC)) (hn : l.length ≤ 1048576) (hsz : ∀ x ∈ l, x.size < 4294967281) :
    Calls Tryz.prog 153 #[.pointer (some ⟨r, 0, none⟩), .slice A l.length c] w (AddPost B w r S p kind (specialD S l)) := by
  obtain ⟨rk, ms, ts, ss, cl, js⟩ := S
  obtain ⟨a1, c1, a2, c2, a3, c3, a4, c4, a5, c5⟩ := p
  obtain ⟨n1, n2, n3, n4, n5⟩ := hs
  simp only at n1 n2 n3 n4 n5
  by_cases hl : l.length = 2
  · obtain ⟨s, s', rfl⟩ : ∃ s s', l = [s, s'] := by
      match l, hl with
      | [s, s'], _ => exact ⟨s, s', rfl⟩
    obtain ⟨b, o, rfl, x0⟩ := row_one hR (i := 0) (s := s) rfl
    obtain ⟨b', o', hbo, x1⟩ := row_one hR (i := 1) (s := s') rfl
    cases hbo
    rw [Nat.add_zero] at x0
    have hss := hsz s (by simp)
    have hss' := hsz s' (by simp)
    have hT : specialD ⟨rk, ms, ts, ss, cl, js⟩ [s, s'] = some (⟨rk, ms, ts, ss ++ [((wordParse s 1073741824).1, (wordUnhex s').1)], cl, js⟩, (wordParse s 1073741824).2 && (wordUnhex s').2) := rfl
    have HT := Lib.hid hT
    clear hT hR
    go_enter Tryz.func153, Tryz.ntmps153
    go_wp2_with fail
    refine (word_parse w hS s (by omega) 1073741824 (by omega)).mono ?_
    rintro e w1 ⟨rfl, e1⟩
    cases hu : wordParse s 1073741824 with
    | mk n ok1 =>
    rw [hu] at HT
    clear hu
    replace x1 := e1.cell x1 (not_no _)
    clear x0
    simp only
    go_wp2_with fail
    refine (word_unhex w1 s' hss').mono ?_
    rintro e w2 ⟨rfl, e2'⟩
    have e2 := e1.trans e2'
    cases hu : wordUnhex s' with
    | mk u ok2 =>
    rw [hu] at HT
    clear hu
    have h2 := h.keep e2
    have BB2 : Below B w w2 := e2.below hB (fun _ hk => absurd hk (not_no _))
    have B2 := Nat.le_trans hB BB2.size
    obtain ⟨hrd, ho, rB⟩ := h2
    obtain ⟨o1, o2, o3, o4, o5⟩ := ho
    simp only at o1 o2 o3 o4 o5
    have k0 : w2.cell? ⟨r, 3, none⟩ = some (.slice a3 ss.length c3) := by rw [cell_of_block hrd]; rfl
    have hrn : ¬ rowOf (.slice a3 ss.length c3) r := fun hk => by
      obtain ⟨⟨c2, hc2⟩, _⟩ := own_row o3 hk
      rw [hrd] at hc2; cases hc2
    clear x1 h e2 e2'
    simp only
    cases ok1
    all_goals cases ok2
    all_goals
      go_wp2_with (at_builtin; refine wpList_append1 rfl _ _ _ rfl B 56 Tryz.underlying29 i_special rfl (by decide) (.slice a3 ss.length c3) ss.length _ rfl o3 #[.int .i64 n, .string u] rfl rfl (by simp [Value.oneCell']) (by unfold maxLen; omega) (by omega) B2 ?_; intro g4 cap w4 hown e4 hwh hlt; have hr4 := e4.heap hrd hrn; have z0 : w4.cell? ⟨r, 3, none⟩ = some (.slice a3 ss.length c3) := (cell_of_block hr4 3).trans rfl; have f0 := free_of_block hr4 3)
      all_goals
        have ow1 := own_ext o1 e4 (fun k hk => own_sep o1 o3 (by decide) k hk)
        have ow2 := own_ext o2 e4 (fun k hk => own_sep o2 o3 (by decide) k hk)
        have ow4 := own_ext o4 e4 (fun k hk => own_sep o4 o3 (by decide) k hk)
        have ow5 := own_ext o5 e4 (fun k hk => own_sep o5 o3 (by decide) k hk)
        have BB4 := BB2.trans (e4.below B2 (fun k hk => (own_row o3 hk).2))
        have u3 := own_store hown hr4 (by decide) 3 (.slice (some ⟨g4, 0, none⟩) (ss.length + 1) cap)
        have u1 := own_store ow1 hr4 (by decide) 3 (.slice (some ⟨g4, 0, none⟩) (ss.length + 1) cap)
        have u2 := own_store ow2 hr4 (by decide) 3 (.slice (some ⟨g4, 0, none⟩) (ss.length + 1) cap)
        have u4 := own_store ow4 hr4 (by decide) 3 (.slice (some ⟨g4, 0, none⟩) (ss.length + 1) cap)
        have u5 := own_store ow5 hr4 (by decide) 3 (.slice (some ⟨g4, 0, none⟩) (ss.length + 1) cap)
        have hr5 := block_setCell hr4 3 (.slice (some ⟨g4, 0, none⟩) (ss.length + 1) cap)
        have BB5 := BB4.setCell (p := ⟨r, 3, none⟩) rB (.slice (some ⟨g4, 0, none⟩) (ss.length + 1) cap)
        generalize w4.setCell ⟨r, 3, none⟩ (.slice (some ⟨g4, 0, none⟩) (ss.length + 1) cap) = w5 at *
        go_ret
        rw [HT.out]
        refine ⟨BB5, rfl, ⟨a1, c1, a2, c2, some ⟨g4, 0, none⟩, cap, a4, c4, a5, c5⟩, ?_, ⟨u1, u2, ?_, u4, u5⟩, rB⟩
        · rw [hr5]
          simp only [rdCells, List.length_append, List.length_singleton]
          rfl
        · simp only [List.flatMap_append, List.length_append, List.length_singleton]; exact u3
  · have hT : specialD ⟨rk, ms, ts, ss, cl, js⟩ l = none := by
      match l, hl with
      | [], _ => rfl
      | [s], hl => rfl
      | [s, s'], hl => exact absurd rfl hl
      | x :: y :: z :: l, _ => rfl
    rw [hT]
    have hb : ((l.length : Int) != 2) = true := by
      have : ¬ (l.length : Int) = 2 := by omega
      simp [this]
    have hb2 : (l.length != 2) = true := by simp [hl]
    clear hT hR
    go_enter Tryz.func153, Tryz.ntmps153
    go_wp2
    go_ret
    exact ⟨Below.refl _ _, rfl, h⟩
end Go.Proofs.YtiiaklaojlnokaaGreatDoor.B
