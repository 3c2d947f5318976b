/- Package spec: Right, and what it calls. -/
import Derived.Test.YtiiaklaojlnokaaGreatDoorFunc
set_option linter.unusedVariables false
set_option linter.unusedSimpArgs false
namespace Go.Proofs.YtiiaklaojlnokaaGreatDoor.B
open Go Go.RowKit
set_option maxRecDepth 100000
set_option maxHeartbeats 1000000

def inB (n lo hi : Int) : Bool := decide (lo ≤ n ∧ n ≤ hi)
theorem spec_within (w : World) (n lo hi : Int) : Calls Tryz.prog 120 #[.int .i64 n, .int .i64 lo, .int .i64 hi] w fun e w' => e = .returned (.bool (inB n lo hi)) ∧ w = w' := by
  by_cases h : lo ≤ n
  · go_enter Tryz.func120, Tryz.ntmps120
    go_wp2
    go_ret
    exact ⟨by simp [inB, h], rfl⟩
  · have h' : n < lo := by omega
    go_enter Tryz.func120, Tryz.ntmps120
    go_wp2
    go_ret
    have : inB n lo hi = false := decide_eq_false (by omega)
    exact ⟨by rw [this]; rfl, rfl⟩
def mayMerge (p : Int × Int) : Bool := inB p.1 0 999 && inB p.2 0 999
def mayText (s : ByteArray) : Bool := inB s.size 2 64
def maySpecial (p : Int × ByteArray) : Bool := inB p.1 0 1073741824 && inB p.2.size 1 64
def mayClass (p : Int × Int × Int) : Bool := inB p.1 0 p.2.1 && decide (p.2.1 ≤ 255) && inB p.2.2 0 15
def mayJoin (p : Int × Int) : Bool := inB p.1 0 15 && inB p.2 0 15
theorem spec_text (w : World) (s : ByteArray) (hs : s.size ≤ 4611686018427387903) : Calls Tryz.prog 87 #[textV s] w fun e w' => e = .returned (.bool (mayText s)) ∧ Ext no w w' := by
  unfold textV
  go_enter Tryz.func87, Tryz.ntmps87
  go_wp2_with (go_at_call 120; refine (spec_within _ _ _ _).mono ?_; rintro e w' ⟨rfl, rfl⟩)
  go_ret
  exact ⟨rfl, Ext.refl _ _⟩
theorem spec_merge (w : World) (p : Int × Int) : Calls Tryz.prog 85 #[mergeV p] w fun e w' => e = .returned (.bool (mayMerge p)) ∧ Ext no w w' := by
  obtain ⟨x, y⟩ := p
  unfold mergeV
  have e1 : Ext no w (w.alloc (.cells #[.int .i64 x, .int .i64 y] 54)) := (Ext.refl _ _).alloc _
  go_enter Tryz.func85, Tryz.ntmps85
  go_wp2_with fail
  refine (spec_within _ _ _ _).mono ?_
  rintro e w' ⟨rfl, rfl⟩
  cases h1 : inB x 0 999 with
  | true =>
    have H1 := Lib.hid h1
    clear h1
    go_wp2_with (go_at_call 120; refine (spec_within _ _ _ _).mono ?_; rintro e w' ⟨rfl, rfl⟩)
    go_ret
    exact ⟨by simp only [mayMerge, H1.out, Bool.true_and]; rfl, e1⟩
  | false =>
    have H1 := Lib.hid h1
    clear h1
    go_wp2
    go_ret
    exact ⟨by simp only [mayMerge, H1.out, Bool.false_and]; rfl, e1⟩
theorem spec_join (w : World) (p : Int × Int) : Calls Tryz.prog 93 #[joinV p] w fun e w' => e = .returned (.bool (mayJoin p)) ∧ Ext no w w' := by
  obtain ⟨x, y⟩ := p
  unfold joinV
  have e1 : Ext no w (w.alloc (.cells #[.int .i64 x, .int .i64 y] 87)) := (Ext.refl _ _).alloc _
  go_enter Tryz.func93, Tryz.ntmps93
  go_wp2_with fail
  refine (spec_within _ _ _ _).mono ?_
  rintro e w' ⟨rfl, rfl⟩
  cases h1 : inB x 0 15 with
  | true =>
    have H1 := Lib.hid h1
    clear h1
    go_wp2_with (go_at_call 120; refine (spec_within _ _ _ _).mono ?_; rintro e w' ⟨rfl, rfl⟩)
    go_ret
    exact ⟨by simp only [mayJoin, H1.out, Bool.true_and]; rfl, e1⟩
  | false =>
    have H1 := Lib.hid h1
    clear h1
    go_wp2
    go_ret
    exact ⟨by simp only [mayJoin, H1.out, Bool.false_and]; rfl, e1⟩
theorem spec_special (w : World) (p : Int × ByteArray) (hs : p.2.size ≤ 4611686018427387903) : Calls Tryz.prog 89 #[specialV p] w fun e w' => e = .returned (.bool (maySpecial p)) ∧ Ext no w w' := by
  obtain ⟨x, y⟩ := p
  unfold specialV
  simp only at hs
  have e1 : Ext no w (w.alloc (.cells #[.int .i64 x, .string y] 56)) := (Ext.refl _ _).alloc _
  go_enter Tryz.func89, Tryz.ntmps89
  go_wp2_with fail
  refine (spec_within _ _ _ _).mono ?_
  rintro e w' ⟨rfl, rfl⟩
  cases h1 : inB x 0 1073741824 with
  | true =>
    have H1 := Lib.hid h1
    clear h1
    go_wp2_with (go_at_call 120; refine (spec_within _ _ _ _).mono ?_; rintro e w' ⟨rfl, rfl⟩)
    go_ret
    exact ⟨by simp only [maySpecial, H1.out, Bool.true_and]; rfl, e1⟩
  | false =>
    have H1 := Lib.hid h1
    clear h1
    go_wp2
    go_ret
    exact ⟨by simp only [maySpecial, H1.out, Bool.false_and]; rfl, e1⟩
theorem spec_class (w : World) (p : Int × Int × Int) : Calls Tryz.prog 91 #[classV p] w fun e w' => e = .returned (.bool (mayClass p)) ∧ Ext no w w' := by
  obtain ⟨x, y, z⟩ := p
  unfold classV
  have e1 : Ext no w (w.alloc (.cells #[.int .i64 x, .int .i64 y, .int .i64 z] 58)) := (Ext.refl _ _).alloc _
  go_enter Tryz.func91, Tryz.ntmps91
  go_wp2_with fail
  refine (spec_within _ _ _ _).mono ?_
  rintro e w' ⟨rfl, rfl⟩
  cases h1 : inB x 0 y with
  | true =>
    have H1 := Lib.hid h1
    clear h1
    by_cases h2 : y ≤ 255
    · go_wp2_with (go_at_call 120; refine (spec_within _ _ _ _).mono ?_; rintro e w' ⟨rfl, rfl⟩)
      go_ret
      exact ⟨by simp only [mayClass, H1.out, Bool.true_and, h2, decide_true]; rfl, e1⟩
    · have h3 : 255 < y := by omega
      go_wp2
      go_ret
      exact ⟨by simp only [mayClass, H1.out, Bool.true_and, decide_eq_false (show ¬ y ≤ 255 by omega), Bool.false_and]; rfl, e1⟩
  | false =>
    have H1 := Lib.hid h1
    clear h1
    go_wp2
    go_ret
    exact ⟨by simp only [mayClass, H1.out, Bool.false_and]; rfl, e1⟩
/-- What is asked of an element's length. -/
def szOk_merge (p : Int × Int) : Prop := True
def szOk_text (p : ByteArray) : Prop := p.size ≤ 4611686018427387903
def szOk_special (p : Int × ByteArray) : Prop := p.2.size ≤ 4611686018427387903
def szOk_class (p : Int × Int × Int) : Prop := True
def szOk_join (p : Int × Int) : Prop := True
def allB {α : Type} (p : α → Bool) (most : Int) (xs : List α) : Bool := decide ((xs.length : Int) ≤ most) && xs.all p
theorem idx_all {α : Type} (p : α → Bool) (xs : List α) : (!decide (0 ≤ idx (fun x => !p x) xs)) = xs.all p := by
  unfold idx
  cases h : xs.findIdx? (fun x => !p x) with
  | none =>
    rw [List.findIdx?_eq_none_iff] at h
    have : xs.all p = true := by rw [List.all_eq_true]; intro x hx; simpa using h x hx
    rw [this]; rfl
  | some i =>
    rw [List.findIdx?_eq_some_iff_getElem] at h
    obtain ⟨hl, hp, _⟩ := h
    have : xs.all p = false := by
      rw [List.all_eq_false]
      exact ⟨_, List.getElem_mem hl, by simpa using hp⟩
    rw [this]
    simp
theorem all1_merge (w : World) (x : Int × Int) (hs : szOk_merge x) (b : Nat) (hb : w.cell? ⟨b, 0, none⟩ = some (.func (.func 85) #[] #[])) : Calls Tryz.prog 119 #[mergeV x, .pointer (some ⟨b, 0, none⟩)] w fun e w' => e = .returned (.bool (!mayMerge x)) ∧ Ext no w w' := by
  have hcell : ∀ o, (w.alloc o).cell? ⟨b, 0, none⟩ = some (.func (.func 85) #[] #[]) := fun o => ((Ext.refl no w).alloc o).cell hb (not_no _)
  have e1 : ∀ o, Ext no w (w.alloc o) := fun o => (Ext.refl no w).alloc o
  try obtain ⟨x, y⟩ := x
  unfold mergeV
  go_enter Tryz.func119, Tryz.ntmps119
  go_wp2_with fail
  refine (spec_merge _ (x, y)).mono ?_
  rintro e w' ⟨rfl, e2⟩
  have e3 : Ext no w w' := (e1 _).trans e2
  cases hp : mayMerge ⟨x, y⟩ with
  | true =>
    have HP := Lib.hid hp
    clear hp
    go_wp2
    go_ret
    exact ⟨by rw [HP.out]; rfl, e3⟩
  | false =>
    have HP := Lib.hid hp
    clear hp
    go_wp2
    go_ret
    exact ⟨by rw [HP.out]; rfl, e3⟩
theorem containsFunc_merge (w : World) (A : Option Addr) (c : Nat) (xs : List (Int × Int)) (hR : RowAt w A (xs.flatMap mergeC)) (hn : xs.length ≤ 9223372036854775807) (q : Value) (p : Int × Int → Bool)
    (hc : ∀ x ∈ xs, ∀ w1, Ext no w w1 → Calls Tryz.prog 119 #[mergeV x, q] w1 fun e w2 => e = .returned (.bool (p x)) ∧ Ext no w1 w2) :
    Calls Tryz.prog 118 #[.slice A xs.length c, .func (.func 119) #[] #[q]] w fun e w' => e = .returned (.bool (decide (0 ≤ idx p xs))) ∧ Ext no w w' := by
  go_enter Tryz.func118, Tryz.ntmps118
  go_wp2_with fail
  refine (indexFunc_merge w A c xs hR hn q p hc).mono ?_
  rintro e w' ⟨rfl, e2⟩
  go_wp2
  go_ret
  exact ⟨rfl, e2⟩
theorem specAll_merge (w : World) (A : Option Addr) (c : Nat) (xs : List (Int × Int)) (hR : RowAt w A (xs.flatMap mergeC)) (hn : xs.length ≤ 9223372036854775807) (hs : ∀ x ∈ xs, szOk_merge x) (most : Int) :
    Calls Tryz.prog 84 #[.slice A xs.length c, .int .i64 most, .func (.func 85) #[] #[]] w fun e w' => e = .returned (.bool (allB mayMerge most xs)) ∧ Ext no w w' := by
  have hmf : ∀ (fn : Fn) (first cap : Array Value) (w : World), (Instr.makeFunc fn first cap).run Tryz.prog w = .ok (.func fn first cap) w := fun _ _ _ _ => rfl
  by_cases hl : (xs.length : Int) ≤ most
  · go_enter Tryz.func84, Tryz.ntmps84
    go_wp2_with fail
    have e1 : Ext no w (w.alloc (.cells #[.func (.func 85) #[] #[]] 161)) := (Ext.refl _ _).alloc _
    have h1 : (w.alloc (.cells #[.func (.func 85) #[] #[]] 161)).cell? ⟨w.heap.size, 0, none⟩ = some (.func (.func 85) #[] #[]) := by rw [cell_of_block (block_new _ _)]; rfl
    generalize w.alloc (.cells #[.func (.func 85) #[] #[]] 161) = w1 at *
    refine (containsFunc_merge w1 A c xs (hR.ext e1 (fun _ _ _ => not_no _)) hn _ (fun x => !mayMerge x) (fun x hx w2 h2 => all1_merge w2 x (hs x hx) _ (h2.cell h1 (not_no _)))).mono ?_
    rintro e w' ⟨rfl, e2⟩
    have e3 := e1.trans e2
    have HI := Lib.hid (idx_all mayMerge xs)
    generalize decide (0 ≤ idx (fun x => !mayMerge x) xs) = bb at *
    cases bb with
    | true =>
      go_wp2
      go_ret
      exact ⟨by simp only [allB, decide_eq_true hl, Bool.true_and, ← HI.out]; rfl, e3⟩
    | false =>
      go_wp2
      go_ret
      exact ⟨by simp only [allB, decide_eq_true hl, Bool.true_and, ← HI.out]; rfl, e3⟩
  · have hl' : most < xs.length := by omega
    have e1 : ∀ o, Ext no w (w.alloc o) := fun o => (Ext.refl no w).alloc o
    go_enter Tryz.func84, Tryz.ntmps84
    go_wp2
    go_ret
    exact ⟨by simp only [allB, decide_eq_false (show ¬ (xs.length : Int) ≤ most by omega), Bool.false_and]; rfl, e1 _⟩
theorem all1_text (w : World) (x : ByteArray) (hs : szOk_text x) (b : Nat) (hb : w.cell? ⟨b, 0, none⟩ = some (.func (.func 87) #[] #[])) : Calls Tryz.prog 122 #[textV x, .pointer (some ⟨b, 0, none⟩)] w fun e w' => e = .returned (.bool (!mayText x)) ∧ Ext no w w' := by
  have hcell : ∀ o, (w.alloc o).cell? ⟨b, 0, none⟩ = some (.func (.func 87) #[] #[]) := fun o => ((Ext.refl no w).alloc o).cell hb (not_no _)
  have e1 : ∀ o, Ext no w (w.alloc o) := fun o => (Ext.refl no w).alloc o
  try obtain x := x
  unfold textV
  go_enter Tryz.func122, Tryz.ntmps122
  go_wp2_with fail
  refine (spec_text _ x hs).mono ?_
  rintro e w' ⟨rfl, e2⟩
  have e3 : Ext no w w' := e2
  cases hp : mayText x with
  | true =>
    have HP := Lib.hid hp
    clear hp
    go_wp2
    go_ret
    exact ⟨by rw [HP.out]; rfl, e3⟩
  | false =>
    have HP := Lib.hid hp
    clear hp
    go_wp2
    go_ret
    exact ⟨by rw [HP.out]; rfl, e3⟩
theorem containsFunc_text (w : World) (A : Option Addr) (c : Nat) (xs : List (ByteArray)) (hR : RowAt w A (xs.flatMap textC)) (hn : xs.length ≤ 9223372036854775807) (q : Value) (p : ByteArray → Bool)
    (hc : ∀ x ∈ xs, ∀ w1, Ext no w w1 → Calls Tryz.prog 122 #[textV x, q] w1 fun e w2 => e = .returned (.bool (p x)) ∧ Ext no w1 w2) :
    Calls Tryz.prog 121 #[.slice A xs.length c, .func (.func 122) #[] #[q]] w fun e w' => e = .returned (.bool (decide (0 ≤ idx p xs))) ∧ Ext no w w' := by
  go_enter Tryz.func121, Tryz.ntmps121
  go_wp2_with fail
  refine (indexFunc_text w A c xs hR hn q p hc).mono ?_
  rintro e w' ⟨rfl, e2⟩
  go_wp2
  go_ret
  exact ⟨rfl, e2⟩
theorem specAll_text (w : World) (A : Option Addr) (c : Nat) (xs : List (ByteArray)) (hR : RowAt w A (xs.flatMap textC)) (hn : xs.length ≤ 9223372036854775807) (hs : ∀ x ∈ xs, szOk_text x) (most : Int) :
    Calls Tryz.prog 86 #[.slice A xs.length c, .int .i64 most, .func (.func 87) #[] #[]] w fun e w' => e = .returned (.bool (allB mayText most xs)) ∧ Ext no w w' := by
  have hmf : ∀ (fn : Fn) (first cap : Array Value) (w : World), (Instr.makeFunc fn first cap).run Tryz.prog w = .ok (.func fn first cap) w := fun _ _ _ _ => rfl
  by_cases hl : (xs.length : Int) ≤ most
  · go_enter Tryz.func86, Tryz.ntmps86
    go_wp2_with fail
    have e1 : Ext no w (w.alloc (.cells #[.func (.func 87) #[] #[]] 46)) := (Ext.refl _ _).alloc _
    have h1 : (w.alloc (.cells #[.func (.func 87) #[] #[]] 46)).cell? ⟨w.heap.size, 0, none⟩ = some (.func (.func 87) #[] #[]) := by rw [cell_of_block (block_new _ _)]; rfl
    generalize w.alloc (.cells #[.func (.func 87) #[] #[]] 46) = w1 at *
    refine (containsFunc_text w1 A c xs (hR.ext e1 (fun _ _ _ => not_no _)) hn _ (fun x => !mayText x) (fun x hx w2 h2 => all1_text w2 x (hs x hx) _ (h2.cell h1 (not_no _)))).mono ?_
    rintro e w' ⟨rfl, e2⟩
    have e3 := e1.trans e2
    have HI := Lib.hid (idx_all mayText xs)
    generalize decide (0 ≤ idx (fun x => !mayText x) xs) = bb at *
    cases bb with
    | true =>
      go_wp2
      go_ret
      exact ⟨by simp only [allB, decide_eq_true hl, Bool.true_and, ← HI.out]; rfl, e3⟩
    | false =>
      go_wp2
      go_ret
      exact ⟨by simp only [allB, decide_eq_true hl, Bool.true_and, ← HI.out]; rfl, e3⟩
  · have hl' : most < xs.length := by omega
    have e1 : ∀ o, Ext no w (w.alloc o) := fun o => (Ext.refl no w).alloc o
    go_enter Tryz.func86, Tryz.ntmps86
    go_wp2
    go_ret
    exact ⟨by simp only [allB, decide_eq_false (show ¬ (xs.length : Int) ≤ most by omega), Bool.false_and]; rfl, e1 _⟩
theorem all1_special (w : World) (x : Int × ByteArray) (hs : szOk_special x) (b : Nat) (hb : w.cell? ⟨b, 0, none⟩ = some (.func (.func 89) #[] #[])) : Calls Tryz.prog 124 #[specialV x, .pointer (some ⟨b, 0, none⟩)] w fun e w' => e = .returned (.bool (!maySpecial x)) ∧ Ext no w w' := by
  have hcell : ∀ o, (w.alloc o).cell? ⟨b, 0, none⟩ = some (.func (.func 89) #[] #[]) := fun o => ((Ext.refl no w).alloc o).cell hb (not_no _)
  have e1 : ∀ o, Ext no w (w.alloc o) := fun o => (Ext.refl no w).alloc o
  try obtain ⟨x, y⟩ := x
  unfold specialV
  go_enter Tryz.func124, Tryz.ntmps124
  go_wp2_with fail
  refine (spec_special _ (x, y) hs).mono ?_
  rintro e w' ⟨rfl, e2⟩
  have e3 : Ext no w w' := (e1 _).trans e2
  cases hp : maySpecial ⟨x, y⟩ with
  | true =>
    have HP := Lib.hid hp
    clear hp
    go_wp2
    go_ret
    exact ⟨by rw [HP.out]; rfl, e3⟩
  | false =>
    have HP := Lib.hid hp
    clear hp
    go_wp2
    go_ret
    exact ⟨by rw [HP.out]; rfl, e3⟩
theorem containsFunc_special (w : World) (A : Option Addr) (c : Nat) (xs : List (Int × ByteArray)) (hR : RowAt w A (xs.flatMap specialC)) (hn : xs.length ≤ 9223372036854775807) (q : Value) (p : Int × ByteArray → Bool)
    (hc : ∀ x ∈ xs, ∀ w1, Ext no w w1 → Calls Tryz.prog 124 #[specialV x, q] w1 fun e w2 => e = .returned (.bool (p x)) ∧ Ext no w1 w2) :
    Calls Tryz.prog 123 #[.slice A xs.length c, .func (.func 124) #[] #[q]] w fun e w' => e = .returned (.bool (decide (0 ≤ idx p xs))) ∧ Ext no w w' := by
  go_enter Tryz.func123, Tryz.ntmps123
  go_wp2_with fail
  refine (indexFunc_special w A c xs hR hn q p hc).mono ?_
  rintro e w' ⟨rfl, e2⟩
  go_wp2
  go_ret
  exact ⟨rfl, e2⟩
theorem specAll_special (w : World) (A : Option Addr) (c : Nat) (xs : List (Int × ByteArray)) (hR : RowAt w A (xs.flatMap specialC)) (hn : xs.length ≤ 9223372036854775807) (hs : ∀ x ∈ xs, szOk_special x) (most : Int) :
    Calls Tryz.prog 88 #[.slice A xs.length c, .int .i64 most, .func (.func 89) #[] #[]] w fun e w' => e = .returned (.bool (allB maySpecial most xs)) ∧ Ext no w w' := by
  have hmf : ∀ (fn : Fn) (first cap : Array Value) (w : World), (Instr.makeFunc fn first cap).run Tryz.prog w = .ok (.func fn first cap) w := fun _ _ _ _ => rfl
  by_cases hl : (xs.length : Int) ≤ most
  · go_enter Tryz.func88, Tryz.ntmps88
    go_wp2_with fail
    have e1 : Ext no w (w.alloc (.cells #[.func (.func 89) #[] #[]] 144)) := (Ext.refl _ _).alloc _
    have h1 : (w.alloc (.cells #[.func (.func 89) #[] #[]] 144)).cell? ⟨w.heap.size, 0, none⟩ = some (.func (.func 89) #[] #[]) := by rw [cell_of_block (block_new _ _)]; rfl
    generalize w.alloc (.cells #[.func (.func 89) #[] #[]] 144) = w1 at *
    refine (containsFunc_special w1 A c xs (hR.ext e1 (fun _ _ _ => not_no _)) hn _ (fun x => !maySpecial x) (fun x hx w2 h2 => all1_special w2 x (hs x hx) _ (h2.cell h1 (not_no _)))).mono ?_
    rintro e w' ⟨rfl, e2⟩
    have e3 := e1.trans e2
    have HI := Lib.hid (idx_all maySpecial xs)
    generalize decide (0 ≤ idx (fun x => !maySpecial x) xs) = bb at *
    cases bb with
    | true =>
      go_wp2
      go_ret
      exact ⟨by simp only [allB, decide_eq_true hl, Bool.true_and, ← HI.out]; rfl, e3⟩
    | false =>
      go_wp2
      go_ret
      exact ⟨by simp only [allB, decide_eq_true hl, Bool.true_and, ← HI.out]; rfl, e3⟩
  · have hl' : most < xs.length := by omega
    have e1 : ∀ o, Ext no w (w.alloc o) := fun o => (Ext.refl no w).alloc o
    go_enter Tryz.func88, Tryz.ntmps88
    go_wp2
    go_ret
    exact ⟨by simp only [allB, decide_eq_false (show ¬ (xs.length : Int) ≤ most by omega), Bool.false_and]; rfl, e1 _⟩
theorem all1_class (w : World) (x : Int × Int × Int) (hs : szOk_class x) (b : Nat) (hb : w.cell? ⟨b, 0, none⟩ = some (.func (.func 91) #[] #[])) : Calls Tryz.prog 126 #[classV x, .pointer (some ⟨b, 0, none⟩)] w fun e w' => e = .returned (.bool (!mayClass x)) ∧ Ext no w w' := by
  have hcell : ∀ o, (w.alloc o).cell? ⟨b, 0, none⟩ = some (.func (.func 91) #[] #[]) := fun o => ((Ext.refl no w).alloc o).cell hb (not_no _)
  have e1 : ∀ o, Ext no w (w.alloc o) := fun o => (Ext.refl no w).alloc o
  try obtain ⟨x, y, z⟩ := x
  unfold classV
  go_enter Tryz.func126, Tryz.ntmps126
  go_wp2_with fail
  refine (spec_class _ (x, y, z)).mono ?_
  rintro e w' ⟨rfl, e2⟩
  have e3 : Ext no w w' := (e1 _).trans e2
  cases hp : mayClass ⟨x, y, z⟩ with
  | true =>
    have HP := Lib.hid hp
    clear hp
    go_wp2
    go_ret
    exact ⟨by rw [HP.out]; rfl, e3⟩
  | false =>
    have HP := Lib.hid hp
    clear hp
    go_wp2
    go_ret
    exact ⟨by rw [HP.out]; rfl, e3⟩
theorem containsFunc_class (w : World) (A : Option Addr) (c : Nat) (xs : List (Int × Int × Int)) (hR : RowAt w A (xs.flatMap classC)) (hn : xs.length ≤ 9223372036854775807) (q : Value) (p : Int × Int × Int → Bool)
    (hc : ∀ x ∈ xs, ∀ w1, Ext no w w1 → Calls Tryz.prog 126 #[classV x, q] w1 fun e w2 => e = .returned (.bool (p x)) ∧ Ext no w1 w2) :
    Calls Tryz.prog 125 #[.slice A xs.length c, .func (.func 126) #[] #[q]] w fun e w' => e = .returned (.bool (decide (0 ≤ idx p xs))) ∧ Ext no w w' := by
  go_enter Tryz.func125, Tryz.ntmps125
  go_wp2_with fail
  refine (indexFunc_class w A c xs hR hn q p hc).mono ?_
  rintro e w' ⟨rfl, e2⟩
  go_wp2
  go_ret
  exact ⟨rfl, e2⟩
theorem specAll_class (w : World) (A : Option Addr) (c : Nat) (xs : List (Int × Int × Int)) (hR : RowAt w A (xs.flatMap classC)) (hn : xs.length ≤ 9223372036854775807) (hs : ∀ x ∈ xs, szOk_class x) (most : Int) :
    Calls Tryz.prog 90 #[.slice A xs.length c, .int .i64 most, .func (.func 91) #[] #[]] w fun e w' => e = .returned (.bool (allB mayClass most xs)) ∧ Ext no w w' := by
  have hmf : ∀ (fn : Fn) (first cap : Array Value) (w : World), (Instr.makeFunc fn first cap).run Tryz.prog w = .ok (.func fn first cap) w := fun _ _ _ _ => rfl
  by_cases hl : (xs.length : Int) ≤ most
  · go_enter Tryz.func90, Tryz.ntmps90
    go_wp2_with fail
    have e1 : Ext no w (w.alloc (.cells #[.func (.func 91) #[] #[]] 165)) := (Ext.refl _ _).alloc _
    have h1 : (w.alloc (.cells #[.func (.func 91) #[] #[]] 165)).cell? ⟨w.heap.size, 0, none⟩ = some (.func (.func 91) #[] #[]) := by rw [cell_of_block (block_new _ _)]; rfl
    generalize w.alloc (.cells #[.func (.func 91) #[] #[]] 165) = w1 at *
    refine (containsFunc_class w1 A c xs (hR.ext e1 (fun _ _ _ => not_no _)) hn _ (fun x => !mayClass x) (fun x hx w2 h2 => all1_class w2 x (hs x hx) _ (h2.cell h1 (not_no _)))).mono ?_
    rintro e w' ⟨rfl, e2⟩
    have e3 := e1.trans e2
    have HI := Lib.hid (idx_all mayClass xs)
    generalize decide (0 ≤ idx (fun x => !mayClass x) xs) = bb at *
    cases bb with
    | true =>
      go_wp2
      go_ret
      exact ⟨by simp only [allB, decide_eq_true hl, Bool.true_and, ← HI.out]; rfl, e3⟩
    | false =>
      go_wp2
      go_ret
      exact ⟨by simp only [allB, decide_eq_true hl, Bool.true_and, ← HI.out]; rfl, e3⟩
  · have hl' : most < xs.length := by omega
    have e1 : ∀ o, Ext no w (w.alloc o) := fun o => (Ext.refl no w).alloc o
    go_enter Tryz.func90, Tryz.ntmps90
    go_wp2
    go_ret
    exact ⟨by simp only [allB, decide_eq_false (show ¬ (xs.length : Int) ≤ most by omega), Bool.false_and]; rfl, e1 _⟩
theorem all1_join (w : World) (x : Int × Int) (hs : szOk_join x) (b : Nat) (hb : w.cell? ⟨b, 0, none⟩ = some (.func (.func 93) #[] #[])) : Calls Tryz.prog 128 #[joinV x, .pointer (some ⟨b, 0, none⟩)] w fun e w' => e = .returned (.bool (!mayJoin x)) ∧ Ext no w w' := by
  have hcell : ∀ o, (w.alloc o).cell? ⟨b, 0, none⟩ = some (.func (.func 93) #[] #[]) := fun o => ((Ext.refl no w).alloc o).cell hb (not_no _)
  have e1 : ∀ o, Ext no w (w.alloc o) := fun o => (Ext.refl no w).alloc o
  try obtain ⟨x, y⟩ := x
  unfold joinV
  go_enter Tryz.func128, Tryz.ntmps128
  go_wp2_with fail
  refine (spec_join _ (x, y)).mono ?_
  rintro e w' ⟨rfl, e2⟩
  have e3 : Ext no w w' := (e1 _).trans e2
  cases hp : mayJoin ⟨x, y⟩ with
  | true =>
    have HP := Lib.hid hp
    clear hp
    go_wp2
    go_ret
    exact ⟨by rw [HP.out]; rfl, e3⟩
  | false =>
    have HP := Lib.hid hp
    clear hp
    go_wp2
    go_ret
    exact ⟨by rw [HP.out]; rfl, e3⟩
theorem containsFunc_join (w : World) (A : Option Addr) (c : Nat) (xs : List (Int × Int)) (hR : RowAt w A (xs.flatMap joinC)) (hn : xs.length ≤ 9223372036854775807) (q : Value) (p : Int × Int → Bool)
    (hc : ∀ x ∈ xs, ∀ w1, Ext no w w1 → Calls Tryz.prog 128 #[joinV x, q] w1 fun e w2 => e = .returned (.bool (p x)) ∧ Ext no w1 w2) :
    Calls Tryz.prog 127 #[.slice A xs.length c, .func (.func 128) #[] #[q]] w fun e w' => e = .returned (.bool (decide (0 ≤ idx p xs))) ∧ Ext no w w' := by
  go_enter Tryz.func127, Tryz.ntmps127
  go_wp2_with fail
  refine (indexFunc_join w A c xs hR hn q p hc).mono ?_
  rintro e w' ⟨rfl, e2⟩
  go_wp2
  go_ret
  exact ⟨rfl, e2⟩
theorem specAll_join (w : World) (A : Option Addr) (c : Nat) (xs : List (Int × Int)) (hR : RowAt w A (xs.flatMap joinC)) (hn : xs.length ≤ 9223372036854775807) (hs : ∀ x ∈ xs, szOk_join x) (most : Int) :
    Calls Tryz.prog 92 #[.slice A xs.length c, .int .i64 most, .func (.func 93) #[] #[]] w fun e w' => e = .returned (.bool (allB mayJoin most xs)) ∧ Ext no w w' := by
  have hmf : ∀ (fn : Fn) (first cap : Array Value) (w : World), (Instr.makeFunc fn first cap).run Tryz.prog w = .ok (.func fn first cap) w := fun _ _ _ _ => rfl
  by_cases hl : (xs.length : Int) ≤ most
  · go_enter Tryz.func92, Tryz.ntmps92
    go_wp2_with fail
    have e1 : Ext no w (w.alloc (.cells #[.func (.func 93) #[] #[]] 167)) := (Ext.refl _ _).alloc _
    have h1 : (w.alloc (.cells #[.func (.func 93) #[] #[]] 167)).cell? ⟨w.heap.size, 0, none⟩ = some (.func (.func 93) #[] #[]) := by rw [cell_of_block (block_new _ _)]; rfl
    generalize w.alloc (.cells #[.func (.func 93) #[] #[]] 167) = w1 at *
    refine (containsFunc_join w1 A c xs (hR.ext e1 (fun _ _ _ => not_no _)) hn _ (fun x => !mayJoin x) (fun x hx w2 h2 => all1_join w2 x (hs x hx) _ (h2.cell h1 (not_no _)))).mono ?_
    rintro e w' ⟨rfl, e2⟩
    have e3 := e1.trans e2
    have HI := Lib.hid (idx_all mayJoin xs)
    generalize decide (0 ≤ idx (fun x => !mayJoin x) xs) = bb at *
    cases bb with
    | true =>
      go_wp2
      go_ret
      exact ⟨by simp only [allB, decide_eq_true hl, Bool.true_and, ← HI.out]; rfl, e3⟩
    | false =>
      go_wp2
      go_ret
      exact ⟨by simp only [allB, decide_eq_true hl, Bool.true_and, ← HI.out]; rfl, e3⟩
  · have hl' : most < xs.length := by omega
    have e1 : ∀ o, Ext no w (w.alloc o) := fun o => (Ext.refl no w).alloc o
    go_enter Tryz.func92, Tryz.ntmps92
    go_wp2
    go_ret
    exact ⟨by simp only [allB, decide_eq_false (show ¬ (xs.length : Int) ≤ most by omega), Bool.false_and]; rfl, e1 _⟩
end Go.Proofs.YtiiaklaojlnokaaGreatDoor.B
