/- Package slices: IndexFunc, ContainsFunc, Clone, as they are used here; package spec: all. -/
import Derived.Test.YtiiaklaojlnokaaGreatDoorMarkNew
set_option linter.unusedVariables false
set_option linter.unusedSimpArgs false
namespace Go.Proofs.YtiiaklaojlnokaaGreatDoor.B
open Go Go.RowKit
set_option maxRecDepth 100000
set_option maxHeartbeats 1000000

theorem flatMap_len {α : Type} (f : α → List Value) (n : Nat) (hf : ∀ a, (f a).length = n) (xs : List α) : (xs.flatMap f).length = xs.length * n := by
  induction xs with
  | nil => simp
  | cons x xs ih => rw [List.flatMap_cons, List.length_append, ih, hf, List.length_cons, Nat.succ_mul]; omega
theorem flatMap_at {α : Type} (f : α → List Value) (n : Nat) (hf : ∀ a, (f a).length = n) (xs : List α) (i : Nat) (a : α) (h : xs[i]? = some a) (j : Nat) (hj : j < n) : (xs.flatMap f)[i * n + j]? = (f a)[j]? := by
  induction xs generalizing i with
  | nil => simp at h
  | cons x xs ih =>
    rw [List.flatMap_cons]
    cases i with
    | zero =>
      simp only [List.getElem?_cons_zero, Option.some.injEq] at h
      subst h
      rw [List.getElem?_append_left (by rw [hf]; omega)]; simp
    | succ i =>
      rw [List.getElem?_append_right (by rw [hf, Nat.succ_mul]; omega), hf, Nat.succ_mul, show i * n + n + j - n = i * n + j by omega]
      exact ih i (by simpa using h)
/-- The first place where p holds, or -1. -/
def idx {α : Type} (p : α → Bool) (xs : List α) : Int := match xs.findIdx? p with | some i => (i : Int) | none => -1
theorem idx_at {α : Type} {p : α → Bool} {xs : List α} {k : Nat} {x : α} (h0 : ∀ i y, i < k → xs[i]? = some y → p y = false) (hk : xs[k]? = some x) (hp : p x = true) : idx p xs = k := by
  unfold idx
  have : xs.findIdx? p = some k := by
    rw [List.findIdx?_eq_some_iff_getElem]
    obtain ⟨hl, he⟩ := List.getElem?_eq_some_iff.1 hk
    refine ⟨hl, by rw [he]; exact hp, fun j hj => ?_⟩
    have := h0 j _ hj (List.getElem?_eq_getElem (by omega))
    simp [this]
  rw [this]
theorem idx_none {α : Type} {p : α → Bool} {xs : List α} (h0 : ∀ i y, i < xs.length → xs[i]? = some y → p y = false) : idx p xs = -1 := by
  unfold idx
  have : xs.findIdx? p = none := by
    rw [List.findIdx?_eq_none_iff]
    intro x hx
    obtain ⟨i, hi⟩ := List.mem_iff_getElem?.1 hx
    exact h0 i x (List.getElem?_eq_some_iff.1 hi).1 hi
  rw [this]
def mergeV (p : Int × Int) : Value := .agg #[.int .i64 p.1, .int .i64 p.2]
def mergeC (p : Int × Int) : List Value := [.int .i64 p.1, .int .i64 p.2]
def textV (p : ByteArray) : Value := .string p
def textC (p : ByteArray) : List Value := [.string p]
def specialV (p : Int × ByteArray) : Value := .agg #[.int .i64 p.1, .string p.2]
def specialC (p : Int × ByteArray) : List Value := [.int .i64 p.1, .string p.2]
def classV (p : Int × Int × Int) : Value := .agg #[.int .i64 p.1, .int .i64 p.2.1, .int .i64 p.2.2]
def classC (p : Int × Int × Int) : List Value := [.int .i64 p.1, .int .i64 p.2.1, .int .i64 p.2.2]
def joinV (p : Int × Int) : Value := .agg #[.int .i64 p.1, .int .i64 p.2]
def joinC (p : Int × Int) : List Value := [.int .i64 p.1, .int .i64 p.2]
def IdxAt {α : Type} (w : World) (p : α → Bool) (xs : List α) (i : Value) (wr : World) : Prop :=
  ∃ k : Nat, k ≤ xs.length ∧ i = .int .i64 k ∧ (∀ i y, i < k → xs[i]? = some y → p y = false) ∧ Ext no w wr
theorem indexFunc_merge (w : World) (A : Option Addr) (c : Nat) (xs : List (Int × Int)) (hR : RowAt w A (xs.flatMap mergeC)) (hn : xs.length ≤ 9223372036854775807) (q : Value) (p : Int × Int → Bool)
    (hc : ∀ x ∈ xs, ∀ w1, Ext no w w1 → Calls Tryz.prog 119 #[mergeV x, q] w1 fun e w2 => e = .returned (.bool (p x)) ∧ Ext no w1 w2) :
    Calls Tryz.prog 160 #[.slice A xs.length c, .func (.func 119) #[] #[q]] w fun e w' => e = .returned (.int .i64 (idx p xs)) ∧ Ext no w w' := by
  go_enter Tryz.func160, Tryz.ntmps160
  go_wp2_with fail
  go_loopw [8] (fun i wr => IdxAt w p xs i wr) (fun i _ => xs.length - (intOf i).toNat)
  case atStart => exact ⟨0, by omega, rfl, fun i y hi => absurd hi (Nat.not_lt_zero _), Ext.refl _ _⟩
  case round =>
    obtain ⟨j, hj, rfl, hno, hB⟩ := hrel
    by_cases hlt : j < xs.length
    · obtain ⟨⟨x, y⟩, hp⟩ : ∃ p, xs[j]? = some p := ⟨_, List.getElem?_eq_getElem hlt⟩
      obtain ⟨b, o, rfl, hcs⟩ := hR.form (by rw [flatMap_len mergeC 2 (fun _ => rfl)]; omega)
      have hcell : ∀ i v, i < 2 → (mergeC ⟨x, y⟩)[i]? = some v → wr.cell? ⟨b, o + j * 2 + i, none⟩ = some v := by
        intro i v hi hv
        have := hB.cell (hcs _ _ ((flatMap_at mergeC 2 (fun _ => rfl) xs j _ hp i hi).trans hv)) (not_no _)
        rwa [← Nat.add_assoc] at this
      have c0 := hcell 0 _ (by omega) rfl
      try have c1 := hcell 1 _ (by omega) rfl
      try have c2 := hcell 2 _ (by omega) rfl
      simp only [Nat.add_zero, Nat.mul_one] at c0
      have hC := Lib.hid (hc ⟨x, y⟩ (List.mem_of_getElem? hp))
      clear hcell
      go_wp2_with fail
      refine (hC.out _ hB).mono ?_
      rintro e w2 ⟨rfl, h2⟩
      have hB2 := hB.trans h2
      have HP := Lib.hid hp
      clear hp hB h2 c0
      cases hpx : p ⟨x, y⟩ with
      | true =>
        have HX := Lib.hid hpx
        clear hpx
        go_wp2
        go_ret
        exact ⟨by rw [idx_at hno HP.out HX.out]; rfl, hB2⟩
      | false =>
        have HX := Lib.hid hpx
        clear hpx
        go_wp2
        go_roundw
        case measure => simp [intOf]; omega
        case rel =>
          refine ⟨j + 1, by omega, by go_num, fun i u hi hu => ?_, hB2⟩
          by_cases hij : i < j
          · exact hno i u hij hu
          · obtain rfl : i = j := by omega
            rw [HP.out] at hu; cases hu; exact HX.out
    · obtain rfl : j = xs.length := by omega
      go_wp2
      go_ret
      exact ⟨by rw [idx_none hno]; rfl, hB⟩
theorem indexFunc_text (w : World) (A : Option Addr) (c : Nat) (xs : List (ByteArray)) (hR : RowAt w A (xs.flatMap textC)) (hn : xs.length ≤ 9223372036854775807) (q : Value) (p : ByteArray → Bool)
    (hc : ∀ x ∈ xs, ∀ w1, Ext no w w1 → Calls Tryz.prog 122 #[textV x, q] w1 fun e w2 => e = .returned (.bool (p x)) ∧ Ext no w1 w2) :
    Calls Tryz.prog 161 #[.slice A xs.length c, .func (.func 122) #[] #[q]] w fun e w' => e = .returned (.int .i64 (idx p xs)) ∧ Ext no w w' := by
  go_enter Tryz.func161, Tryz.ntmps161
  go_wp2_with fail
  go_loopw [8] (fun i wr => IdxAt w p xs i wr) (fun i _ => xs.length - (intOf i).toNat)
  case atStart => exact ⟨0, by omega, rfl, fun i y hi => absurd hi (Nat.not_lt_zero _), Ext.refl _ _⟩
  case round =>
    obtain ⟨j, hj, rfl, hno, hB⟩ := hrel
    by_cases hlt : j < xs.length
    · obtain ⟨x, hp⟩ : ∃ p, xs[j]? = some p := ⟨_, List.getElem?_eq_getElem hlt⟩
      obtain ⟨b, o, rfl, hcs⟩ := hR.form (by rw [flatMap_len textC 1 (fun _ => rfl)]; omega)
      have hcell : ∀ i v, i < 1 → (textC x)[i]? = some v → wr.cell? ⟨b, o + j * 1 + i, none⟩ = some v := by
        intro i v hi hv
        have := hB.cell (hcs _ _ ((flatMap_at textC 1 (fun _ => rfl) xs j _ hp i hi).trans hv)) (not_no _)
        rwa [← Nat.add_assoc] at this
      have c0 := hcell 0 _ (by omega) rfl
      try have c1 := hcell 1 _ (by omega) rfl
      try have c2 := hcell 2 _ (by omega) rfl
      simp only [Nat.add_zero, Nat.mul_one] at c0
      have hC := Lib.hid (hc x (List.mem_of_getElem? hp))
      clear hcell
      go_wp2_with fail
      refine (hC.out _ hB).mono ?_
      rintro e w2 ⟨rfl, h2⟩
      have hB2 := hB.trans h2
      have HP := Lib.hid hp
      clear hp hB h2 c0
      cases hpx : p x with
      | true =>
        have HX := Lib.hid hpx
        clear hpx
        go_wp2
        go_ret
        exact ⟨by rw [idx_at hno HP.out HX.out]; rfl, hB2⟩
      | false =>
        have HX := Lib.hid hpx
        clear hpx
        go_wp2
        go_roundw
        case measure => simp [intOf]; omega
        case rel =>
          refine ⟨j + 1, by omega, by go_num, fun i u hi hu => ?_, hB2⟩
          by_cases hij : i < j
          · exact hno i u hij hu
          · obtain rfl : i = j := by omega
            rw [HP.out] at hu; cases hu; exact HX.out
    · obtain rfl : j = xs.length := by omega
      go_wp2
      go_ret
      exact ⟨by rw [idx_none hno]; rfl, hB⟩
theorem indexFunc_special (w : World) (A : Option Addr) (c : Nat) (xs : List (Int × ByteArray)) (hR : RowAt w A (xs.flatMap specialC)) (hn : xs.length ≤ 9223372036854775807) (q : Value) (p : Int × ByteArray → Bool)
    (hc : ∀ x ∈ xs, ∀ w1, Ext no w w1 → Calls Tryz.prog 124 #[specialV x, q] w1 fun e w2 => e = .returned (.bool (p x)) ∧ Ext no w1 w2) :
    Calls Tryz.prog 69 #[.slice A xs.length c, .func (.func 124) #[] #[q]] w fun e w' => e = .returned (.int .i64 (idx p xs)) ∧ Ext no w w' := by
  go_enter Tryz.func69, Tryz.ntmps69
  go_wp2_with fail
  go_loopw [8] (fun i wr => IdxAt w p xs i wr) (fun i _ => xs.length - (intOf i).toNat)
  case atStart => exact ⟨0, by omega, rfl, fun i y hi => absurd hi (Nat.not_lt_zero _), Ext.refl _ _⟩
  case round =>
    obtain ⟨j, hj, rfl, hno, hB⟩ := hrel
    by_cases hlt : j < xs.length
    · obtain ⟨⟨x, y⟩, hp⟩ : ∃ p, xs[j]? = some p := ⟨_, List.getElem?_eq_getElem hlt⟩
      obtain ⟨b, o, rfl, hcs⟩ := hR.form (by rw [flatMap_len specialC 2 (fun _ => rfl)]; omega)
      have hcell : ∀ i v, i < 2 → (specialC ⟨x, y⟩)[i]? = some v → wr.cell? ⟨b, o + j * 2 + i, none⟩ = some v := by
        intro i v hi hv
        have := hB.cell (hcs _ _ ((flatMap_at specialC 2 (fun _ => rfl) xs j _ hp i hi).trans hv)) (not_no _)
        rwa [← Nat.add_assoc] at this
      have c0 := hcell 0 _ (by omega) rfl
      try have c1 := hcell 1 _ (by omega) rfl
      try have c2 := hcell 2 _ (by omega) rfl
      simp only [Nat.add_zero, Nat.mul_one] at c0
      have hC := Lib.hid (hc ⟨x, y⟩ (List.mem_of_getElem? hp))
      clear hcell
      go_wp2_with fail
      refine (hC.out _ hB).mono ?_
      rintro e w2 ⟨rfl, h2⟩
      have hB2 := hB.trans h2
      have HP := Lib.hid hp
      clear hp hB h2 c0
      cases hpx : p ⟨x, y⟩ with
      | true =>
        have HX := Lib.hid hpx
        clear hpx
        go_wp2
        go_ret
        exact ⟨by rw [idx_at hno HP.out HX.out]; rfl, hB2⟩
      | false =>
        have HX := Lib.hid hpx
        clear hpx
        go_wp2
        go_roundw
        case measure => simp [intOf]; omega
        case rel =>
          refine ⟨j + 1, by omega, by go_num, fun i u hi hu => ?_, hB2⟩
          by_cases hij : i < j
          · exact hno i u hij hu
          · obtain rfl : i = j := by omega
            rw [HP.out] at hu; cases hu; exact HX.out
    · obtain rfl : j = xs.length := by omega
      go_wp2
      go_ret
      exact ⟨by rw [idx_none hno]; rfl, hB⟩
theorem indexFunc_build (w : World) (A : Option Addr) (c : Nat) (xs : List (Int × ByteArray)) (hR : RowAt w A (xs.flatMap specialC)) (hn : xs.length ≤ 9223372036854775807) (q : Value) (p : Int × ByteArray → Bool)
    (hc : ∀ x ∈ xs, ∀ w1, Ext no w w1 → Calls Tryz.prog 70 #[specialV x, q] w1 fun e w2 => e = .returned (.bool (p x)) ∧ Ext no w1 w2) :
    Calls Tryz.prog 69 #[.slice A xs.length c, .func (.func 70) #[] #[q]] w fun e w' => e = .returned (.int .i64 (idx p xs)) ∧ Ext no w w' := by
  go_enter Tryz.func69, Tryz.ntmps69
  go_wp2_with fail
  go_loopw [8] (fun i wr => IdxAt w p xs i wr) (fun i _ => xs.length - (intOf i).toNat)
  case atStart => exact ⟨0, by omega, rfl, fun i y hi => absurd hi (Nat.not_lt_zero _), Ext.refl _ _⟩
  case round =>
    obtain ⟨j, hj, rfl, hno, hB⟩ := hrel
    by_cases hlt : j < xs.length
    · obtain ⟨⟨x, y⟩, hp⟩ : ∃ p, xs[j]? = some p := ⟨_, List.getElem?_eq_getElem hlt⟩
      obtain ⟨b, o, rfl, hcs⟩ := hR.form (by rw [flatMap_len specialC 2 (fun _ => rfl)]; omega)
      have hcell : ∀ i v, i < 2 → (specialC ⟨x, y⟩)[i]? = some v → wr.cell? ⟨b, o + j * 2 + i, none⟩ = some v := by
        intro i v hi hv
        have := hB.cell (hcs _ _ ((flatMap_at specialC 2 (fun _ => rfl) xs j _ hp i hi).trans hv)) (not_no _)
        rwa [← Nat.add_assoc] at this
      have c0 := hcell 0 _ (by omega) rfl
      try have c1 := hcell 1 _ (by omega) rfl
      try have c2 := hcell 2 _ (by omega) rfl
      simp only [Nat.add_zero, Nat.mul_one] at c0
      have hC := Lib.hid (hc ⟨x, y⟩ (List.mem_of_getElem? hp))
      clear hcell
      go_wp2_with fail
      refine (hC.out _ hB).mono ?_
      rintro e w2 ⟨rfl, h2⟩
      have hB2 := hB.trans h2
      have HP := Lib.hid hp
      clear hp hB h2 c0
      cases hpx : p ⟨x, y⟩ with
      | true =>
        have HX := Lib.hid hpx
        clear hpx
        go_wp2
        go_ret
        exact ⟨by rw [idx_at hno HP.out HX.out]; rfl, hB2⟩
      | false =>
        have HX := Lib.hid hpx
        clear hpx
        go_wp2
        go_roundw
        case measure => simp [intOf]; omega
        case rel =>
          refine ⟨j + 1, by omega, by go_num, fun i u hi hu => ?_, hB2⟩
          by_cases hij : i < j
          · exact hno i u hij hu
          · obtain rfl : i = j := by omega
            rw [HP.out] at hu; cases hu; exact HX.out
    · obtain rfl : j = xs.length := by omega
      go_wp2
      go_ret
      exact ⟨by rw [idx_none hno]; rfl, hB⟩
theorem indexFunc_class (w : World) (A : Option Addr) (c : Nat) (xs : List (Int × Int × Int)) (hR : RowAt w A (xs.flatMap classC)) (hn : xs.length ≤ 9223372036854775807) (q : Value) (p : Int × Int × Int → Bool)
    (hc : ∀ x ∈ xs, ∀ w1, Ext no w w1 → Calls Tryz.prog 126 #[classV x, q] w1 fun e w2 => e = .returned (.bool (p x)) ∧ Ext no w1 w2) :
    Calls Tryz.prog 162 #[.slice A xs.length c, .func (.func 126) #[] #[q]] w fun e w' => e = .returned (.int .i64 (idx p xs)) ∧ Ext no w w' := by
  go_enter Tryz.func162, Tryz.ntmps162
  go_wp2_with fail
  go_loopw [8] (fun i wr => IdxAt w p xs i wr) (fun i _ => xs.length - (intOf i).toNat)
  case atStart => exact ⟨0, by omega, rfl, fun i y hi => absurd hi (Nat.not_lt_zero _), Ext.refl _ _⟩
  case round =>
    obtain ⟨j, hj, rfl, hno, hB⟩ := hrel
    by_cases hlt : j < xs.length
    · obtain ⟨⟨x, y, z⟩, hp⟩ : ∃ p, xs[j]? = some p := ⟨_, List.getElem?_eq_getElem hlt⟩
      obtain ⟨b, o, rfl, hcs⟩ := hR.form (by rw [flatMap_len classC 3 (fun _ => rfl)]; omega)
      have hcell : ∀ i v, i < 3 → (classC ⟨x, y, z⟩)[i]? = some v → wr.cell? ⟨b, o + j * 3 + i, none⟩ = some v := by
        intro i v hi hv
        have := hB.cell (hcs _ _ ((flatMap_at classC 3 (fun _ => rfl) xs j _ hp i hi).trans hv)) (not_no _)
        rwa [← Nat.add_assoc] at this
      have c0 := hcell 0 _ (by omega) rfl
      try have c1 := hcell 1 _ (by omega) rfl
      try have c2 := hcell 2 _ (by omega) rfl
      simp only [Nat.add_zero, Nat.mul_one] at c0
      have hC := Lib.hid (hc ⟨x, y, z⟩ (List.mem_of_getElem? hp))
      clear hcell
      go_wp2_with fail
      refine (hC.out _ hB).mono ?_
      rintro e w2 ⟨rfl, h2⟩
      have hB2 := hB.trans h2
      have HP := Lib.hid hp
      clear hp hB h2 c0
      cases hpx : p ⟨x, y, z⟩ with
      | true =>
        have HX := Lib.hid hpx
        clear hpx
        go_wp2
        go_ret
        exact ⟨by rw [idx_at hno HP.out HX.out]; rfl, hB2⟩
      | false =>
        have HX := Lib.hid hpx
        clear hpx
        go_wp2
        go_roundw
        case measure => simp [intOf]; omega
        case rel =>
          refine ⟨j + 1, by omega, by go_num, fun i u hi hu => ?_, hB2⟩
          by_cases hij : i < j
          · exact hno i u hij hu
          · obtain rfl : i = j := by omega
            rw [HP.out] at hu; cases hu; exact HX.out
    · obtain rfl : j = xs.length := by omega
      go_wp2
      go_ret
      exact ⟨by rw [idx_none hno]; rfl, hB⟩
theorem indexFunc_join (w : World) (A : Option Addr) (c : Nat) (xs : List (Int × Int)) (hR : RowAt w A (xs.flatMap joinC)) (hn : xs.length ≤ 9223372036854775807) (q : Value) (p : Int × Int → Bool)
    (hc : ∀ x ∈ xs, ∀ w1, Ext no w w1 → Calls Tryz.prog 128 #[joinV x, q] w1 fun e w2 => e = .returned (.bool (p x)) ∧ Ext no w1 w2) :
    Calls Tryz.prog 163 #[.slice A xs.length c, .func (.func 128) #[] #[q]] w fun e w' => e = .returned (.int .i64 (idx p xs)) ∧ Ext no w w' := by
  go_enter Tryz.func163, Tryz.ntmps163
  go_wp2_with fail
  go_loopw [8] (fun i wr => IdxAt w p xs i wr) (fun i _ => xs.length - (intOf i).toNat)
  case atStart => exact ⟨0, by omega, rfl, fun i y hi => absurd hi (Nat.not_lt_zero _), Ext.refl _ _⟩
  case round =>
    obtain ⟨j, hj, rfl, hno, hB⟩ := hrel
    by_cases hlt : j < xs.length
    · obtain ⟨⟨x, y⟩, hp⟩ : ∃ p, xs[j]? = some p := ⟨_, List.getElem?_eq_getElem hlt⟩
      obtain ⟨b, o, rfl, hcs⟩ := hR.form (by rw [flatMap_len joinC 2 (fun _ => rfl)]; omega)
      have hcell : ∀ i v, i < 2 → (joinC ⟨x, y⟩)[i]? = some v → wr.cell? ⟨b, o + j * 2 + i, none⟩ = some v := by
        intro i v hi hv
        have := hB.cell (hcs _ _ ((flatMap_at joinC 2 (fun _ => rfl) xs j _ hp i hi).trans hv)) (not_no _)
        rwa [← Nat.add_assoc] at this
      have c0 := hcell 0 _ (by omega) rfl
      try have c1 := hcell 1 _ (by omega) rfl
      try have c2 := hcell 2 _ (by omega) rfl
      simp only [Nat.add_zero, Nat.mul_one] at c0
      have hC := Lib.hid (hc ⟨x, y⟩ (List.mem_of_getElem? hp))
      clear hcell
      go_wp2_with fail
      refine (hC.out _ hB).mono ?_
      rintro e w2 ⟨rfl, h2⟩
      have hB2 := hB.trans h2
      have HP := Lib.hid hp
      clear hp hB h2 c0
      cases hpx : p ⟨x, y⟩ with
      | true =>
        have HX := Lib.hid hpx
        clear hpx
        go_wp2
        go_ret
        exact ⟨by rw [idx_at hno HP.out HX.out]; rfl, hB2⟩
      | false =>
        have HX := Lib.hid hpx
        clear hpx
        go_wp2
        go_roundw
        case measure => simp [intOf]; omega
        case rel =>
          refine ⟨j + 1, by omega, by go_num, fun i u hi hu => ?_, hB2⟩
          by_cases hij : i < j
          · exact hno i u hij hu
          · obtain rfl : i = j := by omega
            rw [HP.out] at hu; cases hu; exact HX.out
    · obtain rfl : j = xs.length := by omega
      go_wp2
      go_ret
      exact ⟨by rw [idx_none hno]; rfl, hB⟩
end Go.Proofs.YtiiaklaojlnokaaGreatDoor.B
