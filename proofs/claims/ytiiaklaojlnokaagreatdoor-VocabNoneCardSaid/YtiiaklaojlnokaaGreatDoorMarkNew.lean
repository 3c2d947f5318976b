/- Package mark: New, Len, Mark: contracts. -/
import Derived.Test.YtiiaklaojlnokaaGreatDoorMark
set_option linter.unusedVariables false
set_option linter.unusedSimpArgs false
namespace Go.Proofs.YtiiaklaojlnokaaGreatDoor.B
open Go Go.RowKit
set_option maxRecDepth 100000
set_option maxHeartbeats 1000000

def MSet.empty : MSet := { l := [], ids := [], texts := [], first := List.replicate 256 false, most := 0 }
/-- Special tokens added, one by one, from number i on. -/
def markAll : MSet → List (Int × ByteArray) → Nat → Option MSet × Nat × Int
  | S, [], i => (some S, i, 0)
  | S, x :: xs, i => if (S.add x).2 = 0 then markAll (S.add x).1 xs (i + 1) else (none, i, (S.add x).2)
theorem set_new {B : Nat} {w : World} (hB : B ≤ w.heap.size) : MSetIn B (((w.alloc (.map #[] 0)).alloc (.map #[] 0)).alloc (.cells (MSet.empty.cells (.slice none 0 0) w.heap.size (w.heap.size + 1)).toArray 179)) (w.heap.size + 2) MSet.empty (.slice none 0 0) w.heap.size (w.heap.size + 1) := by
  have s1 : (w.alloc (.map #[] 0)).heap.size = w.heap.size + 1 := by simp
  have s2 : ((w.alloc (.map #[] 0)).alloc (.map #[] 0)).heap.size = w.heap.size + 2 := by simp
  have m1 := MapAt.new w (Value.int .i64) natV
  have m2 := MapAt.new (w.alloc (.map #[] 0)) Value.string natV
  rw [s1] at m2
  have b := block_new ((w.alloc (.map #[] 0)).alloc (.map #[] 0)) (.cells (MSet.empty.cells (.slice none 0 0) w.heap.size (w.heap.size + 1)).toArray 179)
  rw [s2] at b
  have al : ∀ (u : World) (o : Obj), Ext no u (u.alloc o) := fun u o => (Ext.refl no u).alloc o
  exact ⟨b, rfl, own_nil _ _ _ _, (m1.ext (al _ _) (not_no _)).ext (al _ _) (not_no _), m2.ext (al _ _) (not_no _), by omega, by omega, by omega, by omega⟩
theorem zero_set : Tryz.zeroCells179 = (Value.slice none 0 0 :: .map none :: .map none :: ((List.replicate 256 false).map Value.bool ++ [.int .i64 0])).toArray := by kernel_rfl
theorem zero_set_put (a b : Nat) : (Tryz.zeroCells179.setIfInBounds 1 (.map (some a))).setIfInBounds 2 (.map (some b)) = (MSet.empty.cells (.slice none 0 0) a b).toArray := by
  rw [zero_set, List.setIfInBounds_toArray, List.setIfInBounds_toArray]; rfl
def MarkNewPost (w : World) (xs : List (Int × ByteArray)) (e : Ending) (w' : World) : Prop :=
  Below w.heap.size w w' ∧ ∃ o, e = .returned (.tuple #[ptrV o, .int .i64 (markAll MSet.empty xs 0).2.1, .int .i64 (markAll MSet.empty xs 0).2.2]) ∧
    match (markAll MSet.empty xs 0).1, o with
    | some S, some m => MSetAt w.heap.size w' m S
    | none, none => True
    | _, _ => False
def MarkNewAt (w : World) (m : Nat) (xs : List (Int × ByteArray)) (i : Value) (wr : World) : Prop :=
  ∃ (k : Nat) (S : MSet), k ≤ xs.length ∧ i = .int .i64 k ∧ MSetAt w.heap.size wr m S ∧ markAll MSet.empty xs 0 = markAll S (xs.drop k) k ∧ Below w.heap.size w wr
theorem mark_new (w : World) (A : Option Addr) (c : Nat) (xs : List (Int × ByteArray)) (hR : RowAt w A (scells xs)) (hn : xs.length ≤ 9223372036854775807) (hs : ∀ x ∈ xs, x.2.size ≤ 4611686018427387903) :
    Calls Tryz.prog 68 #[.slice A xs.length c] w (MarkNewPost w xs) := by
  have h0 := set_new (Nat.le_refl w.heap.size)
  have al : ∀ (u : World) (o : Obj), Ext no u (u.alloc o) := fun u o => (Ext.refl no u).alloc o
  have hb0 : Below w.heap.size w (((w.alloc (.map #[] 0)).alloc (.map #[] 0)).alloc (.cells (MSet.empty.cells (.slice none 0 0) w.heap.size (w.heap.size + 1)).toArray 179)) := (((al w _).trans (al _ _)).trans (al _ _)).below (Nat.le_refl _) (fun k hk => absurd hk (not_no _))
  have hmm := @run_makeMap Tryz.prog
  go_enter Tryz.func68, Tryz.ntmps68
  go_upto_region 2 with fail
  rw [zero_set_put]
  generalize ((w.alloc (.map #[] 0)).alloc (.map #[] 0)).alloc (.cells (MSet.empty.cells (.slice none 0 0) w.heap.size (w.heap.size + 1)).toArray 179) = w1 at *
  replace h0 : MSetAt w.heap.size w1 (w.heap.size + 2) MSet.empty := ⟨_, _, _, h0⟩
  rw [show w.heap.size + 1 + 1 = w.heap.size + 2 by omega]
  generalize w.heap.size + 2 = m at *
  clear hmm al
  go_wp2_with fail
  go_loopw [15] (fun i wr => MarkNewAt w m xs i wr) (fun i _ => xs.length - (intOf i).toNat)
  case atStart => exact ⟨0, _, by omega, rfl, h0, rfl, hb0⟩
  case round =>
    clear h0 hb0
    obtain ⟨k, S, hk, rfl, hT, HA, hB⟩ := hrel
    have HA := Lib.hid HA
    by_cases hlt : k < xs.length
    · obtain ⟨⟨n, s⟩, hp⟩ : ∃ p, xs[k]? = some p := ⟨_, List.getElem?_eq_getElem hlt⟩
      have hsz := hs (n, s) (List.mem_of_getElem? hp)
      obtain ⟨b, o, rfl, hcs⟩ := hR.form (by rw [scells_length]; omega)
      obtain ⟨q0, q1⟩ := scells_at xs k _ hp
      have c0 := (hB.cell (lt_of_cell (hcs _ _ q0))).trans (hcs _ _ q0)
      have c1 : wr.cell? ⟨b, o + k * 2 + 1, none⟩ = some (.string s) := by
        have := (hB.cell (lt_of_cell (hcs _ _ q1))).trans (hcs _ _ q1)
        rwa [← Nat.add_assoc] at this
      have hd : xs.drop k = (n, s) :: xs.drop (k + 1) := by
        obtain ⟨hl, he⟩ := List.getElem?_eq_some_iff.1 hp
        rw [List.drop_eq_getElem_cons hl, he]
      go_wp2_with fail
      have e1 : Ext no wr (wr.alloc (.cells #[.int .i64 n, .string s] 56)) := (Ext.refl no wr).alloc _
      generalize wr.alloc (.cells #[.int .i64 n, .string s] 56) = w2 at *
      have hB2 : Below w.heap.size w w2 := hB.trans (e1.below hB.size (fun _ h => absurd h (not_no _)))
      have hT2 := hT.keep e1
      refine (mark_add hT2 hB2.size n s hsz).mono ?_
      rintro e w3 ⟨rfl, hB3, hT3⟩
      have hB3 := hB2.trans hB3
      clear hT hT2 hB2 hB e1 c0 c1
      cases hr : S.add (n, s) with
      | mk S' er =>
      rw [hr] at hT3
      have HD := Lib.hid hd
      have HR := Lib.hid hr
      clear hd hr hp q0 q1
      by_cases hz : er = 0
      · subst hz
        go_wp2
        go_roundw
        case measure => simp [intOf]; omega
        case rel =>
          refine ⟨k + 1, S', by omega, by go_num, hT3, ?_, hB3⟩
          rw [HA.out, HD.out, markAll, HR.out]
          rfl
      · go_wp2
        go_ret3
        have hA : markAll MSet.empty xs 0 = (none, k, er) := by
          rw [HA.out, HD.out, markAll, HR.out]
          simp [hz]
        refine ⟨hB3, none, ?_, ?_⟩
        · rw [hA]; rfl
        · rw [hA]; trivial
    · obtain rfl : k = xs.length := by omega
      go_wp2
      go_ret3
      have hA : markAll MSet.empty xs 0 = (some S, xs.length, 0) := by
        rw [HA.out, List.drop_eq_nil_of_le (Nat.le_refl _)]; rfl
      refine ⟨hB, some m, ?_, ?_⟩
      · rw [hA]; rfl
      · rw [hA]; exact hT

/-! ### Mark, Len -/
def MSet.mark (S : MSet) (id : Int) : Int × Bool := match mget S.ids id with | some i => (-1 - (i : Int), true) | none => (0, false)
theorem mark_item (w : World) (i : Int) (h0 : 0 ≤ i) (h1 : i ≤ 4611686018427387903) : Calls Tryz.prog 97 #[.int .i64 i] w fun e w' => e = .returned (.int .i64 (-1 - i)) ∧ w = w' := by
  go_enter Tryz.func97, Tryz.ntmps97
  go_wp2
  go_ret
  exact ⟨rfl, rfl⟩
theorem mark_mark_nil (w : World) (id : Int) : Calls Tryz.prog 53 #[.pointer none, .int .i64 id] w fun e w' => e = .returned (.tuple #[.int .i64 0, .bool false]) ∧ w = w' := by
  go_enter Tryz.func53, Tryz.ntmps53
  go_wp2
  go_ret2
  exact ⟨rfl, rfl⟩
theorem mark_mark {B : Nat} {w : World} {m : Nat} {S : MSet} (h : MSetAt B w m S) (hi : ∀ id i, mget S.ids id = some i → i ≤ 4611686018427387903) (id : Int) : Calls Tryz.prog 53 #[.pointer (some ⟨m, 0, none⟩), .int .i64 id] w fun e w' =>
    e = .returned (.tuple #[.int .i64 (S.mark id).1, .bool (S.mark id).2]) ∧ w = w' := by
  obtain ⟨v, im, tm, h⟩ := h
  have c1 := h.c1
  cases hg : mget S.ids id with
  | none =>
    have e1 : S.mark id = (0, false) := by simp [MSet.mark, hg]
    rw [e1]
    have HG := Lib.hid hg; clear hg
    go_enter Tryz.func53, Tryz.ntmps53
    go_wp2_with (at_lookup; refine wpList_lookup_none rfl _ _ _ _ rfl k_int Tryz.underlying175 h.hi (z_int _) id rfl rfl HG.out ?_)
    go_ret2
    exact ⟨rfl, rfl⟩
  | some i =>
    have e1 : S.mark id = (-1 - (i : Int), true) := by simp [MSet.mark, hg]
    rw [e1]
    have hi' := hi id i hg
    have HG := Lib.hid hg; clear hg
    go_enter Tryz.func53, Tryz.ntmps53
    go_wp2_with (first | (at_lookup; refine wpList_lookup_some rfl _ _ _ _ rfl k_int Tryz.underlying175 h.hi id rfl rfl i HG.out ?_) | (go_at_call 97; refine (mark_item _ _ (by omega) (by omega)).mono ?_; rintro e w' ⟨rfl, rfl⟩))
    go_ret2
    exact ⟨rfl, rfl⟩
end Go.Proofs.YtiiaklaojlnokaaGreatDoor.B
