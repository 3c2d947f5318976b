/- Package word (seat ZD): Unhex: contract. -/
import Derived.Test.YtiiaklaojlnokaaGreatDoorWord
set_option linter.unusedVariables false
set_option linter.unusedSimpArgs false
namespace Go.Proofs.YtiiaklaojlnokaaGreatDoor.B
open Go Go.RowKit
set_option maxRecDepth 100000
set_option maxHeartbeats 1000000

def hexDigits : ByteArray := ⟨#[48, 49, 50, 51, 52, 53, 54, 55, 56, 57, 97, 98, 99, 100, 101, 102]⟩
def hexDigit (c : UInt8) : Int := Lib.indexByte hexDigits.data.toList c
theorem word_digit (w : World) (c : UInt8) : Calls Tryz.prog 204 #[.int .u8 (c.toNat : Int)] w fun e w' => e = .returned (.int .i64 (hexDigit c)) ∧ w = w' := by
  go_enter Tryz.func204, Tryz.ntmps204
  go_wp2_with fail
  refine (Tryz.strings_IndexByte hexDigits (c.toNat : Int) w).mono ?_
  rintro e w' ⟨rfl, rfl⟩
  have hh : Lib.indexByte hexDigits.data.toList ((c.toNat : Int).toNat.toUInt8) = hexDigit c := by
    have : ((c.toNat : Int).toNat).toUInt8 = c := by simp
    rw [this]; rfl
  rw [hh]
  go_wp2
  go_ret
  exact ⟨rfl, rfl⟩
theorem indexByte_lt : ∀ (l : List UInt8) (c : UInt8), Lib.indexByte l c < (l.length : Int) ∨ l = []
  | [], c => .inr rfl
  | b :: l, c => by
    left
    have h : Lib.indexByte (b :: l) c = if b == c then 0 else if Lib.indexByte l c == -1 then -1 else Lib.indexByte l c + 1 := rfl
    rw [h, List.length_cons]
    rcases indexByte_lt l c with h | rfl
    · split
      · omega
      · split
        · omega
        · omega
    · split
      · decide
      · rw [if_pos (by rfl)]; decide
theorem hexDigit_lt (c : UInt8) : -1 ≤ hexDigit c ∧ hexDigit c < 16 := by
  refine ⟨Lib.indexByte_ge _ _, ?_⟩
  rcases indexByte_lt hexDigits.data.toList c with h | h
  · exact h
  · exact absurd h (by decide)
def unhexL : List UInt8 → List Int → Option (List Int)
  | a :: b :: l, acc => if 0 ≤ hexDigit a ∧ 0 ≤ hexDigit b then unhexL l (acc ++ [hexDigit a * 16 + hexDigit b]) else none
  | _, acc => some acc
def wordUnhex (s : ByteArray) : ByteArray × Bool :=
  if s = ⟨#[45]⟩ then (ByteArray.empty, true) else if s.size = 0 ∨ s.size % 2 ≠ 0 then (ByteArray.empty, false) else
    match unhexL s.data.toList [] with
    | some xs => (strOfNums xs, true)
    | none => (ByteArray.empty, false)
def u8C (xs : List Int) : List Value := xs.map (Value.int .u8)
def UnhexAt (w : World) (s : ByteArray) (r : Option (List Int)) (v i : Value) (wr : World) : Prop :=
  ∃ (k : Nat) (acc : List Int), i = .int .i64 ((2 * k : Nat) : Int) ∧ 2 * k ≤ s.size ∧ acc.length = k ∧ unhexL (s.data.toList.drop (2 * k)) acc = r ∧ wr.ownsRow w.heap.size 5 1 v acc.length (u8C acc) ∧ Below w.heap.size w wr ∧ v ≠ .slice none 0 0
theorem i_u8 : (Tryz.prog.info? 5).map (fun i => (i.zero, i.size, i.bytes)) = some (some (.int .u8 0), 1, 1) := by kernel_rfl
theorem bytes_list (s : ByteArray) (t : ByteArray) : (s.toList == t.toList) = decide (s = t) := by
  rw [Bool.eq_iff_iff, beq_iff_eq, decide_eq_true_eq, ByteArray.toList_eq, ByteArray.toList_eq]
  constructor
  · intro h
    cases s; cases t; simp only at h; congr 1; exact Array.toList_inj.1 h
  · rintro rfl; rfl
theorem word_unhex (w : World) (s : ByteArray) (hs : s.size < 4294967281) : Calls Tryz.prog 181 #[.string s] w fun e w' =>
    e = .returned (.tuple #[.string (wordUnhex s).1, .bool (wordUnhex s).2]) ∧ Ext no w w' := by
  have l45 : ((⟨#[45]⟩ : ByteArray).toList) = [45] := by rw [ByteArray.toList_eq]
  have l0 : ((⟨#[]⟩ : ByteArray).toList) = [] := by rw [ByteArray.toList_eq]
  have b1 := bytes_list s ⟨#[45]⟩
  have b2 := bytes_list s ⟨#[]⟩
  rw [l45] at b1
  rw [l0] at b2
  have hz : s = ⟨#[]⟩ ↔ s.size = 0 := by
    rw [← size_nil]
    constructor
    · rintro rfl; exact l0
    · intro h
      have := bytes_list s ⟨#[]⟩
      rw [h, l0] at this
      simpa using this.symm
  by_cases hd : s = ⟨#[45]⟩
  · have hr := Lib.hid (show wordUnhex s = (ByteArray.empty, true) by unfold wordUnhex; rw [if_pos hd])
    rw [decide_eq_true hd] at b1
    clear hd b2 hz l45 l0
    go_enter Tryz.func181, Tryz.ntmps181
    go_wp2
    go_ret2
    exact ⟨by rw [hr.out]; rfl, Ext.refl _ _⟩
  rw [decide_eq_false hd] at b1
  by_cases he : s.size = 0
  · have hr := Lib.hid (show wordUnhex s = (ByteArray.empty, false) by unfold wordUnhex; rw [if_neg hd, if_pos (.inl he)])
    rw [decide_eq_true (hz.2 he)] at b2
    clear hd he hz l45 l0
    go_enter Tryz.func181, Tryz.ntmps181
    go_wp2
    go_ret2
    exact ⟨by rw [hr.out]; rfl, Ext.refl _ _⟩
  rw [decide_eq_false (fun h => he (hz.1 h))] at b2
  by_cases ho : s.size % 2 = 0
  · have ho' : ((s.size : Int) % 2 != 0) = false := by
      have : (s.size : Int) % 2 = 0 := by omega
      simp [this]
    have hr := Lib.hid (show wordUnhex s = match unhexL s.data.toList [] with | some xs => (strOfNums xs, true) | none => (ByteArray.empty, false) by unfold wordUnhex; rw [if_neg hd, if_neg (by omega)])
    clear hd hz l45 l0
    have HE := Lib.hid he
    have HO := Lib.hid ho
    clear he ho
    obtain ⟨r, hu⟩ : ∃ r, unhexL s.data.toList [] = r := ⟨_, rfl⟩
    rw [hu] at hr
    go_enter Tryz.func181, Tryz.ntmps181
    obtain ⟨i0, hi0, hz0, hz1, hz2⟩ := info_parts i_u8
    go_wp2_with (refine wpList_make_own _ rfl _ _ _ rfl w.heap.size 5 i0 (.int .u8 0) 1 Tryz.underlying117 hi0 hz0 hz1 .i64 .i64 _ (s.size / 2) rfl rfl (by omega) (by rw [hz2]; omega) (by unfold maxLen; omega) (Nat.le_refl _) ?_; intro w1 hown hg)
    have hB1 : Below w.heap.size w w1 := (Below.refl _ w).grown hg (Nat.le_refl _) (fun k hk => by cases hk)
    clear hg
    go_loopw [4, 5] (fun v i wr => UnhexAt w s r v i wr) (fun _ i _ => s.size - (intOf i).toNat)
    case atStart => exact ⟨0, [], rfl, by omega, rfl, hu, hown, hB1, by simp⟩
    case round =>
      clear hown hB1
      obtain ⟨k, acc, rfl, hk, hak, hl, hown, hB, hne⟩ := hrel
      subst hak
      obtain ⟨Av, cv, hv, _⟩ := own_at hown
      subst hv
      have HN := Lib.hid hne
      clear hne
      have ho2 := HO.out
      by_cases hlt : 2 * acc.length < s.size
      · have hlt2 : 2 * acc.length + 1 < s.size := by omega
        have hdl : s.data.toList.drop (2 * acc.length) = (s[2 * acc.length]'hlt) :: (s[2 * acc.length + 1]'hlt2) :: s.data.toList.drop (2 * (acc.length + 1)) := by
          have hs1 : 2 * acc.length < s.data.toList.length := hlt
          have hs2 : 2 * acc.length + 1 < s.data.toList.length := hlt2
          rw [List.drop_eq_getElem_cons hs1, List.drop_eq_getElem_cons hs2]
          rfl
        rw [hdl, unhexL] at hl
        obtain ⟨da0, da1⟩ := hexDigit_lt (s[2 * acc.length]'hlt)
        obtain ⟨db0, db1⟩ := hexDigit_lt (s[2 * acc.length + 1]'hlt2)
        have HL := Lib.hid hl
        clear hl hdl
        go_wp2_with fail
        refine wp_region_ser [(0, false, []), (1, false, []), (2, false, []), (4, false, []), (5, false, []), (6, false, []), (7, false, []), (3, true, [4, 5, 6, 7]), (8, true, []), (9, false, []), (10, false, [])] (by kernel_rfl) (by kernel_rfl) ?_
        have eu : Ext no wr wr.drew := (Ext.refl no wr).drew
        have hown2 := own_ext hown eu (fun _ _ => not_no _)
        have hB2 : Below w.heap.size w wr.drew := hB.drew
        generalize wr.drew = w2 at *
        clear hown hB eu
        have f1 : (0 : Int) ≤ 2 * (acc.length : Int) := by omega
        have f2 : 2 * (acc.length : Int) < (s.size : Int) := by omega
        have f3 : (0 : Int) ≤ 2 * (acc.length : Int) + 1 := by omega
        have f4 : 2 * (acc.length : Int) + 1 < (s.size : Int) := by omega
        repeat (first | (refine ser_next (by rfl) (by rfl) (by rfl) (fun K hK => ?_); (first | go_big_move | go_big_op); refine hK _ ?_; clear hK K) | (refine ser_off (by rfl) (by rfl) ?_; simp only [Act.put, List.setIfInBounds_toArray, List.set_cons_zero, List.set_cons_succ]))
        refine ser_eff (by rfl) (by rfl) (fun K hK => ?_)
        go_big_op
        refine (word_digit w2 (s[2 * acc.length]'hlt)).mono ?_
        rintro e w3 ⟨rfl, rfl⟩
        refine hK _ _ ?_ ?_
        · repeat (first | exact ag_nil | (refine ag_cons (by rfl) (by rfl) (by rfl) (by rfl) (by rfl) (fun K hK => ?_) ?_; · ((first | go_big_move | go_big_op); exact hK)) | (refine ag_off (by rfl) (by rfl) (by rfl) (by rfl) ?_))
        clear hK K
        refine ser_eff (by rfl) (by rfl) (fun K hK => ?_)
        go_big_op
        refine (word_digit w2 (s[2 * acc.length + 1]'hlt2)).mono ?_
        rintro e w3 ⟨rfl, rfl⟩
        refine hK _ _ ag_nil ?_
        clear hK K
        repeat (first | (refine ser_next (by rfl) (by rfl) (by rfl) (fun K hK => ?_); (first | go_big_move | go_big_op); refine hK _ ?_; clear hK K) | (refine ser_off (by rfl) (by rfl) ?_; simp only [Act.put, List.setIfInBounds_toArray, List.set_cons_zero, List.set_cons_succ]))
        refine ser_nil ?_
        obtain ⟨hi, hhi⟩ : ∃ hi, hexDigit (s[2 * acc.length]'hlt) = hi := ⟨_, rfl⟩
        obtain ⟨lo, hlo⟩ : ∃ lo, hexDigit (s[2 * acc.length + 1]'hlt2) = lo := ⟨_, rfl⟩
        rw [hhi] at da0 da1
        rw [hlo] at db0 db1
        have HL2 := HL.out
        rw [hhi, hlo] at HL2
        rw [hhi, hlo]
        have HL3 := Lib.hid HL2
        clear HL2 HL hhi hlo
        by_cases h0 : 0 ≤ hi
        · by_cases h1 : 0 ≤ lo
          · have HL4 := HL3.out
            rw [if_pos ⟨h0, h1⟩] at HL4
            have HL5 := Lib.hid HL4
            clear HL4 HL3
            have g1 : 0 ≤ hi * 16 + lo := by omega
            have g2 : hi * 16 + lo < 256 := by omega
            have g3 : 0 ≤ hi * 16 := by omega
            have g4 : hi * 16 < 256 := by omega
            go_wp2_with (at_builtin; refine wpList_append1 rfl _ _ _ rfl w.heap.size 5 Tryz.underlying117 i_u8 rfl (by decide) (.slice Av acc.length cv) acc.length (u8C acc) rfl hown2 #[.int .u8 (hi * 16 + lo)] rfl rfl (by simp [Value.oneCell']) (by unfold maxLen; omega) (by omega) hB2.size ?_; intro g cap w4 hown4 e4 hwh hlt4)
            go_roundw
            case measure => simp [intOf]; omega
            case rel =>
              refine ⟨acc.length + 1, acc ++ [hi * 16 + lo], by go_num, by omega, by simp, HL5.out, ?_, ?_, by simp⟩
              · rw [List.length_append, List.length_singleton, u8C, List.map_append]; exact hown4
              · exact hB2.trans (e4.below hB2.size (fun k hk => (own_row hown2 hk).2))
          · have hA : r = none := by
              have HL4 := HL3.out
              rw [if_neg (fun h => h1 h.2)] at HL4
              exact HL4.symm
            have h1' : lo < 0 := by omega
            subst hA
            go_wp2
            go_ret2
            exact ⟨by rw [hr.out]; rfl, Below.toExt hB2 no⟩
        · have hA : r = none := by
            have HL4 := HL3.out
            rw [if_neg (fun h => h0 h.1)] at HL4
            exact HL4.symm
          have h0' : hi < 0 := by omega
          subst hA
          go_wp2
          go_ret2
          exact ⟨by rw [hr.out]; rfl, Below.toExt hB2 no⟩
      · have hk2 : 2 * acc.length = s.size := by omega
        have hA : r = some acc := by
          rw [hk2, List.drop_eq_nil_of_le (by exact Nat.le_refl _)] at hl
          exact hl.symm
        subst hA
        have hlen := own_len hown
        obtain ⟨g, cap, cur, he, hg, hh, hn1, hn2, hn3, htk⟩ := hown.2.resolve_left (fun h => HN.out h.1)
        cases he
        have hcv := fun dst hd => run_convert_bytes_arg (P := Tryz.prog) wr 117 5 Tryz.underlying117 Tryz.underlying5 g 0 acc.length cv acc rfl (fun i hi => by
          have := hown.cells (g := g) rfl i (.int .u8 (acc.getD i 0)) (by
            simp only [u8C, List.getElem?_map]
            rw [List.getD_eq_getElem?_getD, List.getElem?_eq_getElem hi]; rfl)
          have add : (⟨g, 0, none⟩ : Addr).add i = ⟨g, 0 + i, none⟩ := by unfold Addr.add; split <;> simp_all
          rwa [add] at this) dst hd
        have hcv2 := hcv 9 Tryz.underlying9
        have hlt3 : ¬ 2 * acc.length < s.size := hlt
        clear hlt hh hl
        go_wp2
        go_ret2
        exact ⟨by rw [hr.out]; rfl, Below.toExt hB no⟩
  · have ho' : ((s.size : Int) % 2 != 0) = true := by
      have : ¬ (s.size : Int) % 2 = 0 := by omega
      simp [this]
    have hr := Lib.hid (show wordUnhex s = (ByteArray.empty, false) by unfold wordUnhex; rw [if_neg hd, if_pos (.inr ho)])
    clear hd he hz l45 l0 ho
    go_enter Tryz.func181, Tryz.ntmps181
    go_wp2
    go_ret2
    exact ⟨by rw [hr.out]; rfl, Ext.refl _ _⟩
end Go.Proofs.YtiiaklaojlnokaaGreatDoor.B
