/- Package spec (seat ZD): the reader's take: contract. -/
import Derived.Test.YtiiaklaojlnokaaGreatDoorReaderC
set_option linter.unusedVariables false
set_option linter.unusedSimpArgs false
namespace Go.Proofs.YtiiaklaojlnokaaGreatDoor.B
open Go Go.RowKit
set_option maxRecDepth 100000
set_option maxHeartbeats 1000000

def vocabW : ByteArray := ⟨#[118, 111, 99, 97, 98]⟩
def mergeW : ByteArray := ⟨#[109, 101, 114, 103, 101]⟩
def tokenW : ByteArray := ⟨#[116, 111, 107, 101, 110]⟩
def specialW : ByteArray := ⟨#[115, 112, 101, 99, 105, 97, 108]⟩
def classW : ByteArray := ⟨#[99, 108, 97, 115, 115]⟩
def joinW : ByteArray := ⟨#[106, 111, 105, 110]⟩
def withOk (k : Int) (S : SpecD) (q : Option SpecD) : SpecD × Int × Bool := match q with | some S' => (S', k, true) | none => (S, k, false)
def withOk2 (k : Int) (S : SpecD) (q : Option (SpecD × Bool)) : SpecD × Int × Bool := match q with | some (S', ok) => (S', k, ok) | none => (S, k, false)
/-- The spec behind a line, the line's kind, and whether it is right. -/
def takeD (S : SpecD) (first : ByteArray) (l : List ByteArray) : SpecD × Int × Bool :=
  if first = vocabW then ({ S with ranked := (headD l).1 }, 0, (headD l).2)
  else if first = mergeW then withOk 1 S ((of2 (numbersD l 2)).map fun q => { S with merges := S.merges ++ [q] })
  else if first = tokenW then withOk2 1 S (tokenD S l)
  else if first = specialW then withOk2 2 S (specialD S l)
  else if first = classW then withOk 3 S ((of3 (numbersD l 3)).map fun q => { S with classes := S.classes ++ [q] })
  else if first = joinW then withOk 4 S ((of2 (numbersD l 2)).map fun q => { S with joins := S.joins ++ [q] })
  else (S, 0, false)
def TakePost (B : Nat) (w : World) (r : Nat) (kind : Int) (q : SpecD × Int × Bool) (e : Ending) (w' : World) : Prop :=
  Below B w w' ∧ e = .returned (.tuple #[.int .i64 q.2.1, .bool q.2.2]) ∧ ∃ p', RdIn B w' r q.1 p' kind
theorem RdPost.take {B : Nat} {w : World} {r : Nat} {S : SpecD} {p : SpecP} {kind k : Int} {q : Option SpecD} {e : Ending} {w' : World} (h : RdPost B w r S p kind q e w') : ∃ ok, e = .returned (.bool ok) ∧ TakePost B w r kind (withOk k S q) (.returned (.tuple #[.int .i64 k, .bool ok])) w' := by
  obtain ⟨hb, h⟩ := h
  cases q with
  | some S' => exact ⟨true, h.1, hb, rfl, h.2⟩
  | none => exact ⟨false, h.1, hb, rfl, p, h.2⟩
theorem AddPost.take {B : Nat} {w : World} {r : Nat} {S : SpecD} {p : SpecP} {kind k : Int} {q : Option (SpecD × Bool)} {e : Ending} {w' : World} (h : AddPost B w r S p kind q e w') : ∃ ok, e = .returned (.bool ok) ∧ TakePost B w r kind (withOk2 k S q) (.returned (.tuple #[.int .i64 k, .bool ok])) w' := by
  obtain ⟨hb, h⟩ := h
  cases q with
  | some q => exact ⟨q.2, h.1, hb, rfl, h.2⟩
  | none => exact ⟨false, h.1, hb, rfl, p, h.2⟩
theorem reader_take (B : Nat) (w : World) (hS : Std w) (r : Nat) (S : SpecD) (p : SpecP) (kind : Int) (h : RdIn B w r S p kind) (hB : B ≤ w.heap.size) (hs : S.Small) (s : ByteArray) (A : Option Addr) (c : Nat) (l : List ByteArray) (hR : RowAt w A (l.flatMap textC)) (hn : l.length ≤ 1048576) (hsz : ∀ x ∈ l, x.size < 4294967281) :
    Calls Tryz.prog 111 #[.pointer (some ⟨r, 0, none⟩), .string s, .slice A l.length c] w (TakePost B w r kind (takeD S s l)) := by
  have hsz' : ∀ x ∈ l, x.size ≤ 281474976710656 := fun x hx => by have := hsz x hx; omega
  have l_vocab : vocabW.toList = [118, 111, 99, 97, 98] := by rw [ByteArray.toList_eq]; rfl
  have b_vocab := bytes_list s vocabW
  rw [l_vocab] at b_vocab
  have l_merge : mergeW.toList = [109, 101, 114, 103, 101] := by rw [ByteArray.toList_eq]; rfl
  have b_merge := bytes_list s mergeW
  rw [l_merge] at b_merge
  have l_token : tokenW.toList = [116, 111, 107, 101, 110] := by rw [ByteArray.toList_eq]; rfl
  have b_token := bytes_list s tokenW
  rw [l_token] at b_token
  have l_special : specialW.toList = [115, 112, 101, 99, 105, 97, 108] := by rw [ByteArray.toList_eq]; rfl
  have b_special := bytes_list s specialW
  rw [l_special] at b_special
  have l_class : classW.toList = [99, 108, 97, 115, 115] := by rw [ByteArray.toList_eq]; rfl
  have b_class := bytes_list s classW
  rw [l_class] at b_class
  have l_join : joinW.toList = [106, 111, 105, 110] := by rw [ByteArray.toList_eq]; rfl
  have b_join := bytes_list s joinW
  rw [l_join] at b_join
  clear l_vocab l_merge l_token l_special l_class l_join
  unfold takeD
  by_cases h_vocab : s = vocabW
  · rw [if_pos h_vocab]
    rw [decide_eq_true h_vocab] at b_vocab
    clear h_vocab
    clear b_merge b_token b_special b_class b_join
    go_enter Tryz.func111, Tryz.ntmps111
    go_wp2_with fail
    refine (reader_head B w r S p kind h A c l hR hn).mono ?_
    rintro e w' ⟨hb, rfl, hr⟩
    go_wp2
    go_ret2
    exact ⟨hb, rfl, p, hr⟩
  rw [if_neg h_vocab]
  rw [decide_eq_false h_vocab] at b_vocab
  clear h_vocab
  by_cases h_merge : s = mergeW
  · rw [if_pos h_merge]
    rw [decide_eq_true h_merge] at b_merge
    clear h_merge
    clear b_token b_special b_class b_join
    go_enter Tryz.func111, Tryz.ntmps111
    go_wp2_with fail
    refine (reader_merge B w hS r S p kind h hB hs A c l hR hn hsz').mono ?_
    intro e w' hp
    obtain ⟨ok, rfl, ht⟩ := hp.take (k := 1)
    have HT := Lib.hid ht
    clear ht hp
    go_wp2
    go_ret2
    exact HT.out
  rw [if_neg h_merge]
  rw [decide_eq_false h_merge] at b_merge
  clear h_merge
  by_cases h_token : s = tokenW
  · rw [if_pos h_token]
    rw [decide_eq_true h_token] at b_token
    clear h_token
    clear b_special b_class b_join
    go_enter Tryz.func111, Tryz.ntmps111
    go_wp2_with fail
    refine (reader_token B w r S p kind h hB hs A c l hR hn hsz).mono ?_
    intro e w' hp
    obtain ⟨ok, rfl, ht⟩ := hp.take (k := 1)
    have HT := Lib.hid ht
    clear ht hp
    go_wp2
    go_ret2
    exact HT.out
  rw [if_neg h_token]
  rw [decide_eq_false h_token] at b_token
  clear h_token
  by_cases h_special : s = specialW
  · rw [if_pos h_special]
    rw [decide_eq_true h_special] at b_special
    clear h_special
    clear b_class b_join
    go_enter Tryz.func111, Tryz.ntmps111
    go_wp2_with fail
    refine (reader_special B w hS r S p kind h hB hs A c l hR hn hsz).mono ?_
    intro e w' hp
    obtain ⟨ok, rfl, ht⟩ := hp.take (k := 2)
    have HT := Lib.hid ht
    clear ht hp
    go_wp2
    go_ret2
    exact HT.out
  rw [if_neg h_special]
  rw [decide_eq_false h_special] at b_special
  clear h_special
  by_cases h_class : s = classW
  · rw [if_pos h_class]
    rw [decide_eq_true h_class] at b_class
    clear h_class
    clear b_join
    go_enter Tryz.func111, Tryz.ntmps111
    go_wp2_with fail
    refine (reader_class B w hS r S p kind h hB hs A c l hR hn hsz').mono ?_
    intro e w' hp
    obtain ⟨ok, rfl, ht⟩ := hp.take (k := 3)
    have HT := Lib.hid ht
    clear ht hp
    go_wp2
    go_ret2
    exact HT.out
  rw [if_neg h_class]
  rw [decide_eq_false h_class] at b_class
  clear h_class
  by_cases h_join : s = joinW
  · rw [if_pos h_join]
    rw [decide_eq_true h_join] at b_join
    clear h_join
    go_enter Tryz.func111, Tryz.ntmps111
    go_wp2_with fail
    refine (reader_join B w hS r S p kind h hB hs A c l hR hn hsz').mono ?_
    intro e w' hp
    obtain ⟨ok, rfl, ht⟩ := hp.take (k := 4)
    have HT := Lib.hid ht
    clear ht hp
    go_wp2
    go_ret2
    exact HT.out
  rw [if_neg h_join]
  rw [decide_eq_false h_join] at b_join
  clear h_join
  go_enter Tryz.func111, Tryz.ntmps111
  go_wp2
  go_ret2
  exact ⟨Below.refl _ _, rfl, p, h⟩
end Go.Proofs.YtiiaklaojlnokaaGreatDoor.B
