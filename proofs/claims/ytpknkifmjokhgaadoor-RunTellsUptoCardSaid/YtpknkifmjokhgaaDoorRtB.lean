/- Words, tags and numbers of package run, walked. -/
import Derived.Test.YtpknkifmjokhgaaDoorRtA
import Derived.Shelf.LaysM
import Derived.Shelf.Strconv.Itoa3
import Derived.Test.YtpknkifmjokhgaaDoorShelf
import Derived.Lib.QuietBelow
import Derived.Lib.AppendIntMem
import Derived.Lib.ItoaLen
set_option linter.unusedVariables false
namespace Go.Proofs.YtpknkifmjokhgaaDoor
open Go Go.RowKit

/-- The table that Itoa reads is there. -/
def Tab (w : World) : Prop := Lib.TabIs Tryd.prog w "internal/strconv.uint64pow10" .u64 Lib.pow10Tab
theorem Tab.below {w w' : World} (h : Tab w) (hb : Below w.heap.size w w') : Tab w' := Lib.tabBelow_of_tabIs h w' hb

/-- A number that is an int. -/
def I64 (n : Int) : Prop := -9223372036854775808 ≤ n ∧ n ≤ 9223372036854775807

def itoaS (n : Int) : ByteArray := ⟨(Lib.itoa n).toArray⟩

theorem itoaS_size (n : Int) (hn : I64 n) : (itoaS n).size ≤ 21 := Lib.itoa_length_le n hn.1 hn.2
theorem itoa_calls (n : Int) (hn : I64 n) (w : World) (ht : Tab w) :
    Calls Tryd.prog 19 #[.int .i64 n] w fun e w' => e = .returned (.string (itoaS n)) ∧ Below w.heap.size w w' := by
  refine (Tryd.strconv_Itoa n hn.1 hn.2 w ht).mono ?_
  rintro e w' ⟨rfl, k, os, rfl⟩
  exact ⟨rfl, Lib.below_grow _ _ (Nat.le_refl _) _ _⟩

set_option maxHeartbeats 400000 in
theorem tag_calls (s : ByteArray) (n : Int) (hs : s.size ≤ 2147483647) (hn : I64 n) (w : World) (ht : Tab w) :
    Calls Tryd.prog 10 #[.string s, .int .i64 n] w fun e w' => e = .returned (.string (s ++ itoaS n)) ∧ Below w.heap.size w w' := by
  have hz := itoaS_size n hn
  go_enter Tryd.func10, Tryd.ntmps10
  go_wp2_with (go_at_call 19; refine (itoa_calls n hn _ ht).mono ?_)
  rintro e w1 ⟨rfl, hb⟩
  go_wp2
  go_ret
  exact ⟨rfl, hb⟩

set_option maxHeartbeats 400000 in
theorem listed_in (b k len cap : Nat) (s name : ByteArray) (w : World) (hk : k < len) (hl : len ≤ 9223372036854775807) (hc : w.cell? ⟨b, k, none⟩ = some (.string s)) (hs : s.toList.isEmpty = false) :
    Calls Tryd.prog 20 #[.slice (some ⟨b, 0, none⟩) len cap, .int .i64 k, .string name] w fun e w' => e = .returned (.string s) ∧ w = w' := by
  go_enter Tryd.func20, Tryd.ntmps20
  go_wp2
  go_ret
  exact ⟨rfl, rfl⟩

set_option maxHeartbeats 400000 in
theorem listed_empty (b k len cap : Nat) (s name : ByteArray) (hname : name.size ≤ 2147483647) (w : World) (ht : Tab w) (hk : k < len) (hl : len ≤ 9223372036854775807) (hc : w.cell? ⟨b, k, none⟩ = some (.string s)) (hs : s.toList.isEmpty = true) :
    Calls Tryd.prog 20 #[.slice (some ⟨b, 0, none⟩) len cap, .int .i64 k, .string name] w fun e w' => e = .returned (.string (name ++ ⟨#[32]⟩ ++ itoaS k)) ∧ Below w.heap.size w w' := by
  have hz := itoaS_size k ⟨by omega, by omega⟩
  go_enter Tryd.func20, Tryd.ntmps20
  go_wp2_with (go_at_call 19; refine (itoa_calls k ⟨by omega, by omega⟩ _ ht).mono ?_)
  rintro e w1 ⟨rfl, hb⟩
  go_wp2
  go_ret
  exact ⟨rfl, hb⟩

set_option maxHeartbeats 400000 in
theorem listed_out (b len cap : Nat) (n : Int) (name : ByteArray) (hname : name.size ≤ 2147483647) (w : World) (ht : Tab w) (hn : I64 n) (h : n < 0 ∨ (len : Int) ≤ n) :
    Calls Tryd.prog 20 #[.slice (some ⟨b, 0, none⟩) len cap, .int .i64 n, .string name] w fun e w' => e = .returned (.string (name ++ ⟨#[32]⟩ ++ itoaS n)) ∧ Below w.heap.size w w' := by
  have hz := itoaS_size n hn
  rcases h with h | h
  · have h1 : decide (0 ≤ n) = false := decide_eq_false (by omega)
    go_enter Tryd.func20, Tryd.ntmps20
    go_wp2_with (go_at_call 19; refine (itoa_calls n hn _ ht).mono ?_)
    rintro e w1 ⟨rfl, hb⟩
    go_wp2
    go_ret
    exact ⟨rfl, hb⟩
  · have h1 : decide (0 ≤ n) = true := decide_eq_true (by omega)
    have h2 : decide (n < (len : Int)) = false := decide_eq_false (by omega)
    go_enter Tryd.func20, Tryd.ntmps20
    go_wp2_with (go_at_call 19; refine (itoa_calls n hn _ ht).mono ?_)
    rintro e w1 ⟨rfl, hb⟩
    go_wp2
    go_ret
    exact ⟨rfl, hb⟩

end Go.Proofs.YtpknkifmjokhgaaDoor
