/- Word, kindWord, eventWord, data, walked. -/
import Derived.Test.YtpknkifmjokhgaaDoorRtB
set_option linter.unusedVariables false
namespace Go.Proofs.YtpknkifmjokhgaaDoor
open Go Go.RowKit

def bs (l : List UInt8) : ByteArray := ⟨l.toArray⟩

/-- The words that stand in a table of words, else a name and the number. -/
def wordIn (ws : List (List UInt8)) (name : ByteArray) (n : Int) : ByteArray :=
  if 0 ≤ n ∧ n < ws.length ∧ (ws.getD n.toNat []) ≠ [] then bs (ws.getD n.toNat []) else name ++ ⟨#[32]⟩ ++ itoaS n

theorem listed_words (ws : List (List UInt8)) (b cap : Nat) (name : ByteArray) (n : Int) (hn : I64 n) (hname : name.size ≤ 2147483647) (w : World) (ht : Tab w) (hl : ws.length ≤ 100)
    (hc : ∀ k, k < ws.length → w.cell? ⟨b, k, none⟩ = some (.string (bs (ws.getD k [])))) :
    Calls Tryd.prog 20 #[.slice (some ⟨b, 0, none⟩) ws.length cap, .int .i64 n, .string name] w fun e w' => e = .returned (.string (wordIn ws name n)) ∧ Below w.heap.size w w' := by
  by_cases h : 0 ≤ n ∧ n < ws.length
  · obtain ⟨k, rfl⟩ := Int.eq_ofNat_of_zero_le h.1
    have hk : k < ws.length := by omega
    by_cases h0 : ws.getD k [] = []
    · have e : wordIn ws name k = name ++ ⟨#[32]⟩ ++ itoaS k := by unfold wordIn; rw [if_neg (by simp only [Int.toNat_natCast]; exact fun hh => hh.2.2 h0)]
      rw [e]
      exact listed_empty b k ws.length cap _ name hname w ht hk (by omega) (hc k hk) (by rw [h0, ByteArray.toList_eq]; rfl)
    · have e : wordIn ws name k = bs (ws.getD k []) := by unfold wordIn; rw [if_pos (by simp only [Int.toNat_natCast]; exact ⟨h.1, h.2, h0⟩)]; rfl
      rw [e]
      refine (listed_in b k ws.length cap _ name w hk (by omega) (hc k hk) ?_).mono ?_
      · have : (bs (ws.getD k [])).toList = ws.getD k [] := by simp [bs, ByteArray.toList_eq]
        rw [this]; cases hx : ws.getD k [] with
        | nil => exact absurd hx h0
        | cons _ _ => rfl
      · rintro e w' ⟨rfl, rfl⟩; exact ⟨rfl, Below.refl _ _⟩
  · have e : wordIn ws name n = name ++ ⟨#[32]⟩ ++ itoaS n := by unfold wordIn; rw [if_neg (fun hh => h ⟨hh.1, hh.2.1⟩)]
    rw [e]
    exact listed_out b ws.length cap n name hname w ht hn (by omega)


def wordL : List (List UInt8) := [[111, 107], [115, 104, 111, 114, 116], [114, 101, 115, 116], [116, 97, 103], [114, 97, 110, 103, 101], [108, 101, 110, 103, 116, 104], [115, 117, 109], [107, 105, 110, 100], [112, 108, 97, 110], [115, 116, 97, 116, 101], [98, 97, 115, 101], [115, 105, 122, 101], [97, 114, 103, 117, 109, 101, 110, 116], [101, 110, 100], [98, 117, 115, 121], [100, 111, 119, 110], [108, 111, 115, 116], [110, 111, 110, 101], [116, 101, 120, 116], [115, 116, 111, 112], [100, 105, 118, 105, 100, 101]]
def wordS (n : Int) : ByteArray := wordIn wordL ⟨#[101, 114, 114, 111, 114]⟩ n
set_option maxHeartbeats 400000 in
theorem word_calls (n : Int) (hn : I64 n) (w : World) (ht : Tab w) :
    Calls Tryd.prog 8 #[.int .i64 n] w fun e w' => e = .returned (.string (wordS n)) ∧ Below w.heap.size w w' := by
  have ht2 : ∀ o, Tab (w.alloc o) := fun o => ht.below ((Below.refl _ _).alloc (Nat.le_refl _) o)
  have hc : ∀ (T : TypeId) (k : Nat), k < wordL.length → (w.alloc (.cells (wordL.map fun l => Value.string (bs l)).toArray T)).cell? ⟨w.heap.size, k, none⟩ = some (.string (bs (wordL.getD k []))) := by
    intro T k hk
    rw [World.cell?_alloc_at _ _ _ _ rfl]
    simp only [List.getElem?_toArray, List.getElem?_map, List.getElem?_eq_getElem hk, List.getD_eq_getElem?_getD, Option.map_some, Option.getD_some]
  go_enter Tryd.func8, Tryd.ntmps8
  go_wp2_with (go_at_call 20; refine (listed_words wordL w.heap.size 21 ⟨#[101, 114, 114, 111, 114]⟩ n hn (by decide) _ (ht2 _) (by decide) (hc _)).mono ?_)
  rintro e w1 ⟨rfl, hb⟩
  go_wp2
  go_ret
  exact ⟨rfl, ((Below.refl _ _).alloc (Nat.le_refl _) _).trans (hb.mono (by simp))⟩

def kindWordL : List (List UInt8) := [[], [102, 97, 117, 108, 116], [114, 97, 105, 115, 101], [100, 114, 111, 112]]
def kindWordS (n : Int) : ByteArray := wordIn kindWordL ⟨#[114, 101, 112, 111, 114, 116]⟩ n
set_option maxHeartbeats 400000 in
theorem kindWord_calls (n : Int) (hn : I64 n) (w : World) (ht : Tab w) :
    Calls Tryd.prog 22 #[.int .i64 n] w fun e w' => e = .returned (.string (kindWordS n)) ∧ Below w.heap.size w w' := by
  have ht2 : ∀ o, Tab (w.alloc o) := fun o => ht.below ((Below.refl _ _).alloc (Nat.le_refl _) o)
  have hc : ∀ (T : TypeId) (k : Nat), k < kindWordL.length → (w.alloc (.cells (kindWordL.map fun l => Value.string (bs l)).toArray T)).cell? ⟨w.heap.size, k, none⟩ = some (.string (bs (kindWordL.getD k []))) := by
    intro T k hk
    rw [World.cell?_alloc_at _ _ _ _ rfl]
    simp only [List.getElem?_toArray, List.getElem?_map, List.getElem?_eq_getElem hk, List.getD_eq_getElem?_getD, Option.map_some, Option.getD_some]
  go_enter Tryd.func22, Tryd.ntmps22
  go_wp2_with (go_at_call 20; refine (listed_words kindWordL w.heap.size 4 ⟨#[114, 101, 112, 111, 114, 116]⟩ n hn (by decide) _ (ht2 _) (by decide) (hc _)).mono ?_)
  rintro e w1 ⟨rfl, hb⟩
  go_wp2
  go_ret
  exact ⟨rfl, ((Below.refl _ _).alloc (Nat.le_refl _) _).trans (hb.mono (by simp))⟩

def eventWordL : List (List UInt8) := [[], [98, 101, 103, 117, 110], [102, 114, 111, 122, 101, 110], [114, 101, 108, 101, 97, 115, 101, 100], [115, 116, 97, 114, 116, 101, 100], [111, 118, 101, 114], [97, 98, 111, 114, 116, 101, 100], [98, 97, 99, 107], [116, 97, 107, 101, 110], [108, 111, 115, 116]]
def eventWordS (n : Int) : ByteArray := wordIn eventWordL ⟨#[101, 118, 101, 110, 116]⟩ n
set_option maxHeartbeats 400000 in
theorem eventWord_calls (n : Int) (hn : I64 n) (w : World) (ht : Tab w) :
    Calls Tryd.prog 11 #[.int .i64 n] w fun e w' => e = .returned (.string (eventWordS n)) ∧ Below w.heap.size w w' := by
  have ht2 : ∀ o, Tab (w.alloc o) := fun o => ht.below ((Below.refl _ _).alloc (Nat.le_refl _) o)
  have hc : ∀ (T : TypeId) (k : Nat), k < eventWordL.length → (w.alloc (.cells (eventWordL.map fun l => Value.string (bs l)).toArray T)).cell? ⟨w.heap.size, k, none⟩ = some (.string (bs (eventWordL.getD k []))) := by
    intro T k hk
    rw [World.cell?_alloc_at _ _ _ _ rfl]
    simp only [List.getElem?_toArray, List.getElem?_map, List.getElem?_eq_getElem hk, List.getD_eq_getElem?_getD, Option.map_some, Option.getD_some]
  go_enter Tryd.func11, Tryd.ntmps11
  go_wp2_with (go_at_call 20; refine (listed_words eventWordL w.heap.size 10 ⟨#[101, 118, 101, 110, 116]⟩ n hn (by decide) _ (ht2 _) (by decide) (hc _)).mono ?_)
  rintro e w1 ⟨rfl, hb⟩
  go_wp2
  go_ret
  exact ⟨rfl, ((Below.refl _ _).alloc (Nat.le_refl _) _).trans (hb.mono (by simp))⟩

end Go.Proofs.YtpknkifmjokhgaaDoor
