/- Word, kind, event, digit, Data of the references, walked. -/
import Derived.Test.YtpknkifmjokhgaaDoorRtI
set_option linter.unusedVariables false
namespace Go.Proofs.YtpknkifmjokhgaaDoor
open Go Go.RowKit Go.Sort

def wordT : List UInt8 := [111, 107, 32, 115, 104, 111, 114, 116, 32, 114, 101, 115, 116, 32, 116, 97, 103, 32, 114, 97, 110, 103, 101, 32, 108, 101, 110, 103, 116, 104, 32, 115, 117, 109, 32, 107, 105, 110, 100, 32, 112, 108, 97, 110, 32, 115, 116, 97, 116, 101, 32, 98, 97, 115, 101, 32, 115, 105, 122, 101, 32, 97, 114, 103, 117, 109, 101, 110, 116, 32, 101, 110, 100, 32, 98, 117, 115, 121, 32, 100, 111, 119, 110, 32, 108, 111, 115, 116, 32, 110, 111, 110, 101, 32, 116, 101, 120, 116, 32, 115, 116, 111, 112, 32, 100, 105, 118, 105, 100, 101]
theorem wordS_eq (n : Int) : wordS n = if 0 ≤ n ∧ n < 21 then bs (nthL wordT 0 n) else ⟨#[101, 114, 114, 111, 114]⟩ ++ ⟨#[32]⟩ ++ itoaS n := by
  refine wordIn_nth wordL _ n wordT 0 (by omega) (fun k hk hl => ?_) (fun k hk => ?_)
  · have : k < 21 := hk
    match k, this with
    | 0, _ => exact ⟨by decide, by decide⟩
    | 1, _ => exact ⟨by decide, by decide⟩
    | 2, _ => exact ⟨by decide, by decide⟩
    | 3, _ => exact ⟨by decide, by decide⟩
    | 4, _ => exact ⟨by decide, by decide⟩
    | 5, _ => exact ⟨by decide, by decide⟩
    | 6, _ => exact ⟨by decide, by decide⟩
    | 7, _ => exact ⟨by decide, by decide⟩
    | 8, _ => exact ⟨by decide, by decide⟩
    | 9, _ => exact ⟨by decide, by decide⟩
    | 10, _ => exact ⟨by decide, by decide⟩
    | 11, _ => exact ⟨by decide, by decide⟩
    | 12, _ => exact ⟨by decide, by decide⟩
    | 13, _ => exact ⟨by decide, by decide⟩
    | 14, _ => exact ⟨by decide, by decide⟩
    | 15, _ => exact ⟨by decide, by decide⟩
    | 16, _ => exact ⟨by decide, by decide⟩
    | 17, _ => exact ⟨by decide, by decide⟩
    | 18, _ => exact ⟨by decide, by decide⟩
    | 19, _ => exact ⟨by decide, by decide⟩
    | 20, _ => exact ⟨by decide, by decide⟩
    | k + 21, h => exact absurd hk (by simp [wordL])
  · omega
set_option maxHeartbeats 400000 in
set_option maxRecDepth 10000 in
theorem ref_word_calls (n : Int) (hn : I64 n) (w : World) : Calls Tryd.prog 13 #[.int .i64 n] w fun e w' => e = .returned (.string (wordS n)) ∧ Below w.heap.size w w' := by
  have hz := itoaS_size n hn
  by_cases h : 0 ≤ n ∧ n < 21
  · have e : wordS n = bs (nthL wordT 0 n) := by rw [wordS_eq, if_pos h]
    have h1 := h.1
    have h2 : n ≤ 20 := by omega
    rw [e]
    clear e h
    go_enter Tryd.func13, Tryd.ntmps13
    go_wp2_with (go_at_call 23; refine (nth_calls (bs wordT) n hn (by decide) _).mono ?_; rintro e w1 ⟨rfl, hb⟩)
    go_ret
    exact ⟨rfl, hb⟩
  · have e : wordS n = ⟨#[101, 114, 114, 111, 114, 32]⟩ ++ itoaS n := by
      rw [wordS_eq, if_neg h]
      apply ByteArray.ext
      simp
    rw [e]
    clear e
    by_cases h1 : n < 0
    · have hd : decide (0 ≤ n) = false := decide_eq_false (by omega)
      have hd' : decide (n < 0) = true := decide_eq_true h1
      go_enter Tryd.func13, Tryd.ntmps13
      go_wp2_with (go_at_call 14; refine (number_calls n hn _).mono ?_; rintro e w1 ⟨rfl, hb⟩)
      go_ret
      exact ⟨rfl, hb⟩
    · have h3 : 20 < n := by omega
      have h4 : 0 ≤ n := by omega
      clear h h1
      go_enter Tryd.func13, Tryd.ntmps13
      go_wp2_with (go_at_call 14; refine (number_calls n hn _).mono ?_; rintro e w1 ⟨rfl, hb⟩)
      go_ret
      exact ⟨rfl, hb⟩

def kindWordT : List UInt8 := [45, 32, 102, 97, 117, 108, 116, 32, 114, 97, 105, 115, 101, 32, 100, 114, 111, 112]
theorem kindWordS_eq (n : Int) : kindWordS n = if 1 ≤ n ∧ n < 4 then bs (nthL kindWordT 0 n) else ⟨#[114, 101, 112, 111, 114, 116]⟩ ++ ⟨#[32]⟩ ++ itoaS n := by
  refine wordIn_nth kindWordL _ n kindWordT 1 (by omega) (fun k hk hl => ?_) (fun k hk => ?_)
  · have : k < 4 := hk
    have : 1 ≤ k := by omega
    match k, this with
    | 0, h => exact absurd h (by omega)
    | 1, _ => exact ⟨by decide, by decide⟩
    | 2, _ => exact ⟨by decide, by decide⟩
    | 3, _ => exact ⟨by decide, by decide⟩
    | k + 4, h => exact absurd hk (by simp [kindWordL])
  · obtain rfl : k = 0 := by omega
    rfl
set_option maxHeartbeats 400000 in
set_option maxRecDepth 10000 in
theorem ref_kindWord_calls (n : Int) (hn : I64 n) (w : World) : Calls Tryd.prog 25 #[.int .i64 n] w fun e w' => e = .returned (.string (kindWordS n)) ∧ Below w.heap.size w w' := by
  have hz := itoaS_size n hn
  by_cases h : 1 ≤ n ∧ n < 4
  · have e : kindWordS n = bs (nthL kindWordT 0 n) := by rw [kindWordS_eq, if_pos h]
    have h1 := h.1
    have h2 : n ≤ 3 := by omega
    rw [e]
    clear e h
    go_enter Tryd.func25, Tryd.ntmps25
    go_wp2_with (go_at_call 23; refine (nth_calls (bs kindWordT) n hn (by decide) _).mono ?_; rintro e w1 ⟨rfl, hb⟩)
    go_ret
    exact ⟨rfl, hb⟩
  · have e : kindWordS n = ⟨#[114, 101, 112, 111, 114, 116, 32]⟩ ++ itoaS n := by
      rw [kindWordS_eq, if_neg h]
      apply ByteArray.ext
      simp
    rw [e]
    clear e
    by_cases h1 : n < 1
    · have hd : decide (1 ≤ n) = false := decide_eq_false (by omega)
      have hd' : decide (n < 1) = true := decide_eq_true h1
      go_enter Tryd.func25, Tryd.ntmps25
      go_wp2_with (go_at_call 14; refine (number_calls n hn _).mono ?_; rintro e w1 ⟨rfl, hb⟩)
      go_ret
      exact ⟨rfl, hb⟩
    · have h3 : 3 < n := by omega
      have h4 : 1 ≤ n := by omega
      clear h h1
      go_enter Tryd.func25, Tryd.ntmps25
      go_wp2_with (go_at_call 14; refine (number_calls n hn _).mono ?_; rintro e w1 ⟨rfl, hb⟩)
      go_ret
      exact ⟨rfl, hb⟩

def eventWordT : List UInt8 := [45, 32, 98, 101, 103, 117, 110, 32, 102, 114, 111, 122, 101, 110, 32, 114, 101, 108, 101, 97, 115, 101, 100, 32, 115, 116, 97, 114, 116, 101, 100, 32, 111, 118, 101, 114, 32, 97, 98, 111, 114, 116, 101, 100, 32, 98, 97, 99, 107, 32, 116, 97, 107, 101, 110, 32, 108, 111, 115, 116]
theorem eventWordS_eq (n : Int) : eventWordS n = if 1 ≤ n ∧ n < 10 then bs (nthL eventWordT 0 n) else ⟨#[101, 118, 101, 110, 116]⟩ ++ ⟨#[32]⟩ ++ itoaS n := by
  refine wordIn_nth eventWordL _ n eventWordT 1 (by omega) (fun k hk hl => ?_) (fun k hk => ?_)
  · have : k < 10 := hk
    have : 1 ≤ k := by omega
    match k, this with
    | 0, h => exact absurd h (by omega)
    | 1, _ => exact ⟨by decide, by decide⟩
    | 2, _ => exact ⟨by decide, by decide⟩
    | 3, _ => exact ⟨by decide, by decide⟩
    | 4, _ => exact ⟨by decide, by decide⟩
    | 5, _ => exact ⟨by decide, by decide⟩
    | 6, _ => exact ⟨by decide, by decide⟩
    | 7, _ => exact ⟨by decide, by decide⟩
    | 8, _ => exact ⟨by decide, by decide⟩
    | 9, _ => exact ⟨by decide, by decide⟩
    | k + 10, h => exact absurd hk (by simp [eventWordL])
  · obtain rfl : k = 0 := by omega
    rfl
set_option maxHeartbeats 400000 in
set_option maxRecDepth 10000 in
theorem ref_eventWord_calls (n : Int) (hn : I64 n) (w : World) : Calls Tryd.prog 16 #[.int .i64 n] w fun e w' => e = .returned (.string (eventWordS n)) ∧ Below w.heap.size w w' := by
  have hz := itoaS_size n hn
  by_cases h : 1 ≤ n ∧ n < 10
  · have e : eventWordS n = bs (nthL eventWordT 0 n) := by rw [eventWordS_eq, if_pos h]
    have h1 := h.1
    have h2 : n ≤ 9 := by omega
    rw [e]
    clear e h
    go_enter Tryd.func16, Tryd.ntmps16
    go_wp2_with (go_at_call 23; refine (nth_calls (bs eventWordT) n hn (by decide) _).mono ?_; rintro e w1 ⟨rfl, hb⟩)
    go_ret
    exact ⟨rfl, hb⟩
  · have e : eventWordS n = ⟨#[101, 118, 101, 110, 116, 32]⟩ ++ itoaS n := by
      rw [eventWordS_eq, if_neg h]
      apply ByteArray.ext
      simp
    rw [e]
    clear e
    by_cases h1 : n < 1
    · have hd : decide (1 ≤ n) = false := decide_eq_false (by omega)
      have hd' : decide (n < 1) = true := decide_eq_true h1
      go_enter Tryd.func16, Tryd.ntmps16
      go_wp2_with (go_at_call 14; refine (number_calls n hn _).mono ?_; rintro e w1 ⟨rfl, hb⟩)
      go_ret
      exact ⟨rfl, hb⟩
    · have h3 : 9 < n := by omega
      have h4 : 1 ≤ n := by omega
      clear h h1
      go_enter Tryd.func16, Tryd.ntmps16
      go_wp2_with (go_at_call 14; refine (number_calls n hn _).mono ?_; rintro e w1 ⟨rfl, hb⟩)
      go_ret
      exact ⟨rfl, hb⟩

theorem digit_lo (k : Nat) (h : k < 10) (w : World) : Calls Tryd.prog 28 #[.int .i64 k] w fun e w' => e = .returned (.int .u8 (48 + k)) ∧ w = w' := by
  go_enter Tryd.func28, Tryd.ntmps28
  go_wp2
  go_ret
  exact ⟨rfl, rfl⟩
theorem digit_hi (k : Nat) (h : 10 ≤ k) (h2 : k < 16) (w : World) : Calls Tryd.prog 28 #[.int .i64 k] w fun e w' => e = .returned (.int .u8 (97 + k - 10)) ∧ w = w' := by
  go_enter Tryd.func28, Tryd.ntmps28
  go_wp2
  go_ret
  exact ⟨rfl, rfl⟩
theorem digs_lo (k : Nat) (h : k < 10) : ((digs.getD k 0).toNat : Int) = 48 + k := by
  match k, h with
  | 0, _ => rfl | 1, _ => rfl | 2, _ => rfl | 3, _ => rfl | 4, _ => rfl | 5, _ => rfl | 6, _ => rfl | 7, _ => rfl | 8, _ => rfl | 9, _ => rfl
theorem digs_hi (k : Nat) (h : 10 ≤ k) (h2 : k < 16) : ((digs.getD k 0).toNat : Int) = 97 + k - 10 := by
  match k, h, h2 with
  | 10, _, _ => rfl | 11, _, _ => rfl | 12, _, _ => rfl | 13, _, _ => rfl | 14, _, _ => rfl | 15, _, _ => rfl
  | k + 16, _, h => exact absurd h (by omega)
theorem digit_calls (k : Nat) (h : k < 16) (w : World) : Calls Tryd.prog 28 #[.int .i64 k] w fun e w' => e = .returned (.int .u8 (digs.getD k 0).toNat) ∧ w = w' := by
  by_cases h1 : k < 10
  · rw [digs_lo k h1]; exact digit_lo k h1 w
  · rw [digs_hi k (by omega) h]; exact digit_hi k (by omega) h w

theorem hex_two (l : List UInt8) (c : UInt8) : Lib.byteCells (hexL (l ++ [c])) = Lib.byteCells (hexL l) ++ [.int .u8 ((digs.getD (c.toNat / 16) 0).toNat : Int)] ++ [.int .u8 ((digs.getD (c.toNat % 16) 0).toNat : Int)] := by
  unfold hexL
  rw [List.flatMap_append, Lib.byteCells_append, List.append_assoc]
  rfl

set_option maxHeartbeats 400000 in
theorem ref_data_empty (s : ByteArray) (hs : s.size = 0) (w : World) : Calls Tryd.prog 24 #[.string s] w fun e w' => e = .returned (.string ⟨#[45]⟩) ∧ w = w' := by
  have h1 : ((s.size : Int) == 0) = true := by simp [hs]
  clear hs
  go_enter Tryd.func24, Tryd.ntmps24
  go_wp2
  go_ret
  exact ⟨rfl, rfl⟩

set_option maxHeartbeats 800000 in
theorem ref_data_some (s : ByteArray) (hs : 0 < s.size) (hn : s.size ≤ 1048576) (w : World) : Calls Tryd.prog 24 #[.string s] w fun e w' => e = .returned (.string (bs (hexL s.data.toList))) ∧ Below w.heap.size w w' := by
  obtain ⟨i0, hi, hz0, hz1, hz2⟩ := info_parts infoByte
  have hown0 := World.ownsRow_lit (w := w) (base := w.heap.size) (e := 5) (size := 1) #[] 0 (Nat.le_refl _) (by unfold maxLen; omega) rfl
  have h1 : ((s.size : Int) == 0) = false := beq_eq_false_iff_ne.2 (by omega)
  go_enter Tryd.func24, Tryd.ntmps24
  go_wp2
  go_loopw [3, 4] (fun v j wr => ∃ k : Nat, k ≤ s.size ∧ j = .int .i64 k ∧ DataRel w s k v wr) (fun _ j _ => s.size - (intOf j).toNat)
  case atStart => exact ⟨0, Nat.zero_le _, rfl, ⟨_, _, rfl⟩, hown0, (Below.refl _ _).alloc (Nat.le_refl _) _⟩
  case round =>
    obtain ⟨k, hk, rfl, ⟨g, cap, rfl⟩, hown, hb⟩ := hrel
    by_cases hlt : k < s.size
    · have hc256 : s[k].toNat < 256 := UInt8.toNat_lt s[k]
      have hsz : w.heap.size ≤ wr.heap.size := hb.size
      have hsnoc : Lib.byteCells (hexL (s.data.toList.take (k + 1))) = Lib.byteCells (hexL (s.data.toList.take k)) ++ [.int .u8 ((digs.getD (s[k].toNat / 16) 0).toNat : Int)] ++ [.int .u8 ((digs.getD (s[k].toNat % 16) 0).toNat : Int)] := by
        rw [List.take_succ_eq_append_getElem (by rw [← Lib.size_eq]; exact hlt)]; exact hex_two _ s[k]
      have HS := Lib.hid hsnoc
      clear hsnoc
      have d1 := fun W => digit_calls (s[k].toNat / 16) (by omega) W
      have d2 := fun W => digit_calls (s[k].toNat % 16) (by omega) W
      have e1 : ((s[k].toNat / 16 : Nat) : Int) = (s[k].toNat : Int) / 16 := by omega
      have e2 : ((s[k].toNat % 16 : Nat) : Int) = (s[k].toNat : Int) % 16 := by omega
      rw [e1] at d1
      rw [e2] at d2
      clear e1 e2
      have D1 := Lib.hid d1
      have D2 := Lib.hid d2
      clear d1 d2
      go_wp2_with (first | (go_at_call 28; (first | (with_reducible refine (D1.out _).mono ?_) | (with_reducible refine (D2.out _).mono ?_)); rintro e w' ⟨rfl, rfl⟩) | (at_builtin; refine wpList_append_lies _ rfl (.tmp 15) (.tmp 22) 31 rfl w.heap.size 5 i0 (.int .u8 0) 1 1 Tryd.underlying31 hi hz0 hz1 hz2 rfl (by decide) _ _ _ rfl (hown.alloc _) ⟨wr.heap.size, 0, none⟩ 1 1 _ rfl rfl (World.news_of_block (heap_alloc_new _ _)) (fun u hu => by simp at hu; subst hu; rfl) (by decide) (by unfold maxLen; omega) (by omega) (by simp; omega) _ rfl ?_; intro g1 cap1 w1 hown1 hgrow1 hat1 hlt1) | (at_builtin; refine wpList_append_lies _ rfl (.tmp 24) (.tmp 31) 31 rfl w.heap.size 5 i0 (.int .u8 0) 1 1 Tryd.underlying31 hi hz0 hz1 hz2 rfl (by decide) _ _ _ rfl (hown1.alloc _) ⟨w1.heap.size, 0, none⟩ 1 1 _ rfl rfl (World.news_of_block (heap_alloc_new _ _)) (fun u hu => by simp at hu; subst hu; rfl) (by decide) (by unfold maxLen; omega) (by omega) (by have := hgrow1.size; simp at this; simp; omega) _ rfl ?_; intro g2 cap2 w2 hown2 hgrow2 hat2 hlt2))
      go_roundw
      case rel =>
        refine ⟨k + 1, by omega, by go_num, ⟨g2, cap2, rfl⟩, ?_, ?_⟩
        · rw [HS.out]; exact hown2
        · exact (((hb.alloc hb.size _).grown hgrow1 (by simp; omega) (fun q hq => (hown.lt q hq).1)).alloc (by have := hgrow1.size; simp at this; omega) _).grown hgrow2 (by have := hgrow1.size; simp at this; simp; omega) (fun q hq => (hown1.lt q hq).1)
      case measure => simp [intOf]; omega
    · obtain rfl : k = s.size := by omega
      have hfull : s.data.toList.take s.size = s.data.toList := List.take_of_length_le (by rw [Lib.size_eq]; omega)
      rw [hfull] at hown
      have hlen : (hexL s.data.toList).length = 2 * s.size := by rw [hexL_length, Lib.size_eq]
      have hconv := run_convert_bytes_back (P := Tryd.prog) wr 31 9 5 ⟨g, 0, none⟩ cap (hexL s.data.toList) Tryd.underlying31 Tryd.underlying5 Tryd.underlying9 (fun j hj => hown.cells (g := g) rfl j _ (by simp [Lib.byteCells, hj]))
      rw [hlen] at hconv
      clear hlen hfull
      go_wp2
      go_ret
      exact ⟨rfl, hb⟩
theorem ref_data_calls (s : ByteArray) (hn : s.size ≤ 1048576) (w : World) : Calls Tryd.prog 24 #[.string s] w fun e w' => e = .returned (.string (dataS s)) ∧ Below w.heap.size w w' := by
  by_cases h : s.size = 0
  · have hl : s.data.toList = [] := List.length_eq_zero_iff.1 (by rw [← Lib.size_eq]; exact h)
    rw [show dataS s = ⟨#[45]⟩ by unfold dataS; rw [ByteArray.toList_eq, hl]; rfl]
    refine (ref_data_empty s h w).mono ?_
    rintro e w' ⟨rfl, rfl⟩
    exact ⟨rfl, Below.refl _ _⟩
  · have hl : s.toList.isEmpty = false := by
      rw [ByteArray.toList_eq]
      cases hx : s.data.toList with
      | nil => exact absurd (by rw [Lib.size_eq, hx]; rfl) h
      | cons _ _ => rfl
    rw [show dataS s = bs (hexL s.data.toList) by unfold dataS; rw [if_neg (by rw [hl]; simp)]]
    exact ref_data_some s (by omega) hn w
end Go.Proofs.YtpknkifmjokhgaaDoor
