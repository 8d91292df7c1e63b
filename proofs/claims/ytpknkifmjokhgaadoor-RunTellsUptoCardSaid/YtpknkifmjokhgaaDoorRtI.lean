/- nth, Word, kind, event, digit, Data of the references, walked. -/
import Derived.Test.YtpknkifmjokhgaaDoorRtH
set_option linter.unusedVariables false
namespace Go.Proofs.YtpknkifmjokhgaaDoor
open Go Go.RowKit Go.Sort

/-- The n-th word of a text, the at-th being under way. -/
def nthL : List UInt8 → Int → Int → List UInt8
  | [], _, _ => []
  | c :: r, at_, n => if c = 32 then nthL r (at_ + 1) n else if at_ = n then c :: nthL r at_ n else nthL r at_ n

/-- What holds of the word behind i letters. -/
def NthRel (s : ByteArray) (n : Int) (i : Nat) (at_ : Int) (v : Value) (w wr : World) : Prop :=
  ∃ l : List UInt8, (∃ g cap, v = .slice (some ⟨g, 0, none⟩) l.length cap) ∧ wr.ownsRow w.heap.size 5 1 v l.length (Lib.byteCells l) ∧ l.length ≤ i ∧ nthL s.data.toList 0 n = l ++ nthL (s.data.toList.drop i) at_ n ∧ Below w.heap.size w wr

set_option maxHeartbeats 400000 in
theorem nth_calls (s : ByteArray) (n : Int) (hn : I64 n) (hs : s.size ≤ 100000) (w : World) :
    Calls Tryd.prog 23 #[.string s, .int .i64 n] w fun e w' => e = .returned (.string (bs (nthL s.data.toList 0 n))) ∧ Below w.heap.size w w' := by
  obtain ⟨i0, hi, hz0, hz1, hz2⟩ := info_parts infoByte
  have hown0 := World.ownsRow_lit (w := w) (base := w.heap.size) (e := 5) (size := 1) #[] 0 (Nat.le_refl _) (by unfold maxLen; omega) rfl
  go_enter Tryd.func23, Tryd.ntmps23
  go_wp2
  go_loopw [5, 6, 7] (fun v a j wr => ∃ (i : Nat) (at_ : Int), i ≤ s.size ∧ j = .int .i64 i ∧ a = .int .i64 at_ ∧ 0 ≤ at_ ∧ at_ ≤ i ∧ NthRel s n i at_ v w wr) (fun _ _ j _ => s.size - (intOf j).toNat)
  case atStart => exact ⟨0, 0, Nat.zero_le _, rfl, rfl, by omega, by omega, [], ⟨_, _, rfl⟩, hown0, Nat.zero_le _, rfl, (Below.refl _ _).alloc (Nat.le_refl _) _⟩
  case round =>
    obtain ⟨i, at_, hi', rfl, rfl, ha0, hai, l, ⟨g, cap, rfl⟩, hown, hll, hnth, hb⟩ := hrel
    by_cases hlt : i < s.size
    · have hdrop : s.data.toList.drop i = s[i] :: s.data.toList.drop (i + 1) := by
        rw [List.drop_eq_getElem_cons (by rw [← Lib.size_eq]; exact hlt)]; rfl
      rw [hdrop] at hnth
      by_cases hc : s[i] = 32
      · have hcb : ((s[i].toNat : Int) == 32) = true := by rw [hc]; rfl
        have hstep : nthL (s[i] :: s.data.toList.drop (i + 1)) at_ n = nthL (s.data.toList.drop (i + 1)) (at_ + 1) n := by rw [nthL, if_pos hc]
        rw [hstep] at hnth
        clear hstep hdrop hc
        go_wp2
        go_roundw
        case rel => exact ⟨i + 1, at_ + 1, by omega, by go_num, rfl, by omega, by omega, l, ⟨g, cap, rfl⟩, hown, by omega, hnth, hb⟩
        case measure => simp [intOf]; omega
      · have hcn : ¬ ((s[i].toNat : Int) = 32) := fun h => hc (by apply UInt8.toNat_inj.1; exact Int.ofNat.inj h)
        have hcb : ((s[i].toNat : Int) == 32) = false := by simpa using hcn
        by_cases hat : at_ = n
        · have hstep : nthL (s[i] :: s.data.toList.drop (i + 1)) at_ n = s[i] :: nthL (s.data.toList.drop (i + 1)) at_ n := by rw [nthL, if_neg hc, if_pos hat]
          rw [hstep] at hnth
          have hab : (at_ == n) = true := by simpa using hat
          clear hstep hdrop hc hcn hat
          go_wp2_with (at_builtin; refine wpList_append_lies _ rfl _ _ 31 rfl w.heap.size 5 i0 (.int .u8 0) 1 1 Tryd.underlying31 hi hz0 hz1 hz2 rfl (by decide) _ _ _ rfl (hown.alloc _) ⟨wr.heap.size, 0, none⟩ 1 1 _ rfl rfl (World.news_of_block (heap_alloc_new _ _)) (fun u hu => by simp at hu; subst hu; rfl) (by decide) (by unfold maxLen; omega) (by omega) (by have := hb.size; simp; omega) _ rfl ?_; intro g' cap' w2 hown' hgrow' hat' hlt')
          go_roundw
          case rel =>
            refine ⟨i + 1, at_, by omega, by go_num, rfl, by omega, by omega, l ++ [s[i]], ⟨g', cap', by rw [List.length_append]; rfl⟩, ?_, by rw [List.length_append]; simp only [List.length_cons, List.length_nil]; omega, by rw [hnth, List.append_assoc]; rfl, ?_⟩
            · rw [Lib.byteCells_append, List.length_append]; exact hown'
            · exact (hb.alloc hb.size _).grown hgrow' (by have := hb.size; simp; omega) (fun q hq => (hown.lt q hq).1)
          case measure => simp [intOf]; omega
        · have hstep : nthL (s[i] :: s.data.toList.drop (i + 1)) at_ n = nthL (s.data.toList.drop (i + 1)) at_ n := by rw [nthL, if_neg hc, if_neg hat]
          rw [hstep] at hnth
          have hab : (at_ == n) = false := by simpa using hat
          clear hstep hdrop hc hcn hat
          go_wp2
          go_roundw
          case rel => exact ⟨i + 1, at_, by omega, by go_num, rfl, by omega, by omega, l, ⟨g, cap, rfl⟩, hown, by omega, hnth, hb⟩
          case measure => simp [intOf]; omega
    · obtain rfl : i = s.size := by omega
      have hfull : s.data.toList.drop s.size = [] := List.drop_of_length_le (by rw [Lib.size_eq]; omega)
      rw [hfull, nthL, List.append_nil] at hnth
      have hconv := run_convert_bytes_back (P := Tryd.prog) wr 31 9 5 ⟨g, 0, none⟩ cap l Tryd.underlying31 Tryd.underlying5 Tryd.underlying9 (fun j hj => hown.cells (g := g) rfl j _ (by simp [Lib.byteCells, hj]))
      have HN := Lib.hid hnth
      clear hnth hfull
      go_wp2
      go_ret
      exact ⟨by rw [HN.out]; rfl, hb⟩

/-- A word of a table by its number, else a name and the number. -/
theorem wordIn_nth (ws : List (List UInt8)) (name : ByteArray) (n : Int) (all : List UInt8) (lo : Int) (h0 : 0 ≤ lo)
    (hw : ∀ k : Nat, k < ws.length → lo ≤ k → nthL all 0 k = ws.getD k [] ∧ ws.getD k [] ≠ []) (hlo : ∀ k : Nat, (k : Int) < lo → ws.getD k [] = []) :
    wordIn ws name n = if lo ≤ n ∧ n < ws.length then bs (nthL all 0 n) else name ++ ⟨#[32]⟩ ++ itoaS n := by
  unfold wordIn
  by_cases h : lo ≤ n ∧ n < ws.length
  · obtain ⟨k, rfl⟩ := Int.eq_ofNat_of_zero_le (show 0 ≤ n by omega)
    obtain ⟨h1, h2⟩ := hw k (by omega) h.1
    rw [if_pos h, if_pos ⟨by omega, h.2, by simpa using h2⟩, h1]
    rfl
  · rw [if_neg h]
    by_cases h2 : 0 ≤ n ∧ n < ws.length ∧ ws.getD n.toNat [] ≠ []
    · exfalso
      obtain ⟨k, rfl⟩ := Int.eq_ofNat_of_zero_le h2.1
      have := hlo k (by omega)
      exact h2.2.2 (by simpa using this)
    · rw [if_neg h2]
end Go.Proofs.YtpknkifmjokhgaaDoor
