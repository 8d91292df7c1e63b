/- Numbers, words and data of the references, walked. -/
import Derived.Test.YtpknkifmjokhgaaDoorRtF
set_option linter.unusedVariables false
namespace Go.Proofs.YtpknkifmjokhgaaDoor
open Go Go.RowKit Go.Sort

/-- string([]byte{x}), the block just laid. -/
theorem conv1 (W : World) (x : Int) : (convert 31 9 (.slice (some ⟨W.heap.size, 0, none⟩) 1 1)).run Tryd.prog (W.alloc (.cells #[.int .u8 x] 5)) = .ok (.string ⟨#[UInt8.ofNat x.toNat]⟩) (W.alloc (.cells #[.int .u8 x] 5)) := by
  rw [run_convert_bytes_string _ 31 9 5 _ _ _ Tryd.underlying31 Tryd.underlying5 Tryd.underlying9]
  have hl := run_loadCells_list (P := Tryd.prog) (w := W.alloc (.cells #[.int .u8 x] 5)) ⟨W.heap.size, 0, none⟩ ([x].map (Value.int .u8)) (fun j v hj => by
    match j, hj with
    | 0, hj => simp at hj; subst hj; rw [Addr.add_lit]; exact World.cell?_alloc_at _ _ _ _ rfl)
  rw [run_bytesToString _ _ 1 1 [x] hl]
  rfl

theorem decDigits_lt (q : Nat) (h : q < 10) : Lib.decDigits q = [UInt8.ofNat (48 + q)] := by rw [Lib.decDigits]; rw [dif_pos h]
theorem decDigits_ge (q : Nat) (h : ¬ q < 10) : Lib.decDigits q = Lib.decDigits (q / 10) ++ [UInt8.ofNat (48 + q % 10)] := by conv => lhs; rw [Lib.decDigits]; rw [dif_neg h]
def headD (q : Nat) : List UInt8 := if q = 0 then [] else Lib.decDigits q
theorem headD_step (q : Nat) (h : q ≠ 0) : headD q = headD (q / 10) ++ [UInt8.ofNat (48 + q % 10)] := by
  unfold headD
  rw [if_neg h]
  by_cases h10 : q < 10
  · rw [decDigits_lt q h10, if_pos (by omega), Nat.mod_eq_of_lt h10]; rfl
  · rw [decDigits_ge q h10, if_neg (by omega)]

/-- What holds of the digits that are told behind some rounds. -/
def NumRel (N q : Nat) (s : ByteArray) (B : Nat) (w wr : World) : Prop := (∃ l, s = bs l ∧ headD N = headD q ++ l) ∧ s.size ≤ 21 ∧ Below B w wr
theorem NumRel.mk {N q : Nat} {l : List UInt8} {B : Nat} {w wr : World} (hN : (headD N).length ≤ 21) (h : headD N = headD q ++ l) (hb : Below B w wr) : NumRel N q (bs l) B w wr :=
  ⟨⟨l, rfl, h⟩, by show l.toArray.size ≤ 21; rw [h, List.length_append] at hN; rw [List.size_toArray]; omega, hb⟩

theorem bs_append (a b : List UInt8) : bs a ++ bs b = bs (a ++ b) := by
  apply ByteArray.ext; simp [bs]

theorem dig_cons (q : Nat) (l : List UInt8) : ({ data := #[48 + UInt8.ofNat (q % 10)] } : ByteArray) ++ bs l = bs (UInt8.ofNat (48 + q % 10) :: l) := by
  apply ByteArray.ext
  simp [bs]

set_option maxHeartbeats 400000 in
theorem number_pos (n : Nat) (h0 : n ≠ 0) (hn : n ≤ 9223372036854775807) (w : World) :
    Calls Tryd.prog 14 #[.int .i64 n] w fun e w' => e = .returned (.string (itoaS n)) ∧ Below w.heap.size w w' := by
  have hN : (headD n).length ≤ 21 := by
    have := itoaS_size (n : Int) ⟨by omega, by omega⟩
    unfold itoaS Lib.itoa at this
    rw [if_neg (by omega)] at this
    unfold headD
    rw [if_neg h0]
    simpa [ByteArray.size] using this
  have hit : itoaS n = bs (headD n) := by
    unfold itoaS Lib.itoa headD
    rw [if_neg (by omega), if_neg h0]
    rfl
  have HIT := Lib.hid hit
  clear hit
  have hz : ((n : Int) == 0) = false := by simp [h0]
  have hz2 : ((n : Int) != 0) = true := by simp [h0]
  have hneg : decide ((n : Int) < 0) = false := decide_eq_false (by omega)
  have hc1 := conv1
  go_enter Tryd.func14, Tryd.ntmps14
  go_wp2
  go_loopw [3, 4] (fun s m wr => ∃ (q : Nat) (S : ByteArray), q ≤ n ∧ m = .int .i64 q ∧ s = .string S ∧ NumRel n q S w.heap.size w wr) (fun _ m _ => (intOf m).toNat)
  case atStart => exact ⟨n, bs [], Nat.le_refl _, rfl, rfl, NumRel.mk hN (by simp) (Below.refl _ _)⟩
  case round =>
    obtain ⟨q, S, hq, rfl, rfl, ⟨l, rfl, hl⟩, hSz, hbl⟩ := hrel
    by_cases hq0 : q = 0
    · subst hq0
      go_wp2
      go_ret
      refine ⟨?_, hbl⟩
      rw [HIT.out, hl]
      simp [headD]
    · have hz3 : ((q : Int) != 0) = true := by simp [hq0]
      have hp : 0 < q := by omega
      clear hq0
      go_wp2
      go_roundw
      case rel =>
        refine ⟨q / 10, _, by omega, by go_num, rfl, ?_⟩
        rw [dig_cons]
        refine NumRel.mk hN ?_ (hbl.alloc hbl.size _)
        rw [hl, headD_step q (by omega), List.append_assoc]
        rfl
      case measure => simp [intOf]; omega

set_option maxHeartbeats 400000 in
theorem number_neg (N : Nat) (h0 : N ≠ 0) (hn : N ≤ 9223372036854775808) (w : World) :
    Calls Tryd.prog 14 #[.int .i64 (-(N : Int))] w fun e w' => e = .returned (.string (itoaS (-(N : Int)))) ∧ Below w.heap.size w w' := by
  have hN : (headD N).length ≤ 21 := by
    have := itoaS_size (-(N : Int)) ⟨by omega, by omega⟩
    unfold itoaS Lib.itoa at this
    rw [if_pos (by omega)] at this
    unfold headD
    rw [if_neg h0]
    have e : ((45 : UInt8) :: Lib.decDigits (-(N : Int)).natAbs).toArray.size ≤ 21 := this
    rw [Int.natAbs_neg, Int.natAbs_natCast, List.size_toArray, List.length_cons] at e
    omega
  have hit : itoaS (-(N : Int)) = ⟨#[45]⟩ ++ bs (headD N) := by
    unfold itoaS Lib.itoa headD
    rw [if_pos (by omega), if_neg h0, Int.natAbs_neg, Int.natAbs_natCast]
    apply ByteArray.ext
    simp [bs]
  have HIT := Lib.hid hit
  clear hit
  have hz : (-(N : Int) == 0) = false := by simp [h0]
  have hz2 : (-(N : Int) != 0) = true := by simp [h0]
  have hneg : decide (-(N : Int) < 0) = true := decide_eq_true (by omega)
  have hc1 := conv1
  go_enter Tryd.func14, Tryd.ntmps14
  go_wp2
  go_loopw [3, 4] (fun s m wr => ∃ (q : Nat) (S : ByteArray), q ≤ N ∧ m = .int .i64 (-(q : Int)) ∧ s = .string S ∧ NumRel N q S w.heap.size w wr) (fun _ m _ => (-(intOf m)).toNat)
  case atStart => exact ⟨N, bs [], Nat.le_refl _, rfl, rfl, NumRel.mk hN (by simp) (Below.refl _ _)⟩
  case round =>
    obtain ⟨q, S, hq, rfl, rfl, ⟨l, rfl, hl⟩, hSz, hbl⟩ := hrel
    by_cases hq0 : q = 0
    · subst hq0
      go_wp2
      go_ret
      refine ⟨?_, hbl⟩
      rw [HIT.out, hl]
      simp [headD]
    · have hz3 : (-(q : Int) != 0) = true := by simp [hq0]
      have hp : 0 < q := by omega
      clear hq0
      by_cases hd : q % 10 = 0
      · have hd1 : (q : Int) % 10 = 0 := by omega
        have hcons := dig_cons q l
        rw [hd] at hcons
        go_wp2
        go_roundw
        case rel =>
          refine ⟨q / 10, _, by omega, by go_num, rfl, ?_⟩
          first
            | rw [show ({ data := #[48] } : ByteArray) ++ bs l = bs (48 :: l) by apply ByteArray.ext; simp [bs]]
            | skip
          refine NumRel.mk hN ?_ (hbl.alloc hbl.size _)
          rw [hl, headD_step q (by omega), hd, List.append_assoc]
          rfl
        case measure => simp [intOf]; omega
      · have hd1 : 0 < (q : Int) % 10 := by omega
        go_wp2
        go_roundw
        case rel =>
          refine ⟨q / 10, _, by omega, by go_num, rfl, ?_⟩
          rw [dig_cons]
          refine NumRel.mk hN ?_ (hbl.alloc hbl.size _)
          rw [hl, headD_step q (by omega), List.append_assoc]
          rfl
        case measure => simp [intOf]; omega

theorem itoaS_zero : itoaS 0 = ⟨#[48]⟩ := by
  unfold itoaS Lib.itoa
  rw [if_neg (by omega)]
  rw [show (0 : Int).toNat = 0 from rfl, decDigits_lt 0 (by omega)]
  rfl
set_option maxHeartbeats 400000 in
theorem number_zero (w : World) : Calls Tryd.prog 14 #[.int .i64 0] w fun e w' => e = .returned (.string ⟨#[48]⟩) ∧ w = w' := by
  go_enter Tryd.func14, Tryd.ntmps14
  go_wp2
  go_ret
  exact ⟨rfl, rfl⟩
/-- Number: the decimal numeral, of every int. -/
theorem number_calls (n : Int) (hn : I64 n) (w : World) : Calls Tryd.prog 14 #[.int .i64 n] w fun e w' => e = .returned (.string (itoaS n)) ∧ Below w.heap.size w w' := by
  by_cases h0 : n = 0
  · subst h0
    rw [itoaS_zero]
    refine (number_zero w).mono ?_
    rintro e w' ⟨rfl, rfl⟩
    exact ⟨rfl, Below.refl _ _⟩
  · by_cases hp : 0 ≤ n
    · obtain ⟨q, rfl⟩ := Int.eq_ofNat_of_zero_le hp
      exact number_pos q (by omega) (by have := hn.2; omega) w
    · obtain ⟨q, hq⟩ : ∃ q : Nat, n = -(q : Int) := ⟨n.natAbs, by omega⟩
      subst hq
      exact number_neg q (by omega) (by have := hn.1; omega) w
end Go.Proofs.YtpknkifmjokhgaaDoor
