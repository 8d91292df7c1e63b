/- data, walked. -/
import Derived.Test.YtpknkifmjokhgaaDoorRtC
import Derived.Deep.AppendLies
import Derived.Deep.RegionHeld3
import Derived.Deep.RegionLaw
import Derived.Test.YtpknkifmjokhgaaDoorMixB
import Derived.Lib.ConvBytes
set_option linter.unusedVariables false
namespace Go.Proofs.YtpknkifmjokhgaaDoor
open Go Go.RowKit

def digs : List UInt8 := [48, 49, 50, 51, 52, 53, 54, 55, 56, 57, 97, 98, 99, 100, 101, 102]
def hexL (l : List UInt8) : List UInt8 := l.flatMap fun c => [digs.getD (c.toNat / 16) 0, digs.getD (c.toNat % 16) 0]
theorem hexL_length (l : List UInt8) : (hexL l).length = 2 * l.length := by
  unfold hexL
  induction l with
  | nil => rfl
  | cons a l ih => simp only [List.flatMap_cons, List.length_append, ih, List.length_cons, List.length_nil]; omega

set_option maxHeartbeats 400000 in
theorem data_empty (s : ByteArray) (hs : s.toList.isEmpty = true) (w : World) : Calls Tryd.prog 21 #[.string s] w fun e w' => e = .returned (.string ⟨#[45]⟩) ∧ w = w' := by
  go_enter Tryd.func21, Tryd.ntmps21
  go_wp2
  go_ret
  exact ⟨rfl, rfl⟩

theorem dig_at (j : Nat) (h : j < 16) : (({ data := #[48, 49, 50, 51, 52, 53, 54, 55, 56, 57, 97, 98, 99, 100, 101, 102] } : ByteArray)[j]'h).toNat = (digs.getD j 0).toNat := by
  match j, h with
  | 0, _ => rfl | 1, _ => rfl | 2, _ => rfl | 3, _ => rfl | 4, _ => rfl | 5, _ => rfl | 6, _ => rfl | 7, _ => rfl
  | 8, _ => rfl | 9, _ => rfl | 10, _ => rfl | 11, _ => rfl | 12, _ => rfl | 13, _ => rfl | 14, _ => rfl | 15, _ => rfl
  | n + 16, h => exact absurd h (by omega)

theorem hex_snoc (s : ByteArray) (k : Nat) (hlt : k < s.size) (h1 : ((s[k].toNat : Int) / 16).toNat < 16) (h2 : ((s[k].toNat : Int) % 16).toNat < 16) :
    Lib.byteCells (hexL (s.data.toList.take (k + 1))) = Lib.byteCells (hexL (s.data.toList.take k)) ++
      [.int .u8 ((({ data := #[48, 49, 50, 51, 52, 53, 54, 55, 56, 57, 97, 98, 99, 100, 101, 102] } : ByteArray)[((s[k].toNat : Int) / 16).toNat]'h1).toNat),
       .int .u8 ((({ data := #[48, 49, 50, 51, 52, 53, 54, 55, 56, 57, 97, 98, 99, 100, 101, 102] } : ByteArray)[((s[k].toNat : Int) % 16).toNat]'h2).toNat)] := by
  rw [dig_at _ h1, dig_at _ h2, List.take_succ_eq_append_getElem (by rw [← Lib.size_eq]; exact hlt)]
  unfold hexL
  rw [List.flatMap_append, Lib.byteCells_append]
  have e : s.data.toList[k]'(by rw [← Lib.size_eq]; exact hlt) = s[k] := rfl
  rw [e]
  have e1 : ((s[k].toNat : Int) / 16).toNat = s[k].toNat / 16 := by omega
  have e2 : ((s[k].toNat : Int) % 16).toNat = s[k].toNat % 16 := by omega
  rw [e1, e2]
  rfl

/-- What holds behind k rounds. -/
def DataRel (w : World) (s : ByteArray) (k : Nat) (v : Value) (wr : World) : Prop :=
  (∃ g cap, v = .slice (some ⟨g, 0, none⟩) (2 * k) cap) ∧ wr.ownsRow w.heap.size 5 1 v (2 * k) (Lib.byteCells (hexL (s.data.toList.take k))) ∧ Below w.heap.size w wr
theorem _root_.Go.World.grownBy.below {w w' : World} (h : w.grownBy w' none) : Below w.heap.size w w' := ⟨h.os, h.tape, h.output, h.size, fun k hk => h.block k hk (by simp)⟩

set_option maxHeartbeats 400000 in
theorem data_calls (s : ByteArray) (hs : s.toList.isEmpty = false) (hn : s.size ≤ 1048576) (w : World) : Calls Tryd.prog 21 #[.string s] w fun e w' => e = .returned (.string (bs (hexL s.data.toList))) ∧ Below w.heap.size w w' := by
  obtain ⟨i0, hi, hz0, hz1, hz2⟩ := info_parts infoByte
  obtain ⟨w1, hrun, hown, hgrow⟩ := run_make_own (P := Tryd.prog) (w := w) w.heap.size 31 5 i0 (.int .u8 0) 1 Tryd.underlying31 hi hz0 hz1 .i64 .i64 (2 * s.size) (by rw [hz2]; omega) (by unfold maxLen; omega) (Nat.le_refl _)
  rw [show ((2 * s.size : Nat) : Int) = 2 * (s.size : Int) by omega] at hrun
  go_enter Tryd.func21, Tryd.ntmps21
  go_wp2
  go_loopw [3, 13] (fun v i wr => ∃ k : Nat, k ≤ s.size ∧ i = .int .i64 k ∧ DataRel w s k v wr) (fun _ i _ => s.size - (intOf i).toNat)
  case atStart => exact ⟨0, Nat.zero_le _, rfl, ⟨⟨_, _, rfl⟩, hown, hgrow.below⟩⟩
  case round =>
    obtain ⟨k, hk, rfl, ⟨g, cap, rfl⟩, hown, hb⟩ := hrel
    by_cases hlt : k < s.size
    · have hc256 : s[k].toNat < 256 := UInt8.toNat_lt s[k]
      have p1 : (0 : Int) ≤ (s[k].toNat : Int) / 16 := by omega
      have p2 : (s[k].toNat : Int) / 16 < 16 := by omega
      have p3 : (0 : Int) ≤ (s[k].toNat : Int) % 16 := by omega
      have p4 : (s[k].toNat : Int) % 16 < 16 := by omega
      have p5 : bits BinOp.and IntKind.u8 (s[k].toNat : Int) 15 = (s[k].toNat : Int) % 16 := u8_and15 _ (by omega) (by omega)
      have hown2 : ∀ o, (wr.alloc o).drew.ownsRow w.heap.size 5 1 (.slice (some ⟨g, 0, none⟩) (2 * k) cap) (2 * k) (Lib.byteCells (hexL (s.data.toList.take k))) := fun o => hown.alloc o
      have hsz : w.heap.size ≤ wr.heap.size := hb.size
      have hk2 : 2 * k + 2 ≤ 140737488355328 := by omega
      go_wp2
      refine Mix.wp_region_mix 12 [false, false, false, false, false, false, false, false, false, false, false, true] (by kernel_rfl) (by kernel_rfl) ?_
      simp only [List.take_succ_cons, List.take_zero, List.drop_succ_cons, List.drop_zero]
      repeat (refine Mix.wpMix_plain (fun K hK => ?_); go_simp; refine hK _ ?_; clear hK K)
      refine Mix.wpMix_chain (fun K hK hK' => ?_) (Mix.InB.drew _)
      go_simp
      refine hK _ _ (((Below.refl _ _).drew).alloc (by simp) _) (Mix.wpMix_nil ?_)
      clear hK hK' K
      go_wp2_with (at_builtin; refine wpList_append_lies _ rfl _ _ 31 rfl w.heap.size 5 i0 (.int .u8 0) 1 1 Tryd.underlying31 hi hz0 hz1 hz2 rfl (by decide) _ _ _ rfl (hown2 _) ⟨wr.heap.size, 0, none⟩ 2 2 _ rfl rfl (World.news_of_block (heap_alloc_new _ _)) (fun u hu => by simp at hu; rcases hu with rfl | rfl <;> rfl) (by decide) (by unfold maxLen; omega) (by omega) (by simp; omega) _ rfl ?_; intro g' cap' w2 hown' hgrow' hat hlt')
      go_roundw
      case rel =>
        refine ⟨k + 1, by omega, by go_num, ⟨g', cap', rfl⟩, ?_, ?_⟩
        · rw [hex_snoc s k hlt (by omega) (by omega)]
          exact hown'
        · exact (((hb.alloc hb.size _).drew).grown hgrow' (by simp; omega) (fun q hq => (hown.lt q hq).1))
      case measure => simp [intOf]; omega
    · obtain rfl : k = s.size := by omega
      have hfull : s.data.toList.take s.size = s.data.toList := List.take_of_length_le (by rw [Lib.size_eq]; omega)
      rw [hfull] at hown
      have hlen : (hexL s.data.toList).length = 2 * s.size := by rw [hexL_length, Lib.size_eq]
      have hconv := run_convert_bytes_back (P := Tryd.prog) wr 31 9 5 ⟨g, 0, none⟩ cap (hexL s.data.toList) Tryd.underlying31 Tryd.underlying5 Tryd.underlying9 (fun j hj => hown.cells (g := g) rfl j _ (by simp [Lib.byteCells, hj]))
      rw [hlen] at hconv
      clear hlen hfull
      go_wp2
      go_ret
      exact ⟨rfl, hb⟩
end Go.Proofs.YtpknkifmjokhgaaDoor
