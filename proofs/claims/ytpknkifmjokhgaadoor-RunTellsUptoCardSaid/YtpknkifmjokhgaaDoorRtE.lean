/- line, walked. -/
import Derived.Test.YtpknkifmjokhgaaDoorRtD
set_option linter.unusedVariables false
namespace Go.Proofs.YtpknkifmjokhgaaDoor
open Go Go.RowKit

/-- The table that Itoa reads stays there as long as blocks below B stay. -/
def TabB (B : Nat) (w : World) : Prop := ∀ w', Below B w w' → Tab w'
theorem TabB.here {B : Nat} {w : World} (h : TabB B w) : Tab w := h w (Below.refl _ _)
theorem TabB.up {N B : Nat} {w w1 : World} (h : TabB N w) (hb : Below N w w1) (hB : N ≤ B) : TabB B w1 := fun _ k => h _ (hb.trans (k.mono hB))
theorem TabB.of {w : World} (h : Tab w) : TabB w.heap.size w := fun _ hb => h.below hb

/-- What is handed to line: a number or a text. -/
inductive Wd where
  | num (n : Int)
  | str (s : ByteArray)
def Wd.v : Wd → Value
  | .num n => .iface 3 (.int .i64 n)
  | .str s => .iface 9 (.string s)
def Wd.s : Wd → ByteArray
  | .num n => itoaS n
  | .str s => s
def Wd.b (x : Wd) : List UInt8 := x.s.data.toList
def Wd.ok : Wd → Prop
  | .num n => I64 n
  | .str s => s.size ≤ 4194304
def joinL : List Wd → List UInt8
  | [] => []
  | x :: r => x.b ++ r.flatMap fun y => 32 :: y.b
theorem joinL_snoc (l : List Wd) (x : Wd) : joinL (l ++ [x]) = joinL l ++ ((if l.length = 0 then [] else [32]) ++ x.b) := by
  cases l with
  | nil => simp [joinL]
  | cons a r => simp [joinL, List.flatMap_append]
theorem joinL_take (ws : List Wd) (k : Nat) (h : k < ws.length) : joinL (ws.take (k + 1)) = joinL (ws.take k) ++ ((if k = 0 then [] else [32]) ++ (ws[k]).b) := by
  rw [List.take_succ_eq_append_getElem h, joinL_snoc, List.length_take, Nat.min_eq_left (by omega)]
theorem Wd.b_len (x : Wd) (h : x.ok) : x.b.length ≤ 4194304 := by
  cases x with
  | num n => have := itoaS_size n h; show (itoaS n).data.toList.length ≤ _; rw [← Lib.size_eq]; omega
  | str s => show s.data.toList.length ≤ _; rw [← Lib.size_eq]; exact h
theorem joinL_len (ws : List Wd) (h : ∀ x ∈ ws, x.ok) : (joinL ws).length ≤ ws.length * 4194305 := by
  cases ws with
  | nil => simp [joinL]
  | cons a r =>
    have h1 : (r.flatMap fun y => 32 :: y.b).length ≤ r.length * 4194305 := by
      have hr : ∀ x ∈ r, x.ok := fun x hx => h x (by simp [hx])
      clear h
      induction r with
      | nil => simp
      | cons y r ih =>
        rw [List.flatMap_cons, List.length_append, List.length_cons, List.length_cons]
        have := Wd.b_len y (hr y (by simp))
        have := ih (fun x hx => hr x (by simp [hx]))
        omega
    have := Wd.b_len a (h a (by simp))
    simp only [joinL, List.length_append, List.length_cons]
    omega

theorem writeByte32 (B b : Nat) (l : List UInt8) (w : World) (h : Bu B b l w) (hlen : l.length + 1 ≤ 140737488355328) (hBw : B ≤ w.heap.size) :
    Calls Tryd.prog 17 #[.pointer (some ⟨b, 0, none⟩), .int .u8 32] w fun e w' => e = .returned .nilIface ∧ BuAt B b (l ++ [32]) w' ∧ Below B w w' ∧ Lib.OthersKept 5 (some b) w w' := writeByte B b l 32 w h hlen hBw
theorem writeByte10 (B b : Nat) (l : List UInt8) (w : World) (h : Bu B b l w) (hlen : l.length + 1 ≤ 140737488355328) (hBw : B ≤ w.heap.size) :
    Calls Tryd.prog 17 #[.pointer (some ⟨b, 0, none⟩), .int .u8 10] w fun e w' => e = .returned .nilIface ∧ BuAt B b (l ++ [10]) w' ∧ Below B w w' ∧ Lib.OthersKept 5 (some b) w w' := writeByte B b l 10 w h hlen hBw

theorem is33 (n : Int) (w : World) : (Instr.typeAssert (.iface 3 (.int .i64 n)) 20 3 true).run Tryd.prog w = .ok (.tuple #[.int .i64 n, .bool true]) w := by kernel_rfl
theorem is93 (s : ByteArray) (w : World) : (Instr.typeAssert (.iface 9 (.string s)) 20 3 true).run Tryd.prog w = .ok (.tuple #[.int .i64 0, .bool false]) w := by kernel_rfl
theorem is99 (s : ByteArray) (w : World) : (Instr.typeAssert (.iface 9 (.string s)) 20 9 true).run Tryd.prog w = .ok (.tuple #[.string s, .bool true]) w := by kernel_rfl

theorem Bu.below {B b : Nat} {l : List UInt8} {w w' : World} (h : Bu B b l w) (hb : Below w.heap.size w w') : Bu B b l w' := by
  have key : ∀ p, Lib.BuilderAt 35 5 B b p (Lib.byteCells l) w → Lib.BuilderAt 35 5 B b p (Lib.byteCells l) w' := by
    rintro p ⟨h1, v, h2, h3, h4⟩
    refine ⟨h1, v, by rw [hb.block b (Array.getElem?_eq_some_iff.1 h2).1]; exact h2, ?_, h4⟩
    exact h3.kept (row := none) ⟨hb.os, hb.tape, hb.output, hb.size, fun k hk _ => hb.block k hk⟩ (by cases v.ownBlock <;> simp)
  exact h.imp (key _) (key _)
theorem kept_of_below {e : TypeId} {b : Option Nat} {w w' : World} (hb : Below w.heap.size w w') : Lib.OthersKept e b w w' := fun k o h _ _ => by
  rw [hb.block k (Array.getElem?_eq_some_iff.1 h).1]; exact h

/-- What holds behind k words. -/
def LineRel (B b : Nat) (l : List UInt8) (ws : List Wd) (k : Nat) (w wr : World) : Prop :=
  Bu B b (l ++ joinL (ws.take k)) wr ∧ Below B w wr ∧ Lib.OthersKept 5 (some b) w wr

theorem LineRel.close {B b : Nat} {l : List UInt8} {ws : List Wd} {k : Nat} {w wr w2 : World} {sep x y : List UInt8} (hjs : joinL (ws.take (k + 1)) = joinL (ws.take k) ++ (sep ++ x)) (hbl : Below B w wr) (hkp : Lib.OthersKept 5 (some b) w wr)
    (hy : y = l ++ joinL (ws.take k) ++ sep ++ x) (h2 : BuAt B b y w2) (hb2 : Below B wr w2) (hk2 : Lib.OthersKept 5 (some b) wr w2) : LineRel B b l ws (k + 1) w w2 := by
  refine ⟨?_, hbl.trans hb2, hkp.trans hk2⟩
  rw [hjs, ← List.append_assoc, ← List.append_assoc, ← hy]
  exact h2.bu
theorem Below.bigger {B : Nat} {w w' : World} (h : Below w.heap.size w w') (hB : B ≤ w.heap.size) : Below B w w' := h.mono hB

set_option maxHeartbeats 1000000 in
theorem line_calls (B b c cap : Nat) (l : List UInt8) (ws : List Wd) (w : World) (h : Bu B b l w) (hB : B ≤ w.heap.size) (hT : TabB B w) (hl : l.length ≤ 70368744177664) (hn : ws.length ≤ 100) (hok : ∀ x ∈ ws, x.ok)
    (hc : w.heap[c]? = some (.cells (ws.map Wd.v).toArray 20 (0, 0))) (hcb : c ≠ b) :
    Calls Tryd.prog 7 #[.pointer (some ⟨b, 0, none⟩), .slice (some ⟨c, 0, none⟩) ws.length cap] w fun e w' => e = .returned (.tuple #[]) ∧ BuAt B b (l ++ (joinL ws ++ [10])) w' ∧ Below B w w' ∧ Lib.OthersKept 5 (some b) w w' := by
  go_enter Tryd.func7, Tryd.ntmps7
  go_wp2
  go_loopw [10] (fun i wr => ∃ k : Nat, k ≤ ws.length ∧ i = .int .i64 k ∧ LineRel B b l ws k w wr) (fun i _ => ws.length - (intOf i).toNat)
  case atStart => exact ⟨0, Nat.zero_le _, rfl, by simpa [joinL] using h, Below.refl _ _, Lib.OthersKept.refl _ _ _⟩
  case round =>
    obtain ⟨k, hk, rfl, hbu, hbl, hkp⟩ := hrel
    have hcr : wr.heap[c]? = some (.cells (ws.map Wd.v).toArray 20 (0, 0)) := by
      rw [hkp c _ hc (fun e => hcb (Option.some.inj e)) (fun cs fz e => by cases e)]
    by_cases hlt : k < ws.length
    · have hcell : wr.cell? ⟨c, k, none⟩ = some (ws[k]).v := by rw [Lib.cell_of_heap hcr]; simp [hlt]
      have hwok : (ws[k]).ok := hok _ (List.getElem_mem hlt)
      have hjs := joinL_take ws k hlt
      have hsz := hbl.size
      have hjl := joinL_len (ws.take k) (fun x hx => hok x (List.mem_of_mem_take hx))
      rw [List.length_take] at hjl
      by_cases hk0 : k = 0
      · subst hk0
        cases hx : ws[0] with
        | num n =>
          rw [hx] at hcell hwok hjs
          have hcell' : wr.cell? ⟨c, 0, none⟩ = some (.iface 3 (.int .i64 n)) := hcell
          have t1 := is33; have t2 := is93; have t3 := is99
          clear hcell hx
          go_wp2_with fail
          refine Mix.wp_region_mix 5 [false, false, false, false, true] (by kernel_rfl) (by kernel_rfl) ?_
          simp only [List.take_succ_cons, List.take_zero, List.drop_succ_cons, List.drop_zero]
          repeat (refine Mix.wpMix_plain (fun K hK => ?_); go_simp; refine hK _ ?_; clear hK K)
          refine Mix.wpMix_chain (fun K hK hK' => ?_) (Mix.InB.drew _)
          go_simp
          refine (itoa_calls n hwok _ (hT.up hbl (Nat.le_refl _) _ ((Below.refl _ _).drew))).mono ?_
          rintro e w1 ⟨rfl, hb1⟩
          have hbb : Below wr.heap.size wr w1 := ((Below.refl _ _).drew).trans hb1
          refine hK _ _ hbb (Mix.wpMix_nil ?_)
          clear hK hK' K
          have hbu1 := hbu.below hbb
          have hz1 := hbb.size
          have hi := itoaS_size n hwok
          go_wp2_with (go_at_call 18; refine (writeString B b _ (itoaS n) _ hbu1 (by rw [List.length_append]; omega) (by omega)).mono ?_; rintro e w2 ⟨rfl, hbu2, hbl2, hkp2⟩)
          go_roundw
          case rel => exact ⟨0 + 1, by omega, by go_num, LineRel.close hjs hbl hkp (by simp [Wd.b, Wd.s]) hbu2 ((hbb.mono (by omega)).trans hbl2) ((kept_of_below hbb).trans hkp2)⟩
          case measure => simp [intOf]; omega
        | str s =>
          rw [hx] at hcell hwok hjs
          have hcell' : wr.cell? ⟨c, 0, none⟩ = some (.iface 9 (.string s)) := hcell
          have t1 := is33; have t2 := is93; have t3 := is99
          have hi : s.size ≤ 4194304 := hwok
          clear hcell hx
          go_wp2_with (go_at_call 18; refine (writeString B b _ s _ hbu (by rw [List.length_append]; omega) (by omega)).mono ?_; rintro e w2 ⟨rfl, hbu2, hbl2, hkp2⟩)
          go_roundw
          case rel => exact ⟨0 + 1, by omega, by go_num, LineRel.close hjs hbl hkp (by simp [Wd.b, Wd.s]) hbu2 hbl2 hkp2⟩
          case measure => simp [intOf]; omega
      · have hk1 : decide ((0 : Int) < (k : Int)) = true := decide_eq_true (by omega)
        have hk2 : 0 < k := by omega
        rw [if_neg hk0] at hjs
        clear hk0
        cases hx : ws[k] with
        | num n =>
          rw [hx] at hcell hwok hjs
          have hcell' : wr.cell? ⟨c, k, none⟩ = some (.iface 3 (.int .i64 n)) := hcell
          have t1 := is33; have t2 := is93; have t3 := is99
          clear hcell hx
          go_wp2_with (go_at_call 17; refine (writeByte32 B b _ _ hbu (by rw [List.length_append]; omega) (by omega)).mono ?_; rintro e w0 ⟨rfl, hbu0, hbl0, hkp0⟩)
          have hz0 := hbl0.size
          refine Mix.wp_region_mix 5 [false, false, false, false, true] (by kernel_rfl) (by kernel_rfl) ?_
          simp only [List.take_succ_cons, List.take_zero, List.drop_succ_cons, List.drop_zero]
          repeat (refine Mix.wpMix_plain (fun K hK => ?_); go_simp; refine hK _ ?_; clear hK K)
          refine Mix.wpMix_chain (fun K hK hK' => ?_) (Mix.InB.drew _)
          go_simp
          refine (itoa_calls n hwok _ (hT.up (hbl.trans hbl0) (Nat.le_refl _) _ ((Below.refl _ _).drew))).mono ?_
          rintro e w1 ⟨rfl, hb1⟩
          have hbb : Below w0.heap.size w0 w1 := ((Below.refl _ _).drew).trans hb1
          refine hK _ _ hbb (Mix.wpMix_nil ?_)
          clear hK hK' K
          have hbu1 := hbu0.bu.below hbb
          have hz1 := hbb.size
          have hi := itoaS_size n hwok
          go_wp2_with (go_at_call 18; refine (writeString B b _ (itoaS n) _ hbu1 (by rw [List.length_append, List.length_append]; simp only [List.length_cons, List.length_nil]; omega) (by omega)).mono ?_; rintro e w2 ⟨rfl, hbu2, hbl2, hkp2⟩)
          go_roundw
          case rel => exact ⟨k + 1, by omega, by go_num, LineRel.close hjs hbl hkp rfl hbu2 ((hbl0.trans (hbb.mono (by omega))).trans hbl2) ((hkp0.trans (kept_of_below hbb)).trans hkp2)⟩
          case measure => simp [intOf]; omega
        | str s =>
          rw [hx] at hcell hwok hjs
          have hcell' : wr.cell? ⟨c, k, none⟩ = some (.iface 9 (.string s)) := hcell
          have t1 := is33; have t2 := is93; have t3 := is99
          have hi : s.size ≤ 4194304 := hwok
          clear hcell hx
          go_wp2_with (first | (go_at_call 17; refine (writeByte32 B b _ _ hbu (by rw [List.length_append]; omega) (by omega)).mono ?_; rintro e w0 ⟨rfl, hbu0, hbl0, hkp0⟩; have hz0 := hbl0.size) | (go_at_call 18; refine (writeString B b _ s _ hbu0.bu (by rw [List.length_append, List.length_append]; simp only [List.length_cons, List.length_nil]; omega) (by omega)).mono ?_; rintro e w2 ⟨rfl, hbu2, hbl2, hkp2⟩))
          go_roundw
          case rel => exact ⟨k + 1, by omega, by go_num, LineRel.close hjs hbl hkp rfl hbu2 (hbl0.trans hbl2) (hkp0.trans hkp2)⟩
          case measure => simp [intOf]; omega
    · obtain rfl : k = ws.length := by omega
      have hsz := hbl.size
      have hjl := joinL_len ws hok
      have hft : ws.take ws.length = ws := List.take_length
      rw [hft] at hbu
      clear hft
      go_wp2_with (go_at_call 17; refine (writeByte10 B b _ _ hbu (by rw [List.length_append]; omega) (by omega)).mono ?_; rintro e w0 ⟨rfl, hbu0, hbl0, hkp0⟩)
      go_end0
      exact ⟨rfl, by rw [← List.append_assoc]; exact hbu0, hbl.trans hbl0, hkp.trans hkp0⟩
end Go.Proofs.YtpknkifmjokhgaaDoor
