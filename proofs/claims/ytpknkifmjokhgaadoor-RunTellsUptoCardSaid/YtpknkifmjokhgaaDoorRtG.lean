/- Tell of package run, walked. -/
import Derived.Test.YtpknkifmjokhgaaDoorRtF
set_option linter.unusedVariables false
namespace Go.Proofs.YtpknkifmjokhgaaDoor
open Go Go.RowKit Go.Sort

structure OutD where
  module : Int
  part : Int
  frame : Int
  A1 : Option Addr
  c1 : Nat
  ms : List MsgD
  A2 : Option Addr
  c2 : Nat
  rs : List RepD
def OutD.cs (o : OutD) : List Value := [.int .i64 o.module, .int .i64 o.part, .int .i64 o.frame, .slice o.A1 o.ms.length o.c1, .slice o.A2 o.rs.length o.c2]
def OutD.ok (o : OutD) : Prop := I64 o.module ∧ I64 o.part ∧ I64 o.frame ∧ (∀ m ∈ o.ms, m.ok) ∧ (∀ r ∈ o.rs, r.ok)
def OutD.at_ (o : OutD) (w : World) (B : Nat) : Prop := RowsAt MsgD.cs 2 w B o.A1 o.ms ∧ RowsAt RepD.cs 4 w B o.A2 o.rs
structure EvD where
  kind : Int
  part : Int
  module : Int
def EvD.cs (e : EvD) : List Value := [.int .i64 e.kind, .int .i64 e.part, .int .i64 e.module]
def EvD.ok (e : EvD) : Prop := I64 e.kind ∧ I64 e.part ∧ I64 e.module

def outHead (o : OutD) : ByteArray := ⟨#[32, 32]⟩ ++ (⟨#[109]⟩ ++ itoaS o.module) ++ ⟨#[32]⟩ ++ (⟨#[112]⟩ ++ itoaS o.part) ++ ⟨#[32]⟩ ++ (⟨#[102]⟩ ++ itoaS o.frame)
def outLn (o : OutD) : List UInt8 := outL (outHead o) o.ms o.rs
def evWs (e : EvD) : List Wd := [.str (⟨#[32, 32]⟩ ++ (⟨#[112]⟩ ++ itoaS e.part)), .str (eventWordS e.kind), .str (⟨#[109]⟩ ++ itoaS e.module)]
def letterS : ByteArray := ⟨#[108, 101, 116, 116, 101, 114]⟩
def firstWs (n code msg : Int) : List Wd := if msg = 0 then [.num n, .str (wordS code)] else [.num n, .str (wordS code), .str letterS, .num msg]
def tellL (n code msg : Int) (outs : List OutD) (evs : List EvD) : List UInt8 := lineL (firstWs n code msg) ++ (outs.flatMap outLn ++ evs.flatMap fun e => lineL (evWs e))
def linesOf (outs : List OutD) : Nat := (outs.map fun o => o.ms.length + o.rs.length).sum

theorem outHead_size (o : OutD) (h : o.ok) : (outHead o).size ≤ 100 := by
  have h1 := itoaS_size _ h.1
  have h2 := itoaS_size _ h.2.1
  have h3 := itoaS_size _ h.2.2.1
  unfold outHead
  simp only [ByteArray.size_append]
  have e1 : (⟨#[32, 32]⟩ : ByteArray).size = 2 := rfl
  have e2 : (⟨#[109]⟩ : ByteArray).size = 1 := rfl
  have e3 : (⟨#[32]⟩ : ByteArray).size = 1 := rfl
  have e4 : (⟨#[112]⟩ : ByteArray).size = 1 := rfl
  have e5 : (⟨#[102]⟩ : ByteArray).size = 1 := rfl
  omega
theorem evWs_ok (e : EvD) (h : e.ok) : ∀ x ∈ evWs e, x.ok := by
  have h1 := itoaS_size _ h.2.1
  have h2 := itoaS_size _ h.2.2
  have e1 : (⟨#[32, 32]⟩ : ByteArray).size = 2 := rfl
  have e2 : (⟨#[109]⟩ : ByteArray).size = 1 := rfl
  have e4 : (⟨#[112]⟩ : ByteArray).size = 1 := rfl
  intro x hx
  simp only [evWs, List.mem_cons, List.not_mem_nil, or_false] at hx
  rcases hx with rfl | rfl | rfl
  · show (_ : ByteArray).size ≤ _
    simp only [ByteArray.size_append]
    omega
  · exact eventWordS_size _ h.1
  · show (_ : ByteArray).size ≤ _
    simp only [ByteArray.size_append]
    omega
theorem firstWs_ok (n code msg : Int) (hn : I64 n) (hc : I64 code) (hm : I64 msg) : ∀ x ∈ firstWs n code msg, x.ok := by
  intro x hx
  unfold firstWs at hx
  split at hx <;> simp only [List.mem_cons, List.not_mem_nil, or_false] at hx
  · rcases hx with rfl | rfl
    · exact hn
    · exact wordS_size _ hc
  · rcases hx with rfl | rfl | rfl | rfl
    · exact hn
    · exact wordS_size _ hc
    · show letterS.size ≤ _; decide
    · exact hm
theorem firstWs_len (n code msg : Int) : (firstWs n code msg).length ≤ 7 := by unfold firstWs; split <;> simp

theorem outL_len (head : ByteArray) (ms : List MsgD) (rs : List RepD) (hh : head.size ≤ 4194304) (hm : ∀ m ∈ ms, m.ok) (hr : ∀ r ∈ rs, r.ok) : (outL head ms rs).length ≤ (ms.length + rs.length) * 33554432 := by
  have h1 := outHead_len head ms hh hm ms.length
  have h2 := outTail_len head rs hh hr rs.length
  rw [List.take_length] at h1 h2
  rw [outL, List.length_append, Nat.add_mul]
  exact Nat.add_le_add h1 h2
theorem outs_len (outs : List OutD) (h : ∀ o ∈ outs, o.ok) : (outs.flatMap outLn).length ≤ linesOf outs * 33554432 := by
  induction outs with
  | nil => simp
  | cons o outs ih =>
    rw [List.flatMap_cons, List.length_append]
    have ho := h o (by simp)
    have h1 := outL_len (outHead o) o.ms o.rs (by have := outHead_size o ho; omega) ho.2.2.2.1 ho.2.2.2.2
    have h2 := ih (fun x hx => h x (by simp [hx]))
    have e : linesOf (o :: outs) = (o.ms.length + o.rs.length) + linesOf outs := by simp [linesOf]
    rw [e, Nat.add_mul]
    exact Nat.add_le_add h1 h2
theorem linesOf_take (outs : List OutD) (k : Nat) (h : k < outs.length) : linesOf (outs.take (k + 1)) = linesOf (outs.take k) + (outs[k].ms.length + outs[k].rs.length) := by
  unfold linesOf
  rw [List.take_succ_eq_append_getElem h, List.map_append, List.sum_append]
  simp
theorem linesOf_take_le (outs : List OutD) (k : Nat) : linesOf (outs.take k) ≤ linesOf outs := by
  have e : linesOf outs = linesOf (outs.take k) + linesOf (outs.drop k) := by
    conv => lhs; rw [← List.take_append_drop k outs]
    unfold linesOf
    rw [List.map_append, List.sum_append]
  omega

def TellRel (b : Nat) (x : List UInt8) (w wr : World) : Prop := Bu b b x wr ∧ Below b w wr

set_option maxHeartbeats 1000000 in
theorem tell_calls (n code msg : Int) (AO AE : Option Addr) (cO cE : Nat) (outs : List OutD) (evs : List EvD) (w : World) (hT : TabB w.heap.size w) (hn : I64 n) (hcd : I64 code) (hmg : I64 msg)
    (hl : (linesOf outs + evs.length + 2) * 33554432 ≤ 70368744177664) (ho : ∀ o ∈ outs, o.ok) (he : ∀ e ∈ evs, e.ok) (hol : outs.length ≤ 2147483648) (hel : evs.length ≤ 2147483648)
    (hos : RowsAt OutD.cs 5 w w.heap.size AO outs) (hoa : ∀ o ∈ outs, o.at_ w w.heap.size) (hes : RowsAt EvD.cs 3 w w.heap.size AE evs) :
    Calls Tryd.prog 4 #[.int .i64 n, .agg #[.int .i64 code, .slice AO outs.length cO, .slice AE evs.length cE, .int .i64 msg]] w fun e w' => e = .returned (.string (bs (tellL n code msg outs evs))) ∧ Below w.heap.size w w' := by
  have hfw := firstWs_ok n code msg hn hcd hmg
  have hfl := firstWs_len n code msg
  have hL0 := lineL_len _ hfw hfl
  have hl2 := hl
  rw [Nat.add_mul, Nat.add_mul] at hl2
  clear hl
  have B2 : Below w.heap.size w ((w.alloc (.cells #[.int .i64 code, .slice AO outs.length cO, .slice AE evs.length cE, .int .i64 msg] 25)).alloc (.cells #[.pointer none, .slice none 0 0] 35)) := ((Below.refl _ _).alloc (Nat.le_refl _) _).alloc (by simp) _
  have F2 : Bu (w.heap.size + 1) (w.heap.size + 1) [] ((w.alloc (.cells #[.int .i64 code, .slice AO outs.length cO, .slice AE evs.length cE, .int .i64 msg] 25)).alloc (.cells #[.pointer none, .slice none 0 0] 35)) := by
    have := Lib.fresh_isBuilder 35 5 (w.alloc (.cells #[.int .i64 code, .slice AO outs.length cO, .slice AE evs.length cE, .int .i64 msg] 25))
    simpa [Bu, Lib.byteCells] using this
  have X2 : ((w.alloc (.cells #[.int .i64 code, .slice AO outs.length cO, .slice AE evs.length cE, .int .i64 msg] 25)).alloc (.cells #[.pointer none, .slice none 0 0] 35)).heap[w.heap.size]? = some (.cells #[.int .i64 code, .slice AO outs.length cO, .slice AE evs.length cE, .int .i64 msg] 25 (0, 0)) := by
    rw [Lib.alloc_old _ _ _ (by simp)]; exact heap_alloc_new _ _
  have S2 : ((w.alloc (.cells #[.int .i64 code, .slice AO outs.length cO, .slice AE evs.length cE, .int .i64 msg] 25)).alloc (.cells #[.pointer none, .slice none 0 0] 35)).heap.size = w.heap.size + 2 := by simp
  by_cases hm0 : msg = 0
  · subst hm0
    go_enter Tryd.func4, Tryd.ntmps4
    go_wp2_with (go_at_call 8; fail)
    generalize (w.alloc (.cells #[.int .i64 code, .slice AO outs.length cO, .slice AE evs.length cE, .int .i64 0] 25)).alloc (.cells #[.pointer none, .slice none 0 0] 35) = w2 at *
    refine (word_calls code hcd _ (hT.up B2 (Nat.le_refl _)).here).mono ?_
    rintro e w3 ⟨rfl, hb3⟩
    have hz3 := hb3.size
    have b1 : w3.cell? ⟨w.heap.size, 1, none⟩ = some (.slice AO outs.length cO) := by rw [hb3.cell (by simp; omega), Lib.cell_of_heap X2]; rfl
    go_wp2_with (go_at_call 7; refine (line_calls (w.heap.size + 1) (w.heap.size + 1) w3.heap.size 2 [] (firstWs n code 0) _ ((F2.below hb3).below ((Below.refl _ _).alloc (Nat.le_refl _) _)) (by simp; omega) ((hT.up (B2.trans (hb3.mono (by omega))) (Nat.le_refl _)).up ((Below.refl _ _).alloc (by omega) _) (by omega)) (by simp) (by omega) hfw (heap_alloc_new _ _) (by omega)).mono ?_; rintro e w4 ⟨rfl, hbu4, hbl4, hkp4⟩; have c4 : w4.cell? ⟨w.heap.size, 1, none⟩ = some (.slice AO outs.length cO) := by rw [hbl4.cell (by simp), World.cell?_alloc_past _ _ _ (by omega)]; exact b1)
    rw [List.nil_append] at hbu4
    have hbl : Below (w.heap.size + 1) w2 w4 := ((hb3.mono (by omega)).alloc (by omega) _).trans hbl4
    have hbu : Bu (w.heap.size + 1) (w.heap.size + 1) (lineL (firstWs n code 0)) w4 := hbu4.bu
    clear hbu4 hbl4 hkp4 c4 b1
    go_loopw [36] (fun i wr => ∃ k : Nat, k ≤ outs.length ∧ i = .int .i64 k ∧ Bu (w.heap.size + 1) (w.heap.size + 1) (lineL (firstWs n code 0) ++ (outs.take k).flatMap outLn) wr ∧ Below (w.heap.size + 1) w2 wr) (fun i _ => outs.length - (intOf i).toNat)
    case atStart => exact ⟨0, Nat.zero_le _, rfl, by simpa using hbu, hbl⟩
    case round =>
      clear hbu hbl
      obtain ⟨k, hk, rfl, hbu, hbl⟩ := hrel
      have hbW : Below w.heap.size w wr := B2.trans (hbl.mono (by omega))
      have hz := hbl.size
      by_cases hlt : k < outs.length
      · obtain ⟨mb, mo, hA, hmb, hcs⟩ := (hos.below hbW) k hlt
        cases hA
        have e0 := hcs 0 _ rfl
        have e1 := hcs 1 _ rfl
        have e2 := hcs 2 _ rfl
        have e3 := hcs 3 _ rfl
        have e4 := hcs 4 _ rfl
        rw [Nat.add_zero] at e0
        clear hcs
        have hook := ho _ (List.getElem_mem hlt)
        have hoat := hoa _ (List.getElem_mem hlt)
        have hlen := outs_len (outs.take k) (fun x hx => ho x (List.mem_of_mem_take hx))
        have hlk := linesOf_take outs k hlt
        have hlk2 := linesOf_take_le outs (k + 1)
        have hnext : (outs.take (k + 1)).flatMap outLn = (outs.take k).flatMap outLn ++ outLn outs[k] := by rw [List.take_succ_eq_append_getElem hlt, List.flatMap_append, List.flatMap_cons, List.flatMap_nil, List.append_nil]
        generalize hx : outs[k] = x at *
        have hhs := outHead_size x hook
        have hs1 := itoaS_size _ hook.1
        have hs2 := itoaS_size _ hook.2.1
        have hs3 := itoaS_size _ hook.2.2.1
        go_wp2_with fail
        have hbw : Below wr.heap.size wr (wr.alloc (.cells #[.int .i64 x.module, .int .i64 x.part, .int .i64 x.frame, .slice x.A1 x.ms.length x.c1, .slice x.A2 x.rs.length x.c2] 43)) := (Below.refl _ _).alloc (Nat.le_refl _) _
        have q0 : (wr.alloc (.cells #[.int .i64 x.module, .int .i64 x.part, .int .i64 x.frame, .slice x.A1 x.ms.length x.c1, .slice x.A2 x.rs.length x.c2] 43)).cell? ⟨wr.heap.size, 0, none⟩ = some (.int .i64 x.module) := World.cell?_alloc_at _ _ _ _ rfl
        have q1 : (wr.alloc (.cells #[.int .i64 x.module, .int .i64 x.part, .int .i64 x.frame, .slice x.A1 x.ms.length x.c1, .slice x.A2 x.rs.length x.c2] 43)).cell? ⟨wr.heap.size, 1, none⟩ = some (.int .i64 x.part) := World.cell?_alloc_at _ _ _ _ rfl
        have q2 : (wr.alloc (.cells #[.int .i64 x.module, .int .i64 x.part, .int .i64 x.frame, .slice x.A1 x.ms.length x.c1, .slice x.A2 x.rs.length x.c2] 43)).cell? ⟨wr.heap.size, 2, none⟩ = some (.int .i64 x.frame) := World.cell?_alloc_at _ _ _ _ rfl
        have q3 : (wr.alloc (.cells #[.int .i64 x.module, .int .i64 x.part, .int .i64 x.frame, .slice x.A1 x.ms.length x.c1, .slice x.A2 x.rs.length x.c2] 43)).cell? ⟨wr.heap.size, 3, none⟩ = some (.slice x.A1 x.ms.length x.c1) := World.cell?_alloc_at _ _ _ _ rfl
        have q4 : (wr.alloc (.cells #[.int .i64 x.module, .int .i64 x.part, .int .i64 x.frame, .slice x.A1 x.ms.length x.c1, .slice x.A2 x.rs.length x.c2] 43)).cell? ⟨wr.heap.size, 4, none⟩ = some (.slice x.A2 x.rs.length x.c2) := World.cell?_alloc_at _ _ _ _ rfl
        generalize wr.alloc (.cells #[.int .i64 x.module, .int .i64 x.part, .int .i64 x.frame, .slice x.A1 x.ms.length x.c1, .slice x.A2 x.rs.length x.c2] 43) = w0 at *
        have hT0 : TabB w0.heap.size w0 := hT.up (hbW.trans (hbw.mono hbW.size)) (by have := hbw.size; have := hbW.size; omega)
        have g0_ := fun d os => cell_regrown q0 d os
        have g1_ := fun d os => cell_regrown q1 d os
        have g2_ := fun d os => cell_regrown q2 d os
        have g3_ := fun d os => cell_regrown q3 d os
        have g4_ := fun d os => cell_regrown q4 d os
        refine Mix.wp_region_mix 16 [false, false, true, false, false, false, false, true, false, false, false, false, true, false, false, false] (by kernel_rfl) (by kernel_rfl) ?_
        simp only [List.take_succ_cons, List.take_zero, List.drop_succ_cons, List.drop_zero]
        repeat (refine Mix.wpMix_plain (fun K hK => ?_); go_simp; first | (refine hK _ ?_) | (simp (disch := omega) only [if_neg]; go_simp; refine hK _ ?_); clear hK K)
        refine Mix.wpMix_chain (fun K hK hK' => ?_) (Mix.InB.drew _)
        go_simp
        refine (tag_calls ⟨#[109]⟩ x.module (by decide) hook.1 _ (hT0 _ ((Below.refl _ _).drew))).mono ?_
        rintro e W1 ⟨rfl, hB1⟩
        have hI1 : Below w0.heap.size w0 W1 := ((Below.refl _ _).drew).trans hB1
        have hZ1 := hI1.size
        refine hK _ _ hI1 ?_
        clear hK hK' K
        repeat (refine Mix.wpMix_plain (fun K hK => ?_); go_simp; first | (refine hK _ ?_) | (simp (disch := omega) only [if_neg]; go_simp; refine hK _ ?_); clear hK K)
        refine Mix.wpMix_chain (fun K hK hK' => ?_) hI1
        go_simp
        refine (tag_calls ⟨#[112]⟩ x.part (by decide) hook.2.1 _ (hT0 _ hI1)).mono ?_
        rintro e W2 ⟨rfl, hB2⟩
        have hI2 : Below w0.heap.size w0 W2 := hI1.trans (hB2.mono hI1.size)
        have hZ2 := hI2.size
        refine hK _ _ hI2 ?_
        clear hK hK' K
        repeat (refine Mix.wpMix_plain (fun K hK => ?_); go_simp; first | (refine hK _ ?_) | (simp (disch := omega) only [if_neg]; go_simp; refine hK _ ?_); clear hK K)
        refine Mix.wpMix_chain (fun K hK hK' => ?_) hI2
        go_simp
        refine (tag_calls ⟨#[102]⟩ x.frame (by decide) hook.2.2.1 _ (hT0 _ hI2)).mono ?_
        rintro e W3 ⟨rfl, hB3⟩
        have hI3 : Below w0.heap.size w0 W3 := hI2.trans (hB3.mono hI2.size)
        have hZ3 := hI3.size
        refine hK _ _ hI3 ?_
        clear hK hK' K
        repeat (refine Mix.wpMix_plain (fun K hK => ?_); go_simp; first | (refine hK _ ?_) | (simp (disch := omega) only [if_neg]; go_simp; refine hK _ ?_); clear hK K)
        refine Mix.wpMix_nil ?_
        have hbig : Below wr.heap.size wr W3 := hbw.trans (hI3.mono hbw.size)
        have hz1 := hbig.size
        go_wp2_with (go_at_call 9; refine (out_calls (w.heap.size + 1) (w.heap.size + 1) _ (outHead x) x.A1 x.A2 x.c1 x.c2 x.ms x.rs _ (hbu.below hbig) (by omega) (by omega) ((hT.up hbW (Nat.le_refl _)).up (hbig.mono hbW.size) (by omega)) (by omega) (by rw [List.length_append]; omega) hook.2.2.2.1 hook.2.2.2.2 ((hoat.1.below (hbW.trans (hbig.mono hbW.size))).mono (by omega)) ((hoat.2.below (hbW.trans (hbig.mono hbW.size))).mono (by omega))).mono ?_; rintro e W4 ⟨rfl, hbu4, hbl4⟩)
        go_roundw
        case rel =>
          refine ⟨k + 1, by omega, by go_num, ?_, (hbl.trans (hbig.mono (by omega))).trans hbl4⟩
          rw [hnext, ← List.append_assoc]
          exact hbu4
        case measure => simp [intOf]; omega
      · obtain rfl : k = outs.length := by omega
        rw [List.take_length] at hbu
        have hlen0 := outs_len outs ho
        have b2 : wr.cell? ⟨w.heap.size, 2, none⟩ = some (.slice AE evs.length cE) := by rw [hbl.cell (by simp), Lib.cell_of_heap X2]; rfl
        obtain ⟨wo, hwo⟩ : ∃ wo : World, wo = wr := ⟨_, rfl⟩
        subst hwo
        go_wp2_with fail
        go_loopw [61] (fun i wr => ∃ k : Nat, k ≤ evs.length ∧ i = .int .i64 k ∧ Bu (w.heap.size + 1) (w.heap.size + 1) (lineL (firstWs n code 0) ++ outs.flatMap outLn ++ (evs.take k).flatMap fun e => lineL (evWs e)) wr ∧ Below (w.heap.size + 1) w2 wr) (fun i _ => evs.length - (intOf i).toNat)
        case atStart => exact ⟨0, Nat.zero_le _, rfl, by simpa using hbu, hbl⟩
        case round =>
          clear hbu hbl b2 hz hbW
          obtain ⟨k, hk, rfl, hbu, hbl⟩ := hrel
          have hbW : Below w.heap.size w wr := B2.trans (hbl.mono (by omega))
          have hz := hbl.size
          by_cases hlt : k < evs.length
          · obtain ⟨mb, mo, hA, hmb, hcs⟩ := (hes.below hbW) k hlt
            cases hA
            have e0 := hcs 0 _ rfl
            have e1 := hcs 1 _ rfl
            have e2 := hcs 2 _ rfl
            rw [Nat.add_zero] at e0
            clear hcs
            have hook := he _ (List.getElem_mem hlt)
            have hlen := flat_len (fun e => lineL (evWs e)) (evs.take k) (fun x hx => lineL_len _ (evWs_ok x (he x (List.mem_of_mem_take hx))) (by simp [evWs]))
            have hlk2 : (evs.take k).length ≤ k := List.length_take_le _ _
            have hnext : (evs.take (k + 1)).flatMap (fun e => lineL (evWs e)) = (evs.take k).flatMap (fun e => lineL (evWs e)) ++ lineL (evWs evs[k]) := by rw [List.take_succ_eq_append_getElem hlt, List.flatMap_append, List.flatMap_cons, List.flatMap_nil, List.append_nil]
            generalize hx : evs[k] = x at *
            have hwok := evWs_ok x hook
            have hs1 := itoaS_size _ hook.2.1
            have hs2 := itoaS_size _ hook.2.2
            have hs3 := eventWordS_size _ hook.1
            go_wp2_with fail
            have hbw : Below wr.heap.size wr (wr.alloc (.cells #[.int .i64 x.kind, .int .i64 x.part, .int .i64 x.module] 47)) := (Below.refl _ _).alloc (Nat.le_refl _) _
            have q0 : (wr.alloc (.cells #[.int .i64 x.kind, .int .i64 x.part, .int .i64 x.module] 47)).cell? ⟨wr.heap.size, 0, none⟩ = some (.int .i64 x.kind) := World.cell?_alloc_at _ _ _ _ rfl
            have q1 : (wr.alloc (.cells #[.int .i64 x.kind, .int .i64 x.part, .int .i64 x.module] 47)).cell? ⟨wr.heap.size, 1, none⟩ = some (.int .i64 x.part) := World.cell?_alloc_at _ _ _ _ rfl
            have q2 : (wr.alloc (.cells #[.int .i64 x.kind, .int .i64 x.part, .int .i64 x.module] 47)).cell? ⟨wr.heap.size, 2, none⟩ = some (.int .i64 x.module) := World.cell?_alloc_at _ _ _ _ rfl
            generalize wr.alloc (.cells #[.int .i64 x.kind, .int .i64 x.part, .int .i64 x.module] 47) = w0 at *
            have hT0 : TabB w0.heap.size w0 := hT.up (hbW.trans (hbw.mono hbW.size)) (by have := hbw.size; have := hbW.size; omega)
            have g0_ := fun d os => cell_regrown q0 d os
            have g1_ := fun d os => cell_regrown q1 d os
            have g2_ := fun d os => cell_regrown q2 d os
            refine Mix.wp_region_mix 14 [false, false, true, false, false, false, false, true, false, false, false, true, false, true] (by kernel_rfl) (by kernel_rfl) ?_
            simp only [List.take_succ_cons, List.take_zero, List.drop_succ_cons, List.drop_zero]
            repeat (refine Mix.wpMix_plain (fun K hK => ?_); go_simp; first | (refine hK _ ?_) | (simp (disch := omega) only [if_neg]; go_simp; refine hK _ ?_); clear hK K)
            refine Mix.wpMix_chain (fun K hK hK' => ?_) (Mix.InB.drew _)
            go_simp
            refine (tag_calls ⟨#[112]⟩ x.part (by decide) hook.2.1 _ (hT0 _ ((Below.refl _ _).drew))).mono ?_
            rintro e W1 ⟨rfl, hB1⟩
            have hI1 : Below w0.heap.size w0 W1 := ((Below.refl _ _).drew).trans hB1
            have hZ1 := hI1.size
            refine hK _ _ hI1 ?_
            clear hK hK' K
            repeat (refine Mix.wpMix_plain (fun K hK => ?_); go_simp; first | (refine hK _ ?_) | (simp (disch := omega) only [if_neg]; go_simp; refine hK _ ?_); clear hK K)
            refine Mix.wpMix_chain (fun K hK hK' => ?_) hI1
            go_simp
            refine (eventWord_calls x.kind hook.1 _ (hT0 _ hI1)).mono ?_
            rintro e W2 ⟨rfl, hB2⟩
            have hI2 : Below w0.heap.size w0 W2 := hI1.trans (hB2.mono hI1.size)
            have hZ2 := hI2.size
            refine hK _ _ hI2 ?_
            clear hK hK' K
            repeat (refine Mix.wpMix_plain (fun K hK => ?_); go_simp; first | (refine hK _ ?_) | (simp (disch := omega) only [if_neg]; go_simp; refine hK _ ?_); clear hK K)
            refine Mix.wpMix_chain (fun K hK hK' => ?_) hI2
            go_simp
            refine (tag_calls ⟨#[109]⟩ x.module (by decide) hook.2.2 _ (hT0 _ hI2)).mono ?_
            rintro e W3 ⟨rfl, hB3⟩
            have hI3 : Below w0.heap.size w0 W3 := hI2.trans (hB3.mono hI2.size)
            have hZ3 := hI3.size
            refine hK _ _ hI3 ?_
            clear hK hK' K
            repeat (refine Mix.wpMix_plain (fun K hK => ?_); go_simp; first | (refine hK _ ?_) | (simp (disch := omega) only [if_neg]; go_simp; refine hK _ ?_); clear hK K)
            refine Mix.wpMix_chain (fun K hK hK' => ?_) hI3
            go_simp
            refine hK _ _ (hI3.alloc hI3.size _) (Mix.wpMix_nil ?_)
            clear hK hK' K
            have hbig : Below wr.heap.size wr W3 := hbw.trans (hI3.mono hbw.size)
            have hz1 := hbig.size
            go_wp2_with (go_at_call 7; refine (line_calls (w.heap.size + 1) (w.heap.size + 1) W3.heap.size 3 _ (evWs x) _ (hbu.below (hbig.alloc hz1 _)) (by simp; omega) (((hT.up hbW (Nat.le_refl _)).up (hbig.mono hbW.size) (by omega)).up ((Below.refl _ _).alloc (by omega) _) (Nat.le_refl _)) (by rw [List.length_append, List.length_append]; omega) (by simp [evWs]) hwok (heap_alloc_new _ _) (by omega)).mono ?_; rintro e W4 ⟨rfl, hbu4, hbl4, hkp4⟩)
            go_roundw
            case rel =>
              refine ⟨k + 1, by omega, by go_num, ?_, (hbl.trans ((hbig.mono (by omega)).alloc (by omega) _)).trans hbl4⟩
              rw [hnext, ← List.append_assoc]
              exact hbu4.bu
            case measure => simp [intOf]; omega
          · obtain rfl : k = evs.length := by omega
            rw [List.take_length] at hbu
            go_wp2_with (go_at_call 12; refine (builderString (w.heap.size + 1) (w.heap.size + 1) _ _ hbu (by simp [lineL])).mono ?_; rintro e W5 ⟨rfl, hbl5⟩)
            go_ret
            exact ⟨rfl, hbW.trans (hbl5.mono (by omega))⟩
  · go_enter Tryd.func4, Tryd.ntmps4
    have hm1 : (msg == 0) = false := by simp [hm0]
    have hm2 : (msg != 0) = true := by simp [hm0]
    have hfe : firstWs n code msg = [.num n, .str (wordS code), .str letterS, .num msg] := by unfold firstWs; rw [if_neg hm0]
    have HFE := Lib.hid hfe
    clear hfe
    have hwz := wordS_size code hcd
    go_wp2_with fail
    generalize (w.alloc (.cells #[.int .i64 code, .slice AO outs.length cO, .slice AE evs.length cE, .int .i64 msg] 25)).alloc (.cells #[.pointer none, .slice none 0 0] 35) = w2 at *
    have q0 : w2.cell? ⟨w.heap.size, 0, none⟩ = some (.int .i64 code) := by rw [Lib.cell_of_heap X2]; rfl
    have q3 : w2.cell? ⟨w.heap.size, 3, none⟩ = some (.int .i64 msg) := by rw [Lib.cell_of_heap X2]; rfl
    have hTW := hT.up B2 (Nat.le_refl _)
    have g0_ := fun d os => cell_regrown q0 d os
    have g1_ := fun d os => cell_regrown q3 d os
    refine Mix.wp_region_mix 11 [false, false, false, false, true, false, false, false, false, false, true] (by kernel_rfl) (by kernel_rfl) ?_
    simp only [List.take_succ_cons, List.take_zero, List.drop_succ_cons, List.drop_zero]
    repeat (refine Mix.wpMix_plain (fun K hK => ?_); go_simp; first | (refine hK _ ?_) | (simp (disch := omega) only [if_neg]; go_simp; refine hK _ ?_); clear hK K)
    refine Mix.wpMix_chain (fun K hK hK' => ?_) (Mix.InB.drew _)
    go_simp
    refine (word_calls code hcd _ (hTW _ ((Below.refl _ _).drew.mono B2.size))).mono ?_
    rintro e W1 ⟨rfl, hB1⟩
    have hI1 : Below w2.heap.size w2 W1 := ((Below.refl _ _).drew).trans hB1
    have hZ1 := hI1.size
    refine hK _ _ hI1 ?_
    clear hK hK' K
    repeat (refine Mix.wpMix_plain (fun K hK => ?_); go_simp; first | (refine hK _ ?_) | (simp (disch := omega) only [if_neg]; go_simp; refine hK _ ?_); clear hK K)
    refine Mix.wpMix_chain (fun K hK hK' => ?_) hI1
    go_simp
    refine hK _ _ (hI1.alloc hI1.size _) (Mix.wpMix_nil ?_)
    clear hK hK' K
    have hz3 := hI1.size
    have hb3 := hI1
    have b1 : W1.cell? ⟨w.heap.size, 1, none⟩ = some (.slice AO outs.length cO) := by rw [hb3.cell (by simp; omega), Lib.cell_of_heap X2]; rfl
    go_wp2_with (go_at_call 7; refine (line_calls (w.heap.size + 1) (w.heap.size + 1) W1.heap.size 4 [] [.num n, .str (wordS code), .str letterS, .num msg] _ ((F2.below hb3).below ((Below.refl _ _).alloc (Nat.le_refl _) _)) (by simp; omega) ((hT.up (B2.trans (hb3.mono (by omega))) (Nat.le_refl _)).up ((Below.refl _ _).alloc (by omega) _) (by omega)) (by simp) (by simp) (by rw [← HFE.out]; exact hfw) (heap_alloc_new _ _) (by omega)).mono ?_; rintro e w4 ⟨rfl, hbu4, hbl4, hkp4⟩; have c4 : w4.cell? ⟨w.heap.size, 1, none⟩ = some (.slice AO outs.length cO) := by rw [hbl4.cell (by simp), World.cell?_alloc_past _ _ _ (by omega)]; exact b1)
    rw [← HFE.out] at hbu4
    rw [List.nil_append] at hbu4
    have hbl : Below (w.heap.size + 1) w2 w4 := ((hb3.mono (by omega)).alloc (by omega) _).trans hbl4
    have hbu : Bu (w.heap.size + 1) (w.heap.size + 1) (lineL (firstWs n code msg)) w4 := hbu4.bu
    clear hbu4 hbl4 hkp4 c4 b1
    go_loopw [36] (fun i wr => ∃ k : Nat, k ≤ outs.length ∧ i = .int .i64 k ∧ Bu (w.heap.size + 1) (w.heap.size + 1) (lineL (firstWs n code msg) ++ (outs.take k).flatMap outLn) wr ∧ Below (w.heap.size + 1) w2 wr) (fun i _ => outs.length - (intOf i).toNat)
    case atStart => exact ⟨0, Nat.zero_le _, rfl, by simpa using hbu, hbl⟩
    case round =>
      clear hbu hbl
      obtain ⟨k, hk, rfl, hbu, hbl⟩ := hrel
      have hbW : Below w.heap.size w wr := B2.trans (hbl.mono (by omega))
      have hz := hbl.size
      by_cases hlt : k < outs.length
      · obtain ⟨mb, mo, hA, hmb, hcs⟩ := (hos.below hbW) k hlt
        cases hA
        have e0 := hcs 0 _ rfl
        have e1 := hcs 1 _ rfl
        have e2 := hcs 2 _ rfl
        have e3 := hcs 3 _ rfl
        have e4 := hcs 4 _ rfl
        rw [Nat.add_zero] at e0
        clear hcs
        have hook := ho _ (List.getElem_mem hlt)
        have hoat := hoa _ (List.getElem_mem hlt)
        have hlen := outs_len (outs.take k) (fun x hx => ho x (List.mem_of_mem_take hx))
        have hlk := linesOf_take outs k hlt
        have hlk2 := linesOf_take_le outs (k + 1)
        have hnext : (outs.take (k + 1)).flatMap outLn = (outs.take k).flatMap outLn ++ outLn outs[k] := by rw [List.take_succ_eq_append_getElem hlt, List.flatMap_append, List.flatMap_cons, List.flatMap_nil, List.append_nil]
        generalize hx : outs[k] = x at *
        have hhs := outHead_size x hook
        have hs1 := itoaS_size _ hook.1
        have hs2 := itoaS_size _ hook.2.1
        have hs3 := itoaS_size _ hook.2.2.1
        go_wp2_with fail
        have hbw : Below wr.heap.size wr (wr.alloc (.cells #[.int .i64 x.module, .int .i64 x.part, .int .i64 x.frame, .slice x.A1 x.ms.length x.c1, .slice x.A2 x.rs.length x.c2] 43)) := (Below.refl _ _).alloc (Nat.le_refl _) _
        have q0 : (wr.alloc (.cells #[.int .i64 x.module, .int .i64 x.part, .int .i64 x.frame, .slice x.A1 x.ms.length x.c1, .slice x.A2 x.rs.length x.c2] 43)).cell? ⟨wr.heap.size, 0, none⟩ = some (.int .i64 x.module) := World.cell?_alloc_at _ _ _ _ rfl
        have q1 : (wr.alloc (.cells #[.int .i64 x.module, .int .i64 x.part, .int .i64 x.frame, .slice x.A1 x.ms.length x.c1, .slice x.A2 x.rs.length x.c2] 43)).cell? ⟨wr.heap.size, 1, none⟩ = some (.int .i64 x.part) := World.cell?_alloc_at _ _ _ _ rfl
        have q2 : (wr.alloc (.cells #[.int .i64 x.module, .int .i64 x.part, .int .i64 x.frame, .slice x.A1 x.ms.length x.c1, .slice x.A2 x.rs.length x.c2] 43)).cell? ⟨wr.heap.size, 2, none⟩ = some (.int .i64 x.frame) := World.cell?_alloc_at _ _ _ _ rfl
        have q3 : (wr.alloc (.cells #[.int .i64 x.module, .int .i64 x.part, .int .i64 x.frame, .slice x.A1 x.ms.length x.c1, .slice x.A2 x.rs.length x.c2] 43)).cell? ⟨wr.heap.size, 3, none⟩ = some (.slice x.A1 x.ms.length x.c1) := World.cell?_alloc_at _ _ _ _ rfl
        have q4 : (wr.alloc (.cells #[.int .i64 x.module, .int .i64 x.part, .int .i64 x.frame, .slice x.A1 x.ms.length x.c1, .slice x.A2 x.rs.length x.c2] 43)).cell? ⟨wr.heap.size, 4, none⟩ = some (.slice x.A2 x.rs.length x.c2) := World.cell?_alloc_at _ _ _ _ rfl
        generalize wr.alloc (.cells #[.int .i64 x.module, .int .i64 x.part, .int .i64 x.frame, .slice x.A1 x.ms.length x.c1, .slice x.A2 x.rs.length x.c2] 43) = w0 at *
        have hT0 : TabB w0.heap.size w0 := hT.up (hbW.trans (hbw.mono hbW.size)) (by have := hbw.size; have := hbW.size; omega)
        have g0_ := fun d os => cell_regrown q0 d os
        have g1_ := fun d os => cell_regrown q1 d os
        have g2_ := fun d os => cell_regrown q2 d os
        have g3_ := fun d os => cell_regrown q3 d os
        have g4_ := fun d os => cell_regrown q4 d os
        refine Mix.wp_region_mix 16 [false, false, true, false, false, false, false, true, false, false, false, false, true, false, false, false] (by kernel_rfl) (by kernel_rfl) ?_
        simp only [List.take_succ_cons, List.take_zero, List.drop_succ_cons, List.drop_zero]
        repeat (refine Mix.wpMix_plain (fun K hK => ?_); go_simp; first | (refine hK _ ?_) | (simp (disch := omega) only [if_neg]; go_simp; refine hK _ ?_); clear hK K)
        refine Mix.wpMix_chain (fun K hK hK' => ?_) (Mix.InB.drew _)
        go_simp
        refine (tag_calls ⟨#[109]⟩ x.module (by decide) hook.1 _ (hT0 _ ((Below.refl _ _).drew))).mono ?_
        rintro e W1 ⟨rfl, hB1⟩
        have hI1 : Below w0.heap.size w0 W1 := ((Below.refl _ _).drew).trans hB1
        have hZ1 := hI1.size
        refine hK _ _ hI1 ?_
        clear hK hK' K
        repeat (refine Mix.wpMix_plain (fun K hK => ?_); go_simp; first | (refine hK _ ?_) | (simp (disch := omega) only [if_neg]; go_simp; refine hK _ ?_); clear hK K)
        refine Mix.wpMix_chain (fun K hK hK' => ?_) hI1
        go_simp
        refine (tag_calls ⟨#[112]⟩ x.part (by decide) hook.2.1 _ (hT0 _ hI1)).mono ?_
        rintro e W2 ⟨rfl, hB2⟩
        have hI2 : Below w0.heap.size w0 W2 := hI1.trans (hB2.mono hI1.size)
        have hZ2 := hI2.size
        refine hK _ _ hI2 ?_
        clear hK hK' K
        repeat (refine Mix.wpMix_plain (fun K hK => ?_); go_simp; first | (refine hK _ ?_) | (simp (disch := omega) only [if_neg]; go_simp; refine hK _ ?_); clear hK K)
        refine Mix.wpMix_chain (fun K hK hK' => ?_) hI2
        go_simp
        refine (tag_calls ⟨#[102]⟩ x.frame (by decide) hook.2.2.1 _ (hT0 _ hI2)).mono ?_
        rintro e W3 ⟨rfl, hB3⟩
        have hI3 : Below w0.heap.size w0 W3 := hI2.trans (hB3.mono hI2.size)
        have hZ3 := hI3.size
        refine hK _ _ hI3 ?_
        clear hK hK' K
        repeat (refine Mix.wpMix_plain (fun K hK => ?_); go_simp; first | (refine hK _ ?_) | (simp (disch := omega) only [if_neg]; go_simp; refine hK _ ?_); clear hK K)
        refine Mix.wpMix_nil ?_
        have hbig : Below wr.heap.size wr W3 := hbw.trans (hI3.mono hbw.size)
        have hz1 := hbig.size
        go_wp2_with (go_at_call 9; refine (out_calls (w.heap.size + 1) (w.heap.size + 1) _ (outHead x) x.A1 x.A2 x.c1 x.c2 x.ms x.rs _ (hbu.below hbig) (by omega) (by omega) ((hT.up hbW (Nat.le_refl _)).up (hbig.mono hbW.size) (by omega)) (by omega) (by rw [List.length_append]; omega) hook.2.2.2.1 hook.2.2.2.2 ((hoat.1.below (hbW.trans (hbig.mono hbW.size))).mono (by omega)) ((hoat.2.below (hbW.trans (hbig.mono hbW.size))).mono (by omega))).mono ?_; rintro e W4 ⟨rfl, hbu4, hbl4⟩)
        go_roundw
        case rel =>
          refine ⟨k + 1, by omega, by go_num, ?_, (hbl.trans (hbig.mono (by omega))).trans hbl4⟩
          rw [hnext, ← List.append_assoc]
          exact hbu4
        case measure => simp [intOf]; omega
      · obtain rfl : k = outs.length := by omega
        rw [List.take_length] at hbu
        have hlen0 := outs_len outs ho
        have b2 : wr.cell? ⟨w.heap.size, 2, none⟩ = some (.slice AE evs.length cE) := by rw [hbl.cell (by simp), Lib.cell_of_heap X2]; rfl
        obtain ⟨wo, hwo⟩ : ∃ wo : World, wo = wr := ⟨_, rfl⟩
        subst hwo
        go_wp2_with fail
        go_loopw [61] (fun i wr => ∃ k : Nat, k ≤ evs.length ∧ i = .int .i64 k ∧ Bu (w.heap.size + 1) (w.heap.size + 1) (lineL (firstWs n code msg) ++ outs.flatMap outLn ++ (evs.take k).flatMap fun e => lineL (evWs e)) wr ∧ Below (w.heap.size + 1) w2 wr) (fun i _ => evs.length - (intOf i).toNat)
        case atStart => exact ⟨0, Nat.zero_le _, rfl, by simpa using hbu, hbl⟩
        case round =>
          clear hbu hbl b2 hz hbW
          obtain ⟨k, hk, rfl, hbu, hbl⟩ := hrel
          have hbW : Below w.heap.size w wr := B2.trans (hbl.mono (by omega))
          have hz := hbl.size
          by_cases hlt : k < evs.length
          · obtain ⟨mb, mo, hA, hmb, hcs⟩ := (hes.below hbW) k hlt
            cases hA
            have e0 := hcs 0 _ rfl
            have e1 := hcs 1 _ rfl
            have e2 := hcs 2 _ rfl
            rw [Nat.add_zero] at e0
            clear hcs
            have hook := he _ (List.getElem_mem hlt)
            have hlen := flat_len (fun e => lineL (evWs e)) (evs.take k) (fun x hx => lineL_len _ (evWs_ok x (he x (List.mem_of_mem_take hx))) (by simp [evWs]))
            have hlk2 : (evs.take k).length ≤ k := List.length_take_le _ _
            have hnext : (evs.take (k + 1)).flatMap (fun e => lineL (evWs e)) = (evs.take k).flatMap (fun e => lineL (evWs e)) ++ lineL (evWs evs[k]) := by rw [List.take_succ_eq_append_getElem hlt, List.flatMap_append, List.flatMap_cons, List.flatMap_nil, List.append_nil]
            generalize hx : evs[k] = x at *
            have hwok := evWs_ok x hook
            have hs1 := itoaS_size _ hook.2.1
            have hs2 := itoaS_size _ hook.2.2
            have hs3 := eventWordS_size _ hook.1
            go_wp2_with fail
            have hbw : Below wr.heap.size wr (wr.alloc (.cells #[.int .i64 x.kind, .int .i64 x.part, .int .i64 x.module] 47)) := (Below.refl _ _).alloc (Nat.le_refl _) _
            have q0 : (wr.alloc (.cells #[.int .i64 x.kind, .int .i64 x.part, .int .i64 x.module] 47)).cell? ⟨wr.heap.size, 0, none⟩ = some (.int .i64 x.kind) := World.cell?_alloc_at _ _ _ _ rfl
            have q1 : (wr.alloc (.cells #[.int .i64 x.kind, .int .i64 x.part, .int .i64 x.module] 47)).cell? ⟨wr.heap.size, 1, none⟩ = some (.int .i64 x.part) := World.cell?_alloc_at _ _ _ _ rfl
            have q2 : (wr.alloc (.cells #[.int .i64 x.kind, .int .i64 x.part, .int .i64 x.module] 47)).cell? ⟨wr.heap.size, 2, none⟩ = some (.int .i64 x.module) := World.cell?_alloc_at _ _ _ _ rfl
            generalize wr.alloc (.cells #[.int .i64 x.kind, .int .i64 x.part, .int .i64 x.module] 47) = w0 at *
            have hT0 : TabB w0.heap.size w0 := hT.up (hbW.trans (hbw.mono hbW.size)) (by have := hbw.size; have := hbW.size; omega)
            have g0_ := fun d os => cell_regrown q0 d os
            have g1_ := fun d os => cell_regrown q1 d os
            have g2_ := fun d os => cell_regrown q2 d os
            refine Mix.wp_region_mix 14 [false, false, true, false, false, false, false, true, false, false, false, true, false, true] (by kernel_rfl) (by kernel_rfl) ?_
            simp only [List.take_succ_cons, List.take_zero, List.drop_succ_cons, List.drop_zero]
            repeat (refine Mix.wpMix_plain (fun K hK => ?_); go_simp; first | (refine hK _ ?_) | (simp (disch := omega) only [if_neg]; go_simp; refine hK _ ?_); clear hK K)
            refine Mix.wpMix_chain (fun K hK hK' => ?_) (Mix.InB.drew _)
            go_simp
            refine (tag_calls ⟨#[112]⟩ x.part (by decide) hook.2.1 _ (hT0 _ ((Below.refl _ _).drew))).mono ?_
            rintro e W1 ⟨rfl, hB1⟩
            have hI1 : Below w0.heap.size w0 W1 := ((Below.refl _ _).drew).trans hB1
            have hZ1 := hI1.size
            refine hK _ _ hI1 ?_
            clear hK hK' K
            repeat (refine Mix.wpMix_plain (fun K hK => ?_); go_simp; first | (refine hK _ ?_) | (simp (disch := omega) only [if_neg]; go_simp; refine hK _ ?_); clear hK K)
            refine Mix.wpMix_chain (fun K hK hK' => ?_) hI1
            go_simp
            refine (eventWord_calls x.kind hook.1 _ (hT0 _ hI1)).mono ?_
            rintro e W2 ⟨rfl, hB2⟩
            have hI2 : Below w0.heap.size w0 W2 := hI1.trans (hB2.mono hI1.size)
            have hZ2 := hI2.size
            refine hK _ _ hI2 ?_
            clear hK hK' K
            repeat (refine Mix.wpMix_plain (fun K hK => ?_); go_simp; first | (refine hK _ ?_) | (simp (disch := omega) only [if_neg]; go_simp; refine hK _ ?_); clear hK K)
            refine Mix.wpMix_chain (fun K hK hK' => ?_) hI2
            go_simp
            refine (tag_calls ⟨#[109]⟩ x.module (by decide) hook.2.2 _ (hT0 _ hI2)).mono ?_
            rintro e W3 ⟨rfl, hB3⟩
            have hI3 : Below w0.heap.size w0 W3 := hI2.trans (hB3.mono hI2.size)
            have hZ3 := hI3.size
            refine hK _ _ hI3 ?_
            clear hK hK' K
            repeat (refine Mix.wpMix_plain (fun K hK => ?_); go_simp; first | (refine hK _ ?_) | (simp (disch := omega) only [if_neg]; go_simp; refine hK _ ?_); clear hK K)
            refine Mix.wpMix_chain (fun K hK hK' => ?_) hI3
            go_simp
            refine hK _ _ (hI3.alloc hI3.size _) (Mix.wpMix_nil ?_)
            clear hK hK' K
            have hbig : Below wr.heap.size wr W3 := hbw.trans (hI3.mono hbw.size)
            have hz1 := hbig.size
            go_wp2_with (go_at_call 7; refine (line_calls (w.heap.size + 1) (w.heap.size + 1) W3.heap.size 3 _ (evWs x) _ (hbu.below (hbig.alloc hz1 _)) (by simp; omega) (((hT.up hbW (Nat.le_refl _)).up (hbig.mono hbW.size) (by omega)).up ((Below.refl _ _).alloc (by omega) _) (Nat.le_refl _)) (by rw [List.length_append, List.length_append]; omega) (by simp [evWs]) hwok (heap_alloc_new _ _) (by omega)).mono ?_; rintro e W4 ⟨rfl, hbu4, hbl4, hkp4⟩)
            go_roundw
            case rel =>
              refine ⟨k + 1, by omega, by go_num, ?_, (hbl.trans ((hbig.mono (by omega)).alloc (by omega) _)).trans hbl4⟩
              rw [hnext, ← List.append_assoc]
              exact hbu4.bu
            case measure => simp [intOf]; omega
          · obtain rfl : k = evs.length := by omega
            rw [List.take_length] at hbu
            go_wp2_with (go_at_call 12; refine (builderString (w.heap.size + 1) (w.heap.size + 1) _ _ hbu (by simp [lineL])).mono ?_; rintro e W5 ⟨rfl, hbl5⟩)
            go_ret
            exact ⟨rfl, hbW.trans (hbl5.mono (by omega))⟩
end Go.Proofs.YtpknkifmjokhgaaDoor
