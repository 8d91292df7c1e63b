/- Tell of the reference, walked. -/
import Derived.Test.YtpknkifmjokhgaaDoorRtL
import Derived.Test.YtpknkifmjokhgaaDoorRtG
set_option linter.unusedVariables false
namespace Go.Proofs.YtpknkifmjokhgaaDoor
open Go Go.RowKit Go.Sort

theorem head_text (o : OutD) : (⟨#[32, 32, 109]⟩ : ByteArray) ++ itoaS o.module ++ ⟨#[32, 112]⟩ ++ itoaS o.part ++ ⟨#[32, 102]⟩ ++ itoaS o.frame = outHead o := by
  have e1 : (⟨#[32, 112]⟩ : ByteArray) = ⟨#[32]⟩ ++ ⟨#[112]⟩ := rfl
  have e2 : (⟨#[32, 102]⟩ : ByteArray) = ⟨#[32]⟩ ++ ⟨#[102]⟩ := rfl
  have e3 : (⟨#[32, 32, 109]⟩ : ByteArray) = ⟨#[32, 32]⟩ ++ ⟨#[109]⟩ := rfl
  rw [e1, e2, e3]
  simp only [outHead, ByteArray.append_assoc]
theorem ev_text (e : EvD) : ((⟨#[32, 32, 112]⟩ : ByteArray) ++ itoaS e.part ++ ⟨#[32]⟩ ++ eventWordS e.kind ++ ⟨#[32, 109]⟩ ++ itoaS e.module ++ ⟨#[10]⟩).data.toList = lineL (evWs e) := by
  simp [lineL, joinL, evWs, Wd.b, Wd.s]
theorem first0 (n code : Int) : (itoaS n ++ ⟨#[32]⟩ ++ wordS code).data.toList ++ [10] = lineL (firstWs n code 0) := by
  simp [lineL, joinL, firstWs, Wd.b, Wd.s]
theorem first1 (n code msg : Int) (h : ¬ msg = 0) : (itoaS n ++ ⟨#[32]⟩ ++ wordS code).data.toList ++ ((⟨#[32, 108, 101, 116, 116, 101, 114, 32]⟩ : ByteArray) ++ itoaS msg).data.toList ++ [10] = lineL (firstWs n code msg) := by
  simp [lineL, joinL, firstWs, h, Wd.b, Wd.s, letterS]
theorem outLn_len (o : OutD) (h : o.ok) : (outLn o).length ≤ (o.ms.length + o.rs.length) * 33554432 := outL_len (outHead o) o.ms o.rs (by have := outHead_size o h; omega) h.2.2.2.1 h.2.2.2.2
theorem OwnM.mono {B B' : Nat} {l : List UInt8} {v : Value} {w : World} (h : OwnM B l v w) (hB : B' ≤ B) : OwnM B' l v w := by
  obtain ⟨g, cap, h1, h2, h3⟩ := h
  exact ⟨g, cap, h1, by omega, h3⟩
theorem wpList_convM (w : World) {ops : Array Oper} {rest : List Oper} {o : Oper} {a : Act} {Q : Exit → Act → World → Prop} (hgd : o.guard = none) (x : Operand) (ho : o.op = .convert 9 31 x) (s : ByteArray) (hx : a.eval x = .string s)
    (hs : s.size ≤ 140737488355328) (k : ∀ v' w', OwnM w.heap.size s.data.toList v' w' → Below w.heap.size w w' → wpList Tryd.prog ops Q rest (a.put o.dst v') w') : wpList Tryd.prog ops Q (o :: rest) a w := by
  refine wpList_plain hgd fun K hK => ?_
  have hr := Lib.run_convert_string_bytes (P := Tryd.prog) w 9 31 5 s Tryd.underlying9 Tryd.underlying31 Tryd.underlying5
  unfold Oper.wp execOp
  simp only [ho, hx, Sem.run_bind, Result.andThen_ok, hr]
  exact hK _ _ (k _ _ (bytesM w s hs) (bytes_below w s))
theorem first_len (n code : Int) (hn : I64 n) (hc : I64 code) : (itoaS n ++ ⟨#[32]⟩ ++ wordS code).data.toList.length ≤ 5000000 := by
  have hwz := wordS_size code hc
  have hnz := itoaS_size n hn
  rw [← Lib.size_eq, ByteArray.size_append, ByteArray.size_append]
  have : (⟨#[32]⟩ : ByteArray).size = 1 := rfl
  omega
theorem let_len (msg : Int) (h : I64 msg) : ((⟨#[32, 108, 101, 116, 116, 101, 114, 32]⟩ : ByteArray) ++ itoaS msg).data.toList.length ≤ 5000000 := by
  have hnz := itoaS_size msg h
  rw [← Lib.size_eq, ByteArray.size_append]
  have : (⟨#[32, 108, 101, 116, 116, 101, 114, 32]⟩ : ByteArray).size = 8 := rfl
  omega
theorem refHead_size (o : OutD) (h : o.ok) : ((⟨#[32, 32, 109]⟩ : ByteArray) ++ itoaS o.module ++ ⟨#[32, 112]⟩ ++ itoaS o.part ++ ⟨#[32, 102]⟩ ++ itoaS o.frame).size ≤ 4194304 := by
  rw [head_text]
  exact Nat.le_trans (outHead_size o h) (by decide)
theorem evText_len (e : EvD) (h : e.ok) : ((⟨#[32, 32, 112]⟩ : ByteArray) ++ itoaS e.part ++ ⟨#[32]⟩ ++ eventWordS e.kind ++ ⟨#[32, 109]⟩ ++ itoaS e.module ++ ⟨#[10]⟩).data.toList.length ≤ 33554432 := by
  rw [ev_text]; exact lineL_len _ (evWs_ok e h) (by simp [evWs])
theorem src_ten (w : World) : Src Tryd.prog 1 31 (.slice (some ⟨w.heap.size, 0, none⟩) 1 1) [(10 : UInt8)].length (Lib.byteCells [10]) (w.alloc (.cells #[.int .u8 10] 5)) := src_one w 10 5

set_option maxHeartbeats 2000000 in
theorem ref_tell_calls (n code msg : Int) (AO AE : Option Addr) (cO cE : Nat) (outs : List OutD) (evs : List EvD) (w : World) (hn : I64 n) (hcd : I64 code) (hmg : I64 msg)
    (hl : (linesOf outs + evs.length + 2) * 33554432 ≤ 70368744177664) (ho : ∀ o ∈ outs, o.ok) (he : ∀ e ∈ evs, e.ok) (hol : outs.length ≤ 2147483648) (hel : evs.length ≤ 2147483648)
    (hos : RowsAt OutD.cs 5 w w.heap.size AO outs) (hoa : ∀ o ∈ outs, o.at_ w w.heap.size) (hes : RowsAt EvD.cs 3 w w.heap.size AE evs) :
    Calls Tryd.prog 6 #[.int .i64 n, .agg #[.int .i64 code, .slice AO outs.length cO, .slice AE evs.length cE, .int .i64 msg], .string ⟨#[]⟩] w fun e w' => e = .returned (.string (bs (tellL n code msg outs evs))) ∧ Below w.heap.size w w' := by
  have hfw := firstWs_ok n code msg hn hcd hmg
  have hfl := firstWs_len n code msg
  have hL0 := lineL_len _ hfw hfl
  have hl2 := hl
  rw [Nat.add_mul, Nat.add_mul] at hl2
  clear hl
  have hlo : linesOf outs * 33554432 ≤ 70368744177664 := Nat.le_trans (Nat.le_trans (Nat.le_add_right _ _) (Nat.le_add_right _ _)) hl2
  have hwz := wordS_size code hcd
  have hnz := itoaS_size n hn
  have hmz := itoaS_size msg hmg
  have X1 : (w.alloc (.cells #[.int .i64 code, .slice AO outs.length cO, .slice AE evs.length cE, .int .i64 msg] 25)).heap[w.heap.size]? = some (.cells #[.int .i64 code, .slice AO outs.length cO, .slice AE evs.length cE, .int .i64 msg] 25 (0, 0)) := heap_alloc_new _ _
  have B1 : Below w.heap.size w (w.alloc (.cells #[.int .i64 code, .slice AO outs.length cO, .slice AE evs.length cE, .int .i64 msg] 25)) := (Below.refl _ _).alloc (Nat.le_refl _) _
  have S1 : (w.alloc (.cells #[.int .i64 code, .slice AO outs.length cO, .slice AE evs.length cE, .int .i64 msg] 25)).heap.size = w.heap.size + 1 := by simp
  have hsz0 : (itoaS n ++ ⟨#[32]⟩ ++ wordS code).size ≤ 5000000 := by
    rw [ByteArray.size_append, ByteArray.size_append]
    have : (⟨#[32]⟩ : ByteArray).size = 1 := rfl
    omega
  by_cases hm0 : msg = 0
  · subst hm0
    go_enter Tryd.func6, Tryd.ntmps6
    go_wp2_with (go_at_call 13; fail)
    generalize w.alloc (.cells #[.int .i64 code, .slice AO outs.length cO, .slice AE evs.length cE, .int .i64 0] 25) = w1 at *
    have b3 : w1.cell? ⟨w.heap.size, 3, none⟩ = some (.int .i64 0) := by rw [Lib.cell_of_heap X1]; rfl
    refine (ref_word_calls code hcd _).mono ?_
    rintro e w2 ⟨rfl, hb2⟩
    have hz2 := hb2.size
    have hl1 := first_len n code hn hcd
    have hgo := hz2
    go_wp2_with (first | (go_at_call 14; have hq := hgo; clear hgo hq; refine (number_calls n hn _).mono ?_; rintro e w3 ⟨rfl, hb3⟩) | (have hq := hb3; refine wpList_convM w3 rfl (.tmp 21) rfl (itoaS n ++ ⟨#[32]⟩ ++ wordS code) (by rfl) (by omega) ?_; intro v4 w4 hown4 hbl4; have hz3 := hb3.size; have hz4 := hbl4.size; have hB4 : Below w.heap.size w w4 := ((B1.trans (hb2.mono (by omega))).trans (hb3.mono (by omega))).trans (hbl4.mono (by omega)); have hk4 : Below (w.heap.size + 1) w1 w4 := ((hb2.mono (by omega)).trans (hb3.mono (by omega))).trans (hbl4.mono (by omega)); have b4 : w4.cell? ⟨w.heap.size, 3, none⟩ = some (.int .i64 0) := (by rw [hk4.cell (by simp), Lib.cell_of_heap X1]; rfl); have hown4 := hown4.mono (B' := w.heap.size + 1) (by omega); clear hb3 hq) | (at_builtin; refine wpList_appendM (w4.alloc (.cells #[.int .u8 10] 5)) rfl (.tmp 32) (.tmp 33) 31 rfl (w.heap.size + 1) (itoaS n ++ ⟨#[32]⟩ ++ wordS code).data.toList _ rfl (hown4.below ((Below.refl _ _).alloc (Nat.le_refl _) _)) (.slice (some ⟨w4.heap.size, 0, none⟩) 1 1) (by rfl) [10] (src_ten w4) (Nat.le_trans (Nat.add_le_add hl1 (Nat.le_refl 1)) (by decide)) (by simp; omega) ?_; intro v5 w5 hown5 hbl5; have hk5 : Below (w.heap.size + 1) w1 w5 := (hk4.alloc (by omega) _).trans hbl5; have b1 : w5.cell? ⟨w.heap.size, 1, none⟩ = some (.slice AO outs.length cO) := (by rw [hk5.cell (by simp), Lib.cell_of_heap X1]; rfl)))
    rw [first0 n code] at hown5
    clear hl1 hown4
    generalize hL : lineL (firstWs n code 0) = L0 at *
    have HL0 := Lib.hid hL
    clear hL
    go_loopw [7, 38] (fun v i wr => ∃ k : Nat, k ≤ outs.length ∧ i = .int .i64 k ∧ OwnM (w.heap.size + 1) (L0 ++ (outs.take k).flatMap outLn) v wr ∧ Below (w.heap.size + 1) w1 wr) (fun _ i _ => outs.length - (intOf i).toNat)
    case atStart => exact ⟨0, Nat.zero_le _, rfl, by simpa using hown5, hk5⟩
    case round =>
      clear hown5 hbl5 hk5 b1
      obtain ⟨k, hk, rfl, hown, hbl⟩ := hrel
      have hbW : Below w.heap.size w wr := B1.trans (hbl.mono (by omega))
      have hz := hbl.size
      have hlen := outs_len (outs.take k) (fun x hx => ho x (List.mem_of_mem_take hx))
      have hlk2 := linesOf_take_le outs k
      generalize hL : L0 ++ (outs.take k).flatMap outLn = L at *
      have hLl : L.length ≤ 33554432 + linesOf (outs.take k) * 33554432 := by rw [← hL, List.length_append]; omega
      have HL := Lib.hid hL
      clear hL
      by_cases hlt : k < outs.length
      · obtain ⟨mb, mo, hA, hmb, hcs⟩ := (hos.below hbW) k hlt
        cases hA
        have e0 := hcs 0 _ rfl
        have e1 := hcs 1 _ rfl
        have e2 := hcs 2 _ rfl
        have e3 := hcs 3 _ rfl
        have e4 := hcs 4 _ rfl
        rw [Nat.add_zero] at e0
        clear hcs
        have hook := ho _ (List.getElem_mem hlt)
        have hoat := hoa _ (List.getElem_mem hlt)
        have hlk := linesOf_take outs k hlt
        have hlk3 := linesOf_take_le outs (k + 1)
        have hnext : L0 ++ (outs.take (k + 1)).flatMap outLn = L ++ outLn outs[k] := by rw [← HL.out, List.take_succ_eq_append_getElem hlt, List.flatMap_append, List.flatMap_cons, List.flatMap_nil, List.append_nil, List.append_assoc]
        generalize hx : outs[k] = x at *
        have hhs := outHead_size x hook
        have hs1 := itoaS_size _ hook.1
        have hs2 := itoaS_size _ hook.2.1
        have hs3 := itoaS_size _ hook.2.2.1
        have hht := head_text x
        have HHT := Lib.hid hht
        clear hht
        have hol1 : x.ms.length + x.rs.length ≤ linesOf outs := by rw [hlk] at hlk3; exact Nat.le_trans (Nat.le_add_left _ _) hlk3
        have hol2 : (x.ms.length + x.rs.length) * 33554432 ≤ 70368744177664 := Nat.le_trans (Nat.mul_le_mul_right _ hol1) hlo
        have hLb : L.length + (x.ms.length + x.rs.length) * 33554432 ≤ 70368744177664 := by rw [hlk] at hlk3; omega
        clear hlk hlk2 hlk3 hlen hLl
        go_wp2_with fail
        have hbw : Below wr.heap.size wr (wr.alloc (.cells #[.int .i64 x.module, .int .i64 x.part, .int .i64 x.frame, .slice x.A1 x.ms.length x.c1, .slice x.A2 x.rs.length x.c2] 43)) := (Below.refl _ _).alloc (Nat.le_refl _) _
        have q0 : (wr.alloc (.cells #[.int .i64 x.module, .int .i64 x.part, .int .i64 x.frame, .slice x.A1 x.ms.length x.c1, .slice x.A2 x.rs.length x.c2] 43)).cell? ⟨wr.heap.size, 0, none⟩ = some (.int .i64 x.module) := World.cell?_alloc_at _ _ _ _ rfl
        have q1 : (wr.alloc (.cells #[.int .i64 x.module, .int .i64 x.part, .int .i64 x.frame, .slice x.A1 x.ms.length x.c1, .slice x.A2 x.rs.length x.c2] 43)).cell? ⟨wr.heap.size, 1, none⟩ = some (.int .i64 x.part) := World.cell?_alloc_at _ _ _ _ rfl
        have q2 : (wr.alloc (.cells #[.int .i64 x.module, .int .i64 x.part, .int .i64 x.frame, .slice x.A1 x.ms.length x.c1, .slice x.A2 x.rs.length x.c2] 43)).cell? ⟨wr.heap.size, 2, none⟩ = some (.int .i64 x.frame) := World.cell?_alloc_at _ _ _ _ rfl
        have q3 : (wr.alloc (.cells #[.int .i64 x.module, .int .i64 x.part, .int .i64 x.frame, .slice x.A1 x.ms.length x.c1, .slice x.A2 x.rs.length x.c2] 43)).cell? ⟨wr.heap.size, 3, none⟩ = some (.slice x.A1 x.ms.length x.c1) := World.cell?_alloc_at _ _ _ _ rfl
        have q4 : (wr.alloc (.cells #[.int .i64 x.module, .int .i64 x.part, .int .i64 x.frame, .slice x.A1 x.ms.length x.c1, .slice x.A2 x.rs.length x.c2] 43)).cell? ⟨wr.heap.size, 4, none⟩ = some (.slice x.A2 x.rs.length x.c2) := World.cell?_alloc_at _ _ _ _ rfl
        generalize wr.alloc (.cells #[.int .i64 x.module, .int .i64 x.part, .int .i64 x.frame, .slice x.A1 x.ms.length x.c1, .slice x.A2 x.rs.length x.c2] 43) = w0 at *
        have hzw := hbw.size
        have g0_ := fun d os => cell_regrown q0 d os
        have g1_ := fun d os => cell_regrown q1 d os
        have g2_ := fun d os => cell_regrown q2 d os
        have g3_ := fun d os => cell_regrown q3 d os
        have g4_ := fun d os => cell_regrown q4 d os
        refine Mix.wp_region_mix 18 [false, false, false, true, false, false, false, false, true, false, false, false, false, true, false, false, false, true] (by kernel_rfl) (by kernel_rfl) ?_
        simp only [List.take_succ_cons, List.take_zero, List.drop_succ_cons, List.drop_zero]
        repeat (refine Mix.wpMix_plain (fun K hK => ?_); go_simp; first | (refine hK _ ?_) | (simp (disch := omega) only [if_neg]; go_simp; refine hK _ ?_); clear hK K)
        refine Mix.wpMix_chain (fun K hK hK' => ?_) (Mix.InB.drew _)
        go_simp
        refine (number_calls x.module hook.1 _).mono ?_
        rintro e W1 ⟨rfl, hB1⟩
        have hI1 : Below w0.heap.size w0 W1 := ((Below.refl _ _).drew).trans hB1
        have hZ1 := hI1.size
        refine hK _ _ hI1 ?_
        clear hK hK' K
        repeat (refine Mix.wpMix_plain (fun K hK => ?_); go_simp; first | (refine hK _ ?_) | (simp (disch := omega) only [if_neg]; go_simp; refine hK _ ?_); clear hK K)
        refine Mix.wpMix_chain (fun K hK hK' => ?_) hI1
        go_simp
        refine (number_calls x.part hook.2.1 _).mono ?_
        rintro e W2 ⟨rfl, hB2⟩
        have hI2 : Below w0.heap.size w0 W2 := hI1.trans (hB2.mono hI1.size)
        have hZ2 := hI2.size
        refine hK _ _ hI2 ?_
        clear hK hK' K
        repeat (refine Mix.wpMix_plain (fun K hK => ?_); go_simp; first | (refine hK _ ?_) | (simp (disch := omega) only [if_neg]; go_simp; refine hK _ ?_); clear hK K)
        refine Mix.wpMix_chain (fun K hK hK' => ?_) hI2
        go_simp
        refine (number_calls x.frame hook.2.2.1 _).mono ?_
        rintro e W3 ⟨rfl, hB3⟩
        have hI3 : Below w0.heap.size w0 W3 := hI2.trans (hB3.mono hI2.size)
        have hZ3 := hI3.size
        refine hK _ _ hI3 ?_
        clear hK hK' K
        repeat (refine Mix.wpMix_plain (fun K hK => ?_); go_simp; first | (refine hK _ ?_) | (simp (disch := omega) only [if_neg]; go_simp; refine hK _ ?_); clear hK K)
        refine Mix.wpMix_chain (fun K hK hK' => ?_) hI3
        go_simp
        refine (outLines_calls _ x.A1 x.A2 x.c1 x.c2 x.ms x.rs _ (refHead_size x hook) hol2 hook.2.2.2.1 hook.2.2.2.2 ((hoat.1.below (hbW.trans ((hbw.trans (hI3.mono hbw.size)).mono hbW.size))).mono (by omega)) ((hoat.2.below (hbW.trans ((hbw.trans (hI3.mono hbw.size)).mono hbW.size))).mono (by omega))).mono ?_
        rintro e W4 ⟨rfl, hB4⟩
        have hI4 : Below w0.heap.size w0 W4 := hI3.trans (hB4.mono hI3.size)
        have hZ4 := hI4.size
        refine hK _ _ hI4 (Mix.wpMix_nil ?_)
        clear hK hK' K
        have hbig : Below wr.heap.size wr W4 := hbw.trans (hI4.mono hbw.size)
        have hz1 := hbig.size
        rw [HHT.out]
        have hstr : (bs (outL (outHead x) x.ms x.rs)).data.toList.length ≤ (x.ms.length + x.rs.length) * 33554432 := outLn_len x hook
        have hown2 := hown.below hbig
        go_wp2_with (at_builtin; refine wpList_appendM W4 rfl (.tmp 42) (.tmp 59) 9 rfl (w.heap.size + 1) L _ rfl hown2 (.string (bs (outL (outHead x) x.ms x.rs))) (by rfl) (bs (outL (outHead x) x.ms x.rs)).data.toList (src_string W4 _) (Nat.le_trans (Nat.add_le_add_left hstr _) (Nat.le_trans hLb (by decide))) (by omega) ?_; intro v3 w3 hown3 hbl3)
        go_roundw
        case rel =>
          refine ⟨k + 1, by omega, by go_num, ?_, (hbl.trans (hbig.mono (by omega))).trans hbl3⟩
          rw [hnext]
          exact hown3
        case measure => simp [intOf]; omega
      · obtain rfl : k = outs.length := by omega
        have HX : Hid (L = L0 ++ outs.flatMap outLn) := by have := HL.out; rw [List.take_length] at this; exact Lib.hid this.symm
        rw [List.take_length] at hLl
        clear HL hlk2
        have b2 : wr.cell? ⟨w.heap.size, 2, none⟩ = some (.slice AE evs.length cE) := by rw [hbl.cell (by simp), Lib.cell_of_heap X1]; rfl
        obtain ⟨wo, hwo⟩ : ∃ wo : World, wo = wr := ⟨_, rfl⟩
        subst hwo
        go_wp2_with fail
        go_loopw [7, 65] (fun v i wr => ∃ k : Nat, k ≤ evs.length ∧ i = .int .i64 k ∧ OwnM (w.heap.size + 1) (L ++ (evs.take k).flatMap fun e => lineL (evWs e)) v wr ∧ Below (w.heap.size + 1) w1 wr) (fun _ i _ => evs.length - (intOf i).toNat)
        case atStart => exact ⟨0, Nat.zero_le _, rfl, by simpa using hown, hbl⟩
        case round =>
          clear hown hbl b2 hz hbW
          obtain ⟨k, hk, rfl, hown, hbl⟩ := hrel
          have hbW : Below w.heap.size w wr := B1.trans (hbl.mono (by omega))
          have hz := hbl.size
          have hlen := flat_len (fun e => lineL (evWs e)) (evs.take k) (fun e hee => lineL_len _ (evWs_ok e (he e (List.mem_of_mem_take hee))) (by simp [evWs]))
          have hlt2 : (evs.take k).length ≤ evs.length := by rw [List.length_take]; omega
          generalize hM : L ++ (evs.take k).flatMap (fun e => lineL (evWs e)) = M at *
          have hMl : M.length ≤ L.length + (evs.take k).length * 33554432 := by rw [← hM, List.length_append]; omega
          have HM := Lib.hid hM
          clear hM
          by_cases hlt : k < evs.length
          · obtain ⟨mb, mo, hA, hmb, hcs⟩ := (hes.below hbW) k hlt
            cases hA
            have e0 := hcs 0 _ rfl
            have e1 := hcs 1 _ rfl
            have e2 := hcs 2 _ rfl
            rw [Nat.add_zero] at e0
            clear hcs
            have hook := he _ (List.getElem_mem hlt)
            have hnext : L ++ (evs.take (k + 1)).flatMap (fun e => lineL (evWs e)) = M ++ lineL (evWs evs[k]) := by rw [← HM.out, List.take_succ_eq_append_getElem hlt, List.flatMap_append, List.flatMap_cons, List.flatMap_nil, List.append_nil, List.append_assoc]
            generalize hx : evs[k] = x at *
            have hs1 := itoaS_size _ hook.2.1
            have hs2 := itoaS_size _ hook.2.2
            have hs3 := eventWordS_size _ hook.1
            have htext := ev_text x
            have HT := Lib.hid htext
            clear htext
            go_wp2_with fail
            have hbw : Below wr.heap.size wr (wr.alloc (.cells #[.int .i64 x.kind, .int .i64 x.part, .int .i64 x.module] 47)) := (Below.refl _ _).alloc (Nat.le_refl _) _
            have q0 : (wr.alloc (.cells #[.int .i64 x.kind, .int .i64 x.part, .int .i64 x.module] 47)).cell? ⟨wr.heap.size, 0, none⟩ = some (.int .i64 x.kind) := World.cell?_alloc_at _ _ _ _ rfl
            have q1 : (wr.alloc (.cells #[.int .i64 x.kind, .int .i64 x.part, .int .i64 x.module] 47)).cell? ⟨wr.heap.size, 1, none⟩ = some (.int .i64 x.part) := World.cell?_alloc_at _ _ _ _ rfl
            have q2 : (wr.alloc (.cells #[.int .i64 x.kind, .int .i64 x.part, .int .i64 x.module] 47)).cell? ⟨wr.heap.size, 2, none⟩ = some (.int .i64 x.module) := World.cell?_alloc_at _ _ _ _ rfl
            generalize wr.alloc (.cells #[.int .i64 x.kind, .int .i64 x.part, .int .i64 x.module] 47) = w0 at *
            have g0_ := fun d os => cell_regrown q0 d os
            have g1_ := fun d os => cell_regrown q1 d os
            have g2_ := fun d os => cell_regrown q2 d os
            refine Mix.wp_region_mix 16 [false, false, false, true, false, false, false, false, true, false, false, false, false, true, false, false] (by kernel_rfl) (by kernel_rfl) ?_
            simp only [List.take_succ_cons, List.take_zero, List.drop_succ_cons, List.drop_zero]
            repeat (refine Mix.wpMix_plain (fun K hK => ?_); go_simp; first | (refine hK _ ?_) | (simp (disch := omega) only [if_neg]; go_simp; refine hK _ ?_); clear hK K)
            refine Mix.wpMix_chain (fun K hK hK' => ?_) (Mix.InB.drew _)
            go_simp
            refine (number_calls x.part hook.2.1 _).mono ?_
            rintro e W1 ⟨rfl, hB1⟩
            have hI1 : Below w0.heap.size w0 W1 := ((Below.refl _ _).drew).trans hB1
            have hZ1 := hI1.size
            refine hK _ _ hI1 ?_
            clear hK hK' K
            repeat (refine Mix.wpMix_plain (fun K hK => ?_); go_simp; first | (refine hK _ ?_) | (simp (disch := omega) only [if_neg]; go_simp; refine hK _ ?_); clear hK K)
            refine Mix.wpMix_chain (fun K hK hK' => ?_) hI1
            go_simp
            refine (ref_eventWord_calls x.kind hook.1 _).mono ?_
            rintro e W2 ⟨rfl, hB2⟩
            have hI2 : Below w0.heap.size w0 W2 := hI1.trans (hB2.mono hI1.size)
            have hZ2 := hI2.size
            refine hK _ _ hI2 ?_
            clear hK hK' K
            repeat (refine Mix.wpMix_plain (fun K hK => ?_); go_simp; first | (refine hK _ ?_) | (simp (disch := omega) only [if_neg]; go_simp; refine hK _ ?_); clear hK K)
            refine Mix.wpMix_chain (fun K hK hK' => ?_) hI2
            go_simp
            refine (number_calls x.module hook.2.2 _).mono ?_
            rintro e W3 ⟨rfl, hB3⟩
            have hI3 : Below w0.heap.size w0 W3 := hI2.trans (hB3.mono hI2.size)
            have hZ3 := hI3.size
            refine hK _ _ hI3 ?_
            clear hK hK' K
            repeat (refine Mix.wpMix_plain (fun K hK => ?_); go_simp; first | (refine hK _ ?_) | (simp (disch := omega) only [if_neg]; go_simp; refine hK _ ?_); clear hK K)
            refine Mix.wpMix_nil ?_
            have hbig : Below wr.heap.size wr W3 := hbw.trans (hI3.mono hbw.size)
            have hz1 := hbig.size
            have hstr := evText_len x hook
            have hMb : M.length + 33554432 ≤ 140737488355328 := by omega
            have hown2 := hown.below hbig
            go_wp2_with (at_builtin; refine wpList_appendM W3 rfl (.tmp 69) (.tmp 84) 9 rfl (w.heap.size + 1) M _ rfl hown2 (.string _) (by rfl) _ (src_string W3 _) (Nat.le_trans (Nat.add_le_add_left hstr M.length) hMb) (by omega) ?_; intro v3 w3 hown3 hbl3)
            go_roundw
            case rel =>
              refine ⟨k + 1, by omega, by go_num, ?_, (hbl.trans (hbig.mono (by omega))).trans hbl3⟩
              rw [hnext, ← HT.out]
              exact hown3
            case measure => simp [intOf]; omega
          · obtain rfl : k = evs.length := by omega
            have hMf : M = tellL n code 0 outs evs := by rw [← HM.out, List.take_length, HX.out, ← HL0.out, tellL, List.append_assoc]
            clear HM
            subst hMf
            obtain ⟨g, cap, rfl, h2, h3, h4, h5, h6, h7⟩ := hown
            have hconv := run_convert_bytes_back (P := Tryd.prog) wr 31 9 5 ⟨g, 0, none⟩ cap (tellL n code 0 outs evs) Tryd.underlying31 Tryd.underlying5 Tryd.underlying9 (fun j hj => by rw [Addr.add_lit]; simpa using h6 j hj)
            go_wp2_with fail
            go_ret
            exact ⟨rfl, hbW⟩
  · skip
    go_enter Tryd.func6, Tryd.ntmps6
    go_wp2_with (go_at_call 13; fail)
    generalize w.alloc (.cells #[.int .i64 code, .slice AO outs.length cO, .slice AE evs.length cE, .int .i64 msg] 25) = w1 at *
    have b3 : w1.cell? ⟨w.heap.size, 3, none⟩ = some (.int .i64 msg) := by rw [Lib.cell_of_heap X1]; rfl
    refine (ref_word_calls code hcd _).mono ?_
    rintro e w2 ⟨rfl, hb2⟩
    have hz2 := hb2.size
    have hl1 := first_len n code hn hcd
    have hgo := hz2
    go_wp2_with (first | (go_at_call 14; have hq := hgo; clear hgo hq; refine (number_calls n hn _).mono ?_; rintro e w3 ⟨rfl, hb3⟩) | (have hq := hb3; refine wpList_convM w3 rfl (.tmp 21) rfl (itoaS n ++ ⟨#[32]⟩ ++ wordS code) (by rfl) (by omega) ?_; intro v4 w4 hown4 hbl4; have hz3 := hb3.size; have hz4 := hbl4.size; have hB4 : Below w.heap.size w w4 := ((B1.trans (hb2.mono (by omega))).trans (hb3.mono (by omega))).trans (hbl4.mono (by omega)); have hk4 : Below (w.heap.size + 1) w1 w4 := ((hb2.mono (by omega)).trans (hb3.mono (by omega))).trans (hbl4.mono (by omega)); have b4 : w4.cell? ⟨w.heap.size, 3, none⟩ = some (.int .i64 msg) := (by rw [hk4.cell (by simp), Lib.cell_of_heap X1]; rfl); have hown4 := hown4.mono (B' := w.heap.size + 1) (by omega); clear hb3 hq) | (go_at_call 14; refine (number_calls msg hmg _).mono ?_; rintro e wn ⟨rfl, hbn⟩; have hzn := hbn.size; have hkn : Below (w.heap.size + 1) w1 wn := hk4.trans (hbn.mono (by omega)); have hownn := hown4.below hbn) | (at_builtin; refine wpList_appendM wn rfl (.tmp 26) (.tmp 30) 9 rfl (w.heap.size + 1) (itoaS n ++ ⟨#[32]⟩ ++ wordS code).data.toList _ rfl hownn (.string _) (by rfl) _ (src_string wn _) (Nat.le_trans (Nat.add_le_add hl1 (let_len msg hmg)) (by decide)) (by omega) ?_; intro v6 w6 hown6 hbl6; have hz6 := hbl6.size; have hk6 : Below (w.heap.size + 1) w1 w6 := hkn.trans hbl6) | (at_builtin; refine wpList_appendM (w6.alloc (.cells #[.int .u8 10] 5)) rfl (.tmp 32) (.tmp 33) 31 rfl (w.heap.size + 1) _ _ rfl (hown6.below ((Below.refl _ _).alloc (Nat.le_refl _) _)) (.slice (some ⟨w6.heap.size, 0, none⟩) 1 1) (by rfl) [10] (src_ten w6) (Nat.le_trans (Nat.add_le_add (by rw [List.length_append]; exact Nat.add_le_add hl1 (let_len msg hmg)) (Nat.le_refl 1)) (by decide)) (by simp; omega) ?_; intro v5 w5 hown5 hbl5; have hk5 : Below (w.heap.size + 1) w1 w5 := (hk6.alloc (by omega) _).trans hbl5; have b1 : w5.cell? ⟨w.heap.size, 1, none⟩ = some (.slice AO outs.length cO) := (by rw [hk5.cell (by simp), Lib.cell_of_heap X1]; rfl)))
    rw [first1 n code msg hm0] at hown5
    clear hl1 hown4 hownn hown6
    generalize hL : lineL (firstWs n code msg) = L0 at *
    have HL0 := Lib.hid hL
    clear hL
    go_loopw [7, 38] (fun v i wr => ∃ k : Nat, k ≤ outs.length ∧ i = .int .i64 k ∧ OwnM (w.heap.size + 1) (L0 ++ (outs.take k).flatMap outLn) v wr ∧ Below (w.heap.size + 1) w1 wr) (fun _ i _ => outs.length - (intOf i).toNat)
    case atStart => exact ⟨0, Nat.zero_le _, rfl, by simpa using hown5, hk5⟩
    case round =>
      clear hown5 hbl5 hk5 b1
      obtain ⟨k, hk, rfl, hown, hbl⟩ := hrel
      have hbW : Below w.heap.size w wr := B1.trans (hbl.mono (by omega))
      have hz := hbl.size
      have hlen := outs_len (outs.take k) (fun x hx => ho x (List.mem_of_mem_take hx))
      have hlk2 := linesOf_take_le outs k
      generalize hL : L0 ++ (outs.take k).flatMap outLn = L at *
      have hLl : L.length ≤ 33554432 + linesOf (outs.take k) * 33554432 := by rw [← hL, List.length_append]; omega
      have HL := Lib.hid hL
      clear hL
      by_cases hlt : k < outs.length
      · obtain ⟨mb, mo, hA, hmb, hcs⟩ := (hos.below hbW) k hlt
        cases hA
        have e0 := hcs 0 _ rfl
        have e1 := hcs 1 _ rfl
        have e2 := hcs 2 _ rfl
        have e3 := hcs 3 _ rfl
        have e4 := hcs 4 _ rfl
        rw [Nat.add_zero] at e0
        clear hcs
        have hook := ho _ (List.getElem_mem hlt)
        have hoat := hoa _ (List.getElem_mem hlt)
        have hlk := linesOf_take outs k hlt
        have hlk3 := linesOf_take_le outs (k + 1)
        have hnext : L0 ++ (outs.take (k + 1)).flatMap outLn = L ++ outLn outs[k] := by rw [← HL.out, List.take_succ_eq_append_getElem hlt, List.flatMap_append, List.flatMap_cons, List.flatMap_nil, List.append_nil, List.append_assoc]
        generalize hx : outs[k] = x at *
        have hhs := outHead_size x hook
        have hs1 := itoaS_size _ hook.1
        have hs2 := itoaS_size _ hook.2.1
        have hs3 := itoaS_size _ hook.2.2.1
        have hht := head_text x
        have HHT := Lib.hid hht
        clear hht
        have hol1 : x.ms.length + x.rs.length ≤ linesOf outs := by rw [hlk] at hlk3; exact Nat.le_trans (Nat.le_add_left _ _) hlk3
        have hol2 : (x.ms.length + x.rs.length) * 33554432 ≤ 70368744177664 := Nat.le_trans (Nat.mul_le_mul_right _ hol1) hlo
        have hLb : L.length + (x.ms.length + x.rs.length) * 33554432 ≤ 70368744177664 := by rw [hlk] at hlk3; omega
        clear hlk hlk2 hlk3 hlen hLl
        go_wp2_with fail
        have hbw : Below wr.heap.size wr (wr.alloc (.cells #[.int .i64 x.module, .int .i64 x.part, .int .i64 x.frame, .slice x.A1 x.ms.length x.c1, .slice x.A2 x.rs.length x.c2] 43)) := (Below.refl _ _).alloc (Nat.le_refl _) _
        have q0 : (wr.alloc (.cells #[.int .i64 x.module, .int .i64 x.part, .int .i64 x.frame, .slice x.A1 x.ms.length x.c1, .slice x.A2 x.rs.length x.c2] 43)).cell? ⟨wr.heap.size, 0, none⟩ = some (.int .i64 x.module) := World.cell?_alloc_at _ _ _ _ rfl
        have q1 : (wr.alloc (.cells #[.int .i64 x.module, .int .i64 x.part, .int .i64 x.frame, .slice x.A1 x.ms.length x.c1, .slice x.A2 x.rs.length x.c2] 43)).cell? ⟨wr.heap.size, 1, none⟩ = some (.int .i64 x.part) := World.cell?_alloc_at _ _ _ _ rfl
        have q2 : (wr.alloc (.cells #[.int .i64 x.module, .int .i64 x.part, .int .i64 x.frame, .slice x.A1 x.ms.length x.c1, .slice x.A2 x.rs.length x.c2] 43)).cell? ⟨wr.heap.size, 2, none⟩ = some (.int .i64 x.frame) := World.cell?_alloc_at _ _ _ _ rfl
        have q3 : (wr.alloc (.cells #[.int .i64 x.module, .int .i64 x.part, .int .i64 x.frame, .slice x.A1 x.ms.length x.c1, .slice x.A2 x.rs.length x.c2] 43)).cell? ⟨wr.heap.size, 3, none⟩ = some (.slice x.A1 x.ms.length x.c1) := World.cell?_alloc_at _ _ _ _ rfl
        have q4 : (wr.alloc (.cells #[.int .i64 x.module, .int .i64 x.part, .int .i64 x.frame, .slice x.A1 x.ms.length x.c1, .slice x.A2 x.rs.length x.c2] 43)).cell? ⟨wr.heap.size, 4, none⟩ = some (.slice x.A2 x.rs.length x.c2) := World.cell?_alloc_at _ _ _ _ rfl
        generalize wr.alloc (.cells #[.int .i64 x.module, .int .i64 x.part, .int .i64 x.frame, .slice x.A1 x.ms.length x.c1, .slice x.A2 x.rs.length x.c2] 43) = w0 at *
        have hzw := hbw.size
        have g0_ := fun d os => cell_regrown q0 d os
        have g1_ := fun d os => cell_regrown q1 d os
        have g2_ := fun d os => cell_regrown q2 d os
        have g3_ := fun d os => cell_regrown q3 d os
        have g4_ := fun d os => cell_regrown q4 d os
        refine Mix.wp_region_mix 18 [false, false, false, true, false, false, false, false, true, false, false, false, false, true, false, false, false, true] (by kernel_rfl) (by kernel_rfl) ?_
        simp only [List.take_succ_cons, List.take_zero, List.drop_succ_cons, List.drop_zero]
        repeat (refine Mix.wpMix_plain (fun K hK => ?_); go_simp; first | (refine hK _ ?_) | (simp (disch := omega) only [if_neg]; go_simp; refine hK _ ?_); clear hK K)
        refine Mix.wpMix_chain (fun K hK hK' => ?_) (Mix.InB.drew _)
        go_simp
        refine (number_calls x.module hook.1 _).mono ?_
        rintro e W1 ⟨rfl, hB1⟩
        have hI1 : Below w0.heap.size w0 W1 := ((Below.refl _ _).drew).trans hB1
        have hZ1 := hI1.size
        refine hK _ _ hI1 ?_
        clear hK hK' K
        repeat (refine Mix.wpMix_plain (fun K hK => ?_); go_simp; first | (refine hK _ ?_) | (simp (disch := omega) only [if_neg]; go_simp; refine hK _ ?_); clear hK K)
        refine Mix.wpMix_chain (fun K hK hK' => ?_) hI1
        go_simp
        refine (number_calls x.part hook.2.1 _).mono ?_
        rintro e W2 ⟨rfl, hB2⟩
        have hI2 : Below w0.heap.size w0 W2 := hI1.trans (hB2.mono hI1.size)
        have hZ2 := hI2.size
        refine hK _ _ hI2 ?_
        clear hK hK' K
        repeat (refine Mix.wpMix_plain (fun K hK => ?_); go_simp; first | (refine hK _ ?_) | (simp (disch := omega) only [if_neg]; go_simp; refine hK _ ?_); clear hK K)
        refine Mix.wpMix_chain (fun K hK hK' => ?_) hI2
        go_simp
        refine (number_calls x.frame hook.2.2.1 _).mono ?_
        rintro e W3 ⟨rfl, hB3⟩
        have hI3 : Below w0.heap.size w0 W3 := hI2.trans (hB3.mono hI2.size)
        have hZ3 := hI3.size
        refine hK _ _ hI3 ?_
        clear hK hK' K
        repeat (refine Mix.wpMix_plain (fun K hK => ?_); go_simp; first | (refine hK _ ?_) | (simp (disch := omega) only [if_neg]; go_simp; refine hK _ ?_); clear hK K)
        refine Mix.wpMix_chain (fun K hK hK' => ?_) hI3
        go_simp
        refine (outLines_calls _ x.A1 x.A2 x.c1 x.c2 x.ms x.rs _ (refHead_size x hook) hol2 hook.2.2.2.1 hook.2.2.2.2 ((hoat.1.below (hbW.trans ((hbw.trans (hI3.mono hbw.size)).mono hbW.size))).mono (by omega)) ((hoat.2.below (hbW.trans ((hbw.trans (hI3.mono hbw.size)).mono hbW.size))).mono (by omega))).mono ?_
        rintro e W4 ⟨rfl, hB4⟩
        have hI4 : Below w0.heap.size w0 W4 := hI3.trans (hB4.mono hI3.size)
        have hZ4 := hI4.size
        refine hK _ _ hI4 (Mix.wpMix_nil ?_)
        clear hK hK' K
        have hbig : Below wr.heap.size wr W4 := hbw.trans (hI4.mono hbw.size)
        have hz1 := hbig.size
        rw [HHT.out]
        have hstr : (bs (outL (outHead x) x.ms x.rs)).data.toList.length ≤ (x.ms.length + x.rs.length) * 33554432 := outLn_len x hook
        have hown2 := hown.below hbig
        go_wp2_with (at_builtin; refine wpList_appendM W4 rfl (.tmp 42) (.tmp 59) 9 rfl (w.heap.size + 1) L _ rfl hown2 (.string (bs (outL (outHead x) x.ms x.rs))) (by rfl) (bs (outL (outHead x) x.ms x.rs)).data.toList (src_string W4 _) (Nat.le_trans (Nat.add_le_add_left hstr _) (Nat.le_trans hLb (by decide))) (by omega) ?_; intro v3 w3 hown3 hbl3)
        go_roundw
        case rel =>
          refine ⟨k + 1, by omega, by go_num, ?_, (hbl.trans (hbig.mono (by omega))).trans hbl3⟩
          rw [hnext]
          exact hown3
        case measure => simp [intOf]; omega
      · obtain rfl : k = outs.length := by omega
        have HX : Hid (L = L0 ++ outs.flatMap outLn) := by have := HL.out; rw [List.take_length] at this; exact Lib.hid this.symm
        rw [List.take_length] at hLl
        clear HL hlk2
        have b2 : wr.cell? ⟨w.heap.size, 2, none⟩ = some (.slice AE evs.length cE) := by rw [hbl.cell (by simp), Lib.cell_of_heap X1]; rfl
        obtain ⟨wo, hwo⟩ : ∃ wo : World, wo = wr := ⟨_, rfl⟩
        subst hwo
        go_wp2_with fail
        go_loopw [7, 65] (fun v i wr => ∃ k : Nat, k ≤ evs.length ∧ i = .int .i64 k ∧ OwnM (w.heap.size + 1) (L ++ (evs.take k).flatMap fun e => lineL (evWs e)) v wr ∧ Below (w.heap.size + 1) w1 wr) (fun _ i _ => evs.length - (intOf i).toNat)
        case atStart => exact ⟨0, Nat.zero_le _, rfl, by simpa using hown, hbl⟩
        case round =>
          clear hown hbl b2 hz hbW
          obtain ⟨k, hk, rfl, hown, hbl⟩ := hrel
          have hbW : Below w.heap.size w wr := B1.trans (hbl.mono (by omega))
          have hz := hbl.size
          have hlen := flat_len (fun e => lineL (evWs e)) (evs.take k) (fun e hee => lineL_len _ (evWs_ok e (he e (List.mem_of_mem_take hee))) (by simp [evWs]))
          have hlt2 : (evs.take k).length ≤ evs.length := by rw [List.length_take]; omega
          generalize hM : L ++ (evs.take k).flatMap (fun e => lineL (evWs e)) = M at *
          have hMl : M.length ≤ L.length + (evs.take k).length * 33554432 := by rw [← hM, List.length_append]; omega
          have HM := Lib.hid hM
          clear hM
          by_cases hlt : k < evs.length
          · obtain ⟨mb, mo, hA, hmb, hcs⟩ := (hes.below hbW) k hlt
            cases hA
            have e0 := hcs 0 _ rfl
            have e1 := hcs 1 _ rfl
            have e2 := hcs 2 _ rfl
            rw [Nat.add_zero] at e0
            clear hcs
            have hook := he _ (List.getElem_mem hlt)
            have hnext : L ++ (evs.take (k + 1)).flatMap (fun e => lineL (evWs e)) = M ++ lineL (evWs evs[k]) := by rw [← HM.out, List.take_succ_eq_append_getElem hlt, List.flatMap_append, List.flatMap_cons, List.flatMap_nil, List.append_nil, List.append_assoc]
            generalize hx : evs[k] = x at *
            have hs1 := itoaS_size _ hook.2.1
            have hs2 := itoaS_size _ hook.2.2
            have hs3 := eventWordS_size _ hook.1
            have htext := ev_text x
            have HT := Lib.hid htext
            clear htext
            go_wp2_with fail
            have hbw : Below wr.heap.size wr (wr.alloc (.cells #[.int .i64 x.kind, .int .i64 x.part, .int .i64 x.module] 47)) := (Below.refl _ _).alloc (Nat.le_refl _) _
            have q0 : (wr.alloc (.cells #[.int .i64 x.kind, .int .i64 x.part, .int .i64 x.module] 47)).cell? ⟨wr.heap.size, 0, none⟩ = some (.int .i64 x.kind) := World.cell?_alloc_at _ _ _ _ rfl
            have q1 : (wr.alloc (.cells #[.int .i64 x.kind, .int .i64 x.part, .int .i64 x.module] 47)).cell? ⟨wr.heap.size, 1, none⟩ = some (.int .i64 x.part) := World.cell?_alloc_at _ _ _ _ rfl
            have q2 : (wr.alloc (.cells #[.int .i64 x.kind, .int .i64 x.part, .int .i64 x.module] 47)).cell? ⟨wr.heap.size, 2, none⟩ = some (.int .i64 x.module) := World.cell?_alloc_at _ _ _ _ rfl
            generalize wr.alloc (.cells #[.int .i64 x.kind, .int .i64 x.part, .int .i64 x.module] 47) = w0 at *
            have g0_ := fun d os => cell_regrown q0 d os
            have g1_ := fun d os => cell_regrown q1 d os
            have g2_ := fun d os => cell_regrown q2 d os
            refine Mix.wp_region_mix 16 [false, false, false, true, false, false, false, false, true, false, false, false, false, true, false, false] (by kernel_rfl) (by kernel_rfl) ?_
            simp only [List.take_succ_cons, List.take_zero, List.drop_succ_cons, List.drop_zero]
            repeat (refine Mix.wpMix_plain (fun K hK => ?_); go_simp; first | (refine hK _ ?_) | (simp (disch := omega) only [if_neg]; go_simp; refine hK _ ?_); clear hK K)
            refine Mix.wpMix_chain (fun K hK hK' => ?_) (Mix.InB.drew _)
            go_simp
            refine (number_calls x.part hook.2.1 _).mono ?_
            rintro e W1 ⟨rfl, hB1⟩
            have hI1 : Below w0.heap.size w0 W1 := ((Below.refl _ _).drew).trans hB1
            have hZ1 := hI1.size
            refine hK _ _ hI1 ?_
            clear hK hK' K
            repeat (refine Mix.wpMix_plain (fun K hK => ?_); go_simp; first | (refine hK _ ?_) | (simp (disch := omega) only [if_neg]; go_simp; refine hK _ ?_); clear hK K)
            refine Mix.wpMix_chain (fun K hK hK' => ?_) hI1
            go_simp
            refine (ref_eventWord_calls x.kind hook.1 _).mono ?_
            rintro e W2 ⟨rfl, hB2⟩
            have hI2 : Below w0.heap.size w0 W2 := hI1.trans (hB2.mono hI1.size)
            have hZ2 := hI2.size
            refine hK _ _ hI2 ?_
            clear hK hK' K
            repeat (refine Mix.wpMix_plain (fun K hK => ?_); go_simp; first | (refine hK _ ?_) | (simp (disch := omega) only [if_neg]; go_simp; refine hK _ ?_); clear hK K)
            refine Mix.wpMix_chain (fun K hK hK' => ?_) hI2
            go_simp
            refine (number_calls x.module hook.2.2 _).mono ?_
            rintro e W3 ⟨rfl, hB3⟩
            have hI3 : Below w0.heap.size w0 W3 := hI2.trans (hB3.mono hI2.size)
            have hZ3 := hI3.size
            refine hK _ _ hI3 ?_
            clear hK hK' K
            repeat (refine Mix.wpMix_plain (fun K hK => ?_); go_simp; first | (refine hK _ ?_) | (simp (disch := omega) only [if_neg]; go_simp; refine hK _ ?_); clear hK K)
            refine Mix.wpMix_nil ?_
            have hbig : Below wr.heap.size wr W3 := hbw.trans (hI3.mono hbw.size)
            have hz1 := hbig.size
            have hstr := evText_len x hook
            have hMb : M.length + 33554432 ≤ 140737488355328 := by omega
            have hown2 := hown.below hbig
            go_wp2_with (at_builtin; refine wpList_appendM W3 rfl (.tmp 69) (.tmp 84) 9 rfl (w.heap.size + 1) M _ rfl hown2 (.string _) (by rfl) _ (src_string W3 _) (Nat.le_trans (Nat.add_le_add_left hstr M.length) hMb) (by omega) ?_; intro v3 w3 hown3 hbl3)
            go_roundw
            case rel =>
              refine ⟨k + 1, by omega, by go_num, ?_, (hbl.trans (hbig.mono (by omega))).trans hbl3⟩
              rw [hnext, ← HT.out]
              exact hown3
            case measure => simp [intOf]; omega
          · obtain rfl : k = evs.length := by omega
            have hMf : M = tellL n code msg outs evs := by rw [← HM.out, List.take_length, HX.out, ← HL0.out, tellL, List.append_assoc]
            clear HM
            subst hMf
            obtain ⟨g, cap, rfl, h2, h3, h4, h5, h6, h7⟩ := hown
            have hconv := run_convert_bytes_back (P := Tryd.prog) wr 31 9 5 ⟨g, 0, none⟩ cap (tellL n code msg outs evs) Tryd.underlying31 Tryd.underlying5 Tryd.underlying9 (fun j hj => by rw [Addr.add_lit]; simpa using h6 j hj)
            go_wp2_with fail
            go_ret
            exact ⟨rfl, hbW⟩
end Go.Proofs.YtpknkifmjokhgaaDoor
