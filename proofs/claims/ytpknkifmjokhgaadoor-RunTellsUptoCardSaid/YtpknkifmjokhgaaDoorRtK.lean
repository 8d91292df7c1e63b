/- outLines of the reference, walked. -/
import Derived.Test.YtpknkifmjokhgaaDoorRtJ
set_option linter.unusedVariables false
namespace Go.Proofs.YtpknkifmjokhgaaDoor
open Go Go.RowKit Go.Sort

/-- The bytes l stand in a slice of the call's own. -/
def OwnL (B : Nat) (l : List UInt8) (v : Value) (w : World) : Prop := (∃ g cap, v = .slice (some ⟨g, 0, none⟩) l.length cap) ∧ w.ownsRow B 5 1 v l.length (Lib.byteCells l)
theorem OwnL.below {B : Nat} {l : List UInt8} {v : Value} {w w' : World} (h : OwnL B l v w) (hb : Below w.heap.size w w') : OwnL B l v w' :=
  ⟨h.1, h.2.kept (row := none) ⟨hb.os, hb.tape, hb.output, hb.size, fun k hk _ => hb.block k hk⟩ (by cases v.ownBlock <;> simp)⟩
theorem OwnL.start (w : World) (T : TypeId) (hT : T = 5) : OwnL w.heap.size [] (.slice (some ⟨w.heap.size, 0, none⟩) 0 0) (w.alloc (.cells #[] T)) := by
  subst hT
  exact ⟨⟨_, _, rfl⟩, World.ownsRow_lit (w := w) (base := w.heap.size) (e := 5) (size := 1) #[] 0 (Nat.le_refl _) (by unfold maxLen; omega) rfl⟩
theorem OwnL.after {B : Nat} {l : List UInt8} {v v' : Value} {w w' : World} (h : OwnL B l v w) {s : ByteArray} (ho : w'.ownsRow B 5 1 v' (l.length + s.size) (Lib.byteCells l ++ Lib.strCells s)) (hn : v' = .slice none 0 0 ↔ v = .slice none 0 0 ∧ s.size = 0) : OwnL B (l ++ s.data.toList) v' w' := by
  have e : (l ++ s.data.toList).length = l.length + s.size := by rw [List.length_append, Lib.size_eq]
  refine ⟨?_, ?_⟩
  · rw [e]
    rcases ho.2 with ⟨h1, _⟩ | ⟨g, cap, cur, hv, _⟩
    · obtain ⟨g, cap, hv⟩ := h.1
      have := (hn.1 h1).1
      rw [hv] at this
      cases this
    · exact ⟨g, cap, hv⟩
  · rw [e, Lib.byteCells_append, ← Lib.strCells_eq]
    exact ho

theorem wpList_appendL (w : World) {ops : Array Oper} {rest : List Oper} {o : Oper} {a : Act} {Q : Exit → Act → World → Prop} (hgd : o.guard = none) (sl x : Operand)
    (ho : o.op = .call { callee := .builtin .append, args := #[sl, x], argTypes := #[31, 9] }) (B : Nat) (l : List UInt8) (v : Value) (hs : a.eval sl = v) (h : OwnL B l v w) (s : ByteArray) (hx : a.eval x = .string s)
    (hlen : l.length + s.size ≤ 140737488355328) (hB : B ≤ w.heap.size)
    (k : ∀ v' w', OwnL B (l ++ s.data.toList) v' w' → Below B w w' → wpList Tryd.prog ops Q rest (a.put o.dst v') w') : wpList Tryd.prog ops Q (o :: rest) a w := by
  obtain ⟨i0, hi, hz0, hz1, hz2⟩ := info_parts infoByte
  refine Lib.wpList_append_own_string w hgd sl x 31 9 ho B 5 i0 Tryd.underlying31 Tryd.underlying9 hi hz0 hz1 hz2 v _ _ hs h.2 s hx (by unfold maxLen; omega) hlen hB ?_
  intro v' w' hown hgrow hnil
  exact k v' w' (h.after hown hnil) ((Below.refl _ _).grown hgrow hB (fun q hq => (h.2.lt q hq).1))

theorem msg_text (head : ByteArray) (m : MsgD) : (head ++ ⟨#[32, 112, 111, 114, 116, 32]⟩ ++ itoaS m.port ++ ⟨#[32]⟩ ++ dataS m.data ++ ⟨#[10]⟩).data.toList = lineL (msgWs head m) := by
  simp [lineL, joinL, msgWs, Wd.b, Wd.s, portS]
theorem rep_text (head : ByteArray) (r : RepD) : (head ++ ⟨#[32]⟩ ++ kindWordS r.kind ++ ⟨#[32]⟩ ++ itoaS r.code ++ ⟨#[32, 112, 114, 111, 99, 32]⟩ ++ itoaS r.proc ++ ⟨#[32, 112, 99, 32]⟩ ++ itoaS r.pc ++ ⟨#[10]⟩).data.toList = lineL (repWs head r) := by
  simp [lineL, joinL, repWs, Wd.b, Wd.s, procS, pcS]

set_option maxHeartbeats 1600000 in
theorem outLines_calls (head : ByteArray) (A1 A2 : Option Addr) (c1 c2 : Nat) (ms : List MsgD) (rs : List RepD) (w : World)
    (hh : head.size ≤ 4194304) (hl : (ms.length + rs.length) * 33554432 ≤ 70368744177664) (hm : ∀ m ∈ ms, m.ok) (hr : ∀ r ∈ rs, r.ok)
    (hms : RowsAt MsgD.cs 2 w w.heap.size A1 ms) (hrs : RowsAt RepD.cs 4 w w.heap.size A2 rs) :
    Calls Tryd.prog 15 #[.string head, .agg #[.slice A1 ms.length c1, .slice A2 rs.length c2]] w fun e w' => e = .returned (.string (bs (outL head ms rs))) ∧ Below w.heap.size w w' := by
  obtain ⟨i0, hi, hz0, hz1', hz2⟩ := info_parts infoByte
  have hl2 := hl
  rw [Nat.add_mul] at hl2
  clear hl
  go_enter Tryd.func15, Tryd.ntmps15
  go_wp2
  have X2 : ((w.alloc (.cells #[.slice A1 ms.length c1, .slice A2 rs.length c2] 41)).alloc (.cells #[] 5)).heap[w.heap.size]? = some (.cells #[.slice A1 ms.length c1, .slice A2 rs.length c2] 41 (0, 0)) := by
    rw [Lib.alloc_old _ _ _ (by simp)]; exact heap_alloc_new _ _
  have S2 := OwnL.start (w.alloc (.cells #[.slice A1 ms.length c1, .slice A2 rs.length c2] 41)) 5 rfl
  have B2 : Below w.heap.size w ((w.alloc (.cells #[.slice A1 ms.length c1, .slice A2 rs.length c2] 41)).alloc (.cells #[] 5)) := ((Below.refl _ _).alloc (Nat.le_refl _) _).alloc (by simp) _
  have Z2 : (w.alloc (.cells #[.slice A1 ms.length c1, .slice A2 rs.length c2] 41)).heap.size = w.heap.size + 1 := by simp
  rw [Z2] at S2
  generalize (w.alloc (.cells #[.slice A1 ms.length c1, .slice A2 rs.length c2] 41)).alloc (.cells #[] 5) = w2 at *
  go_loopw [5, 14] (fun v i wr => ∃ k : Nat, k ≤ ms.length ∧ i = .int .i64 k ∧ OwnL (w.heap.size + 1) ((ms.take k).flatMap fun m => lineL (msgWs head m)) v wr ∧ Below (w.heap.size + 1) w2 wr) (fun _ i _ => ms.length - (intOf i).toNat)
  case atStart => exact ⟨0, Nat.zero_le _, rfl, S2, Below.refl _ _⟩
  case round =>
    obtain ⟨k, hk, rfl, hown, hbl⟩ := hrel
    have hbW : Below w.heap.size w wr := B2.trans (hbl.mono (by omega))
    have hz := hbl.size
    have hzB := (Array.getElem?_eq_some_iff.1 X2).1
    generalize hL : (ms.take k).flatMap (fun m => lineL (msgWs head m)) = L at *
    have HL := Lib.hid hL
    clear hL
    obtain ⟨⟨g, cap, rfl⟩, hown⟩ := hown
    by_cases hlt : k < ms.length
    · obtain ⟨mb, mo, hA, hmb, hcs⟩ := (hms.below hbW) k hlt
      cases hA
      have e0 := hcs 0 _ rfl
      have e1 := hcs 1 _ rfl
      rw [Nat.add_zero] at e0
      clear hcs
      have hook := hm _ (List.getElem_mem hlt)
      have hlen := outHead_len head ms hh hm k
      rw [HL.out] at hlen
      have hnext : (ms.take (k + 1)).flatMap (fun m => lineL (msgWs head m)) = L ++ lineL (msgWs head ms[k]) := by rw [← HL.out, List.take_succ_eq_append_getElem hlt, List.flatMap_append, List.flatMap_cons, List.flatMap_nil, List.append_nil]
      generalize hx : ms[k] = x at *
      have hd := dataS_size x.data hook.2
      have hi1 := itoaS_size x.port hook.1
      have htext := msg_text head x
      have HT := Lib.hid htext
      clear htext
      go_wp2_with fail
      have hbw : Below wr.heap.size wr (wr.alloc (.cells #[.int .i64 x.port, .string x.data] 60)) := (Below.refl _ _).alloc (Nat.le_refl _) _
      have q0 : (wr.alloc (.cells #[.int .i64 x.port, .string x.data] 60)).cell? ⟨wr.heap.size, 0, none⟩ = some (.int .i64 x.port) := World.cell?_alloc_at _ _ _ _ rfl
      have q1 : (wr.alloc (.cells #[.int .i64 x.port, .string x.data] 60)).cell? ⟨wr.heap.size, 1, none⟩ = some (.string x.data) := World.cell?_alloc_at _ _ _ _ rfl
      generalize wr.alloc (.cells #[.int .i64 x.port, .string x.data] 60) = w0 at *
      have g0_ := fun d os => cell_regrown q0 d os
      have g1_ := fun d os => cell_regrown q1 d os
      refine Mix.wp_region_mix 13 [false, false, false, false, false, true, false, false, false, false, true, false, false] (by kernel_rfl) (by kernel_rfl) ?_
      simp only [List.take_succ_cons, List.take_zero, List.drop_succ_cons, List.drop_zero]
      repeat (refine Mix.wpMix_plain (fun K hK => ?_); go_simp; first | (refine hK _ ?_) | (simp (disch := omega) only [if_neg]; go_simp; refine hK _ ?_); clear hK K)
      refine Mix.wpMix_chain (fun K hK hK' => ?_) (Mix.InB.drew _)
      go_simp
      refine (number_calls x.port hook.1 _).mono ?_
      rintro e W1 ⟨rfl, hB1⟩
      have hI1 : Below w0.heap.size w0 W1 := ((Below.refl _ _).drew).trans hB1
      have hZ1 := hI1.size
      refine hK _ _ hI1 ?_
      clear hK hK' K
      repeat (refine Mix.wpMix_plain (fun K hK => ?_); go_simp; first | (refine hK _ ?_) | (simp (disch := omega) only [if_neg]; go_simp; refine hK _ ?_); clear hK K)
      refine Mix.wpMix_chain (fun K hK hK' => ?_) hI1
      go_simp
      refine (ref_data_calls x.data hook.2 _).mono ?_
      rintro e W2 ⟨rfl, hB2⟩
      have hI2 : Below w0.heap.size w0 W2 := hI1.trans (hB2.mono hI1.size)
      have hZ2 := hI2.size
      refine hK _ _ hI2 ?_
      clear hK hK' K
      repeat (refine Mix.wpMix_plain (fun K hK => ?_); go_simp; first | (refine hK _ ?_) | (simp (disch := omega) only [if_neg]; go_simp; refine hK _ ?_); clear hK K)
      refine Mix.wpMix_nil ?_
      have hbig : Below wr.heap.size wr W2 := hbw.trans (hI2.mono hbw.size)
      have hz1 := hbig.size
      have hown2 := (OwnL.below ⟨⟨g, cap, rfl⟩, hown⟩ hbig)
      have hstr : (head ++ ⟨#[32, 112, 111, 114, 116, 32]⟩ ++ itoaS x.port ++ ⟨#[32]⟩ ++ dataS x.data ++ ⟨#[10]⟩).size ≤ 33554432 := by
        rw [Lib.size_eq, HT.out]
        exact lineL_len _ (msgWs_ok head x hh hook) (by simp [msgWs])
      generalize (head ++ ⟨#[32, 112, 111, 114, 116, 32]⟩ ++ itoaS x.port ++ ⟨#[32]⟩ ++ dataS x.data ++ ⟨#[10]⟩) = str at *
      go_wp2_with (at_builtin; refine wpList_appendL _ rfl _ _ rfl (w.heap.size + 1) L _ rfl hown2 str rfl (by omega) (by omega) ?_; intro v' w3 hown3 hbl3)
      go_roundw
      case rel =>
        refine ⟨k + 1, by omega, by go_num, ?_, (hbl.trans (hbig.mono (by omega))).trans hbl3⟩
        rw [hnext, ← HT.out]
        exact hown3
      case measure => simp [intOf]; omega
    · obtain rfl : k = ms.length := by omega
      have hlen0 := outHead_len head ms hh hm ms.length
      rw [HL.out] at hlen0
      have HX : Hid (ms.flatMap (fun m => lineL (msgWs head m)) = L) := by have := HL.out; rw [List.take_length] at this; exact Lib.hid this
      clear HL
      have b2 : wr.cell? ⟨w.heap.size, 1, none⟩ = some (.slice A2 rs.length c2) := by rw [hbl.cell (by simp), Lib.cell_of_heap X2]; rfl
      obtain ⟨wo, hwo⟩ : ∃ wo : World, wo = wr := ⟨_, rfl⟩
      subst hwo
      have hfin : outL head ms rs = L ++ rs.flatMap fun r => lineL (repWs head r) := by rw [outL, HX.out]
      have HF := Lib.hid hfin
      clear hfin
      go_wp2_with fail
      go_loopw [5, 36] (fun v i wr => ∃ k : Nat, k ≤ rs.length ∧ i = .int .i64 k ∧ OwnL (w.heap.size + 1) (L ++ (rs.take k).flatMap fun r => lineL (repWs head r)) v wr ∧ Below (w.heap.size + 1) w2 wr) (fun _ i _ => rs.length - (intOf i).toNat)
      case atStart => exact ⟨0, Nat.zero_le _, rfl, by rw [List.take_zero, List.flatMap_nil, List.append_nil]; exact ⟨⟨g, cap, rfl⟩, hown⟩, hbl⟩
      case round =>
        clear hown hbl b2 hz hbW
        obtain ⟨k, hk, rfl, hown, hbl⟩ := hrel
        have hbW : Below w.heap.size w wr := B2.trans (hbl.mono (by omega))
        have hz := hbl.size
        generalize hM : L ++ (rs.take k).flatMap (fun r => lineL (repWs head r)) = M at *
        have HM := Lib.hid hM
        clear hM
        obtain ⟨⟨g, cap, rfl⟩, hown⟩ := hown
        by_cases hlt : k < rs.length
        · obtain ⟨mb, mo, hA, hmb, hcs⟩ := (hrs.below hbW) k hlt
          cases hA
          have e0 := hcs 0 _ rfl
          have e1 := hcs 1 _ rfl
          have e2 := hcs 2 _ rfl
          have e3 := hcs 3 _ rfl
          rw [Nat.add_zero] at e0
          clear hcs
          have hook := hr _ (List.getElem_mem hlt)
          have hlen := outTail_len head rs hh hr k
          have hnext : L ++ (rs.take (k + 1)).flatMap (fun r => lineL (repWs head r)) = M ++ lineL (repWs head rs[k]) := by rw [← HM.out, List.take_succ_eq_append_getElem hlt, List.flatMap_append, List.flatMap_cons, List.flatMap_nil, List.append_nil, List.append_assoc]
          have hLl : M.length ≤ 70368744177664 := by rw [← HM.out, List.length_append]; omega
          clear hlen
          generalize hx : rs[k] = x at *
          have hi1 := itoaS_size _ (I64.of32 hook.2.2.1)
          have hi2 := itoaS_size _ hook.2.1
          have hi3 := itoaS_size _ (I64.of32 hook.2.2.2)
          have hi4 := kindWordS_size _ hook.1
          obtain ⟨u1, u2⟩ := hook.2.2.1
          obtain ⟨u3, u4⟩ := hook.2.2.2
          have w1' : IntKind.i64.wrap x.code = x.code := IntWalk.i64_in _ (by omega)
          have w2' : IntKind.i64.wrap x.pc = x.pc := IntWalk.i64_in _ (by omega)
          have htext := rep_text head x
          have HT := Lib.hid htext
          clear htext
          go_wp2_with fail
          have hbw : Below wr.heap.size wr (wr.alloc (.cells #[.int .i64 x.kind, .int .i64 x.proc, .int .u32 x.code, .int .u32 x.pc] 64)) := (Below.refl _ _).alloc (Nat.le_refl _) _
          have q0 : (wr.alloc (.cells #[.int .i64 x.kind, .int .i64 x.proc, .int .u32 x.code, .int .u32 x.pc] 64)).cell? ⟨wr.heap.size, 0, none⟩ = some (.int .i64 x.kind) := World.cell?_alloc_at _ _ _ _ rfl
          have q1 : (wr.alloc (.cells #[.int .i64 x.kind, .int .i64 x.proc, .int .u32 x.code, .int .u32 x.pc] 64)).cell? ⟨wr.heap.size, 1, none⟩ = some (.int .i64 x.proc) := World.cell?_alloc_at _ _ _ _ rfl
          have q2 : (wr.alloc (.cells #[.int .i64 x.kind, .int .i64 x.proc, .int .u32 x.code, .int .u32 x.pc] 64)).cell? ⟨wr.heap.size, 2, none⟩ = some (.int .u32 x.code) := World.cell?_alloc_at _ _ _ _ rfl
          have q3 : (wr.alloc (.cells #[.int .i64 x.kind, .int .i64 x.proc, .int .u32 x.code, .int .u32 x.pc] 64)).cell? ⟨wr.heap.size, 3, none⟩ = some (.int .u32 x.pc) := World.cell?_alloc_at _ _ _ _ rfl
          generalize wr.alloc (.cells #[.int .i64 x.kind, .int .i64 x.proc, .int .u32 x.code, .int .u32 x.pc] 64) = w0 at *
          have g0_ := fun d os => cell_regrown q0 d os
          have g1_ := fun d os => cell_regrown q1 d os
          have g2_ := fun d os => cell_regrown q2 d os
          have g3_ := fun d os => cell_regrown q3 d os
          refine Mix.wp_region_mix 25 [false, false, false, false, false, true, false, false, false, false, false, true, false, false, false, false, true, false, false, false, false, false, true, false, false] (by kernel_rfl) (by kernel_rfl) ?_
          simp only [List.take_succ_cons, List.take_zero, List.drop_succ_cons, List.drop_zero]
          repeat (refine Mix.wpMix_plain (fun K hK => ?_); go_simp; first | (refine hK _ ?_) | (simp (disch := omega) only [if_neg]; go_simp; refine hK _ ?_); clear hK K)
          refine Mix.wpMix_chain (fun K hK hK' => ?_) (Mix.InB.drew _)
          go_simp
          refine (ref_kindWord_calls x.kind hook.1 _).mono ?_
          rintro e W1 ⟨rfl, hB1⟩
          have hI1 : Below w0.heap.size w0 W1 := ((Below.refl _ _).drew).trans hB1
          have hZ1 := hI1.size
          refine hK _ _ hI1 ?_
          clear hK hK' K
          repeat (refine Mix.wpMix_plain (fun K hK => ?_); go_simp; first | (refine hK _ ?_) | (simp (disch := omega) only [if_neg]; go_simp; refine hK _ ?_); clear hK K)
          refine Mix.wpMix_chain (fun K hK hK' => ?_) hI1
          go_simp
          refine (number_calls x.code (I64.of32 hook.2.2.1) _).mono ?_
          rintro e W2 ⟨rfl, hB2⟩
          have hI2 : Below w0.heap.size w0 W2 := hI1.trans (hB2.mono hI1.size)
          have hZ2 := hI2.size
          refine hK _ _ hI2 ?_
          clear hK hK' K
          repeat (refine Mix.wpMix_plain (fun K hK => ?_); go_simp; first | (refine hK _ ?_) | (simp (disch := omega) only [if_neg]; go_simp; refine hK _ ?_); clear hK K)
          refine Mix.wpMix_chain (fun K hK hK' => ?_) hI2
          go_simp
          refine (number_calls x.proc hook.2.1 _).mono ?_
          rintro e W3 ⟨rfl, hB3⟩
          have hI3 : Below w0.heap.size w0 W3 := hI2.trans (hB3.mono hI2.size)
          have hZ3 := hI3.size
          refine hK _ _ hI3 ?_
          clear hK hK' K
          repeat (refine Mix.wpMix_plain (fun K hK => ?_); go_simp; first | (refine hK _ ?_) | (simp (disch := omega) only [if_neg]; go_simp; refine hK _ ?_); clear hK K)
          refine Mix.wpMix_chain (fun K hK hK' => ?_) hI3
          go_simp
          refine (number_calls x.pc (I64.of32 hook.2.2.2) _).mono ?_
          rintro e W4 ⟨rfl, hB4⟩
          have hI4 : Below w0.heap.size w0 W4 := hI3.trans (hB4.mono hI3.size)
          have hZ4 := hI4.size
          refine hK _ _ hI4 ?_
          clear hK hK' K
          repeat (refine Mix.wpMix_plain (fun K hK => ?_); go_simp; first | (refine hK _ ?_) | (simp (disch := omega) only [if_neg]; go_simp; refine hK _ ?_); clear hK K)
          refine Mix.wpMix_nil ?_
          have hbig : Below wr.heap.size wr W4 := hbw.trans (hI4.mono hbw.size)
          have hz1 := hbig.size
          have hown2 := (OwnL.below ⟨⟨g, cap, rfl⟩, hown⟩ hbig)
          have hstr : (head ++ ⟨#[32]⟩ ++ kindWordS x.kind ++ ⟨#[32]⟩ ++ itoaS x.code ++ ⟨#[32, 112, 114, 111, 99, 32]⟩ ++ itoaS x.proc ++ ⟨#[32, 112, 99, 32]⟩ ++ itoaS x.pc ++ ⟨#[10]⟩).size ≤ 33554432 := by
            rw [Lib.size_eq, HT.out]
            exact lineL_len _ (repWs_ok head x hh hook) (by simp [repWs])
          generalize (head ++ ⟨#[32]⟩ ++ kindWordS x.kind ++ ⟨#[32]⟩ ++ itoaS x.code ++ ⟨#[32, 112, 114, 111, 99, 32]⟩ ++ itoaS x.proc ++ ⟨#[32, 112, 99, 32]⟩ ++ itoaS x.pc ++ ⟨#[10]⟩) = str at *
          go_wp2_with (at_builtin; refine wpList_appendL _ rfl _ _ rfl (w.heap.size + 1) M _ rfl hown2 str rfl (by omega) (by omega) ?_; intro v' w3 hown3 hbl3)
          go_roundw
          case rel =>
            refine ⟨k + 1, by omega, by go_num, ?_, (hbl.trans (hbig.mono (by omega))).trans hbl3⟩
            rw [hnext, ← HT.out]
            exact hown3
          case measure => simp [intOf]; omega
        · obtain rfl : k = rs.length := by omega
          have hMf : M = outL head ms rs := by rw [HF.out, ← HM.out, List.take_length]
          clear HM
          subst hMf
          have hconv := run_convert_bytes_back (P := Tryd.prog) wr 31 9 5 ⟨g, 0, none⟩ cap (outL head ms rs) Tryd.underlying31 Tryd.underlying5 Tryd.underlying9 (fun j hj => hown.cells (g := g) rfl j _ (by simp [Lib.byteCells, hj]))
          go_wp2_with fail
          go_ret
          exact ⟨rfl, hbW⟩
end Go.Proofs.YtpknkifmjokhgaaDoor
