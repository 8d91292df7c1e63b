/- out, walked. -/
import Derived.Test.YtpknkifmjokhgaaDoorRtE
set_option linter.unusedVariables false
namespace Go.Proofs.YtpknkifmjokhgaaDoor
open Go Go.RowKit Go.Sort

/-- A slice's elements in memory, row by row, in a block below B. -/
def RowsAt {α : Type} (f : α → List Value) (sz : Nat) (w : World) (B : Nat) (A : Option Addr) (xs : List α) : Prop :=
  ∀ k (h : k < xs.length), ∃ mb mo, A = some ⟨mb, mo, none⟩ ∧ mb < B ∧ ∀ j v, (f xs[k])[j]? = some v → w.cell? ⟨mb, mo + k * sz + j, none⟩ = some v
theorem RowsAt.below {α : Type} {f : α → List Value} {sz : Nat} {w w' : World} {B : Nat} {A : Option Addr} {xs : List α} (h : RowsAt f sz w B A xs) (hb : Below B w w') : RowsAt f sz w' B A xs := by
  intro k hk
  obtain ⟨mb, mo, e, hlt, hc⟩ := h k hk
  exact ⟨mb, mo, e, hlt, fun j v hv => (hb.cell (p := ⟨mb, mo + k * sz + j, none⟩) hlt).trans (hc j v hv)⟩
theorem RowsAt.mono {α : Type} {f : α → List Value} {sz : Nat} {w : World} {B B' : Nat} {A : Option Addr} {xs : List α} (h : RowsAt f sz w B A xs) (hB : B ≤ B') : RowsAt f sz w B' A xs := by
  intro k hk
  obtain ⟨mb, mo, e, hlt, hc⟩ := h k hk
  exact ⟨mb, mo, e, by omega, hc⟩

structure MsgD where
  port : Int
  data : ByteArray
def MsgD.cs (m : MsgD) : List Value := [.int .i64 m.port, .string m.data]
def MsgD.ok (m : MsgD) : Prop := I64 m.port ∧ m.data.size ≤ 1048576
structure RepD where
  kind : Int
  proc : Int
  code : Int
  pc : Int
def RepD.cs (r : RepD) : List Value := [.int .i64 r.kind, .int .i64 r.proc, .int .u32 r.code, .int .u32 r.pc]
def U32 (n : Int) : Prop := 0 ≤ n ∧ n < 4294967296
def RepD.ok (r : RepD) : Prop := I64 r.kind ∧ I64 r.proc ∧ U32 r.code ∧ U32 r.pc

def dataS (s : ByteArray) : ByteArray := if s.toList.isEmpty then ⟨#[45]⟩ else bs (hexL s.data.toList)
theorem dataS_size (s : ByteArray) (h : s.size ≤ 1048576) : (dataS s).size ≤ 4194304 := by
  unfold dataS
  split
  · decide
  · show (hexL s.data.toList).toArray.size ≤ _
    rw [List.size_toArray, hexL_length, ← Lib.size_eq]; omega
theorem data_any (s : ByteArray) (hn : s.size ≤ 1048576) (w : World) : Calls Tryd.prog 21 #[.string s] w fun e w' => e = .returned (.string (dataS s)) ∧ Below w.heap.size w w' := by
  cases h : s.toList.isEmpty with
  | true =>
    rw [show dataS s = ⟨#[45]⟩ by unfold dataS; rw [if_pos h]]
    refine (data_empty s h w).mono ?_
    rintro e w' ⟨rfl, rfl⟩
    exact ⟨rfl, Below.refl _ _⟩
  | false =>
    rw [show dataS s = bs (hexL s.data.toList) by unfold dataS; rw [if_neg (by rw [h]; simp)]]
    exact data_calls s h hn w

def portS : ByteArray := ⟨#[112, 111, 114, 116]⟩
def procS : ByteArray := ⟨#[112, 114, 111, 99]⟩
def pcS : ByteArray := ⟨#[112, 99]⟩
def msgWs (head : ByteArray) (m : MsgD) : List Wd := [.str head, .str portS, .num m.port, .str (dataS m.data)]
def repWs (head : ByteArray) (r : RepD) : List Wd := [.str head, .str (kindWordS r.kind), .num r.code, .str procS, .num r.proc, .str pcS, .num r.pc]
def lineL (ws : List Wd) : List UInt8 := joinL ws ++ [10]
theorem lineL_len (ws : List Wd) (h : ∀ x ∈ ws, x.ok) (hn : ws.length ≤ 7) : (lineL ws).length ≤ 33554432 := by
  have := joinL_len ws h
  simp only [lineL, List.length_append, List.length_cons, List.length_nil]
  omega
def outL (head : ByteArray) (ms : List MsgD) (rs : List RepD) : List UInt8 := ms.flatMap (fun m => lineL (msgWs head m)) ++ rs.flatMap (fun r => lineL (repWs head r))

theorem wordIn_size (ws : List (List UInt8)) (name : ByteArray) (n : Int) (hn : I64 n) (hw : ∀ x ∈ ws, x.length ≤ 1000) (hname : name.size ≤ 1000) : (wordIn ws name n).size ≤ 4194304 := by
  unfold wordIn
  split
  · rename_i h
    show (ws.getD n.toNat []).toArray.size ≤ _
    rw [List.size_toArray]
    have := hw (ws.getD n.toNat []) (by
      rw [List.getD_eq_getElem?_getD, List.getElem?_eq_getElem (by omega : n.toNat < ws.length)]
      exact List.getElem_mem _)
    omega
  · have := itoaS_size n hn
    rw [ByteArray.size_append, ByteArray.size_append]
    have h1 : (⟨#[32]⟩ : ByteArray).size = 1 := rfl
    omega
theorem kindWordS_size (n : Int) (hn : I64 n) : (kindWordS n).size ≤ 4194304 := wordIn_size _ _ _ hn (by decide) (by decide)
theorem eventWordS_size (n : Int) (hn : I64 n) : (eventWordS n).size ≤ 4194304 := wordIn_size _ _ _ hn (by decide) (by decide)
theorem wordS_size (n : Int) (hn : I64 n) : (wordS n).size ≤ 4194304 := wordIn_size _ _ _ hn (by decide) (by decide)
theorem I64.of32 {n : Int} (h : U32 n) : I64 n := ⟨by have := h.1; omega, by have := h.2; omega⟩
theorem msgWs_ok (head : ByteArray) (m : MsgD) (hh : head.size ≤ 4194304) (hm : m.ok) : ∀ x ∈ msgWs head m, x.ok := by
  intro x hx
  simp only [msgWs, List.mem_cons, List.not_mem_nil, or_false] at hx
  rcases hx with rfl | rfl | rfl | rfl
  · exact hh
  · show portS.size ≤ _; decide
  · exact hm.1
  · exact dataS_size _ hm.2
theorem repWs_ok (head : ByteArray) (r : RepD) (hh : head.size ≤ 4194304) (hr : r.ok) : ∀ x ∈ repWs head r, x.ok := by
  intro x hx
  simp only [repWs, List.mem_cons, List.not_mem_nil, or_false] at hx
  rcases hx with rfl | rfl | rfl | rfl | rfl | rfl | rfl
  · exact hh
  · exact kindWordS_size _ hr.1
  · exact I64.of32 hr.2.2.1
  · show procS.size ≤ _; decide
  · exact hr.2.1
  · show pcS.size ≤ _; decide
  · exact I64.of32 hr.2.2.2

theorem flat_len {α : Type} (f : α → List UInt8) (xs : List α) (h : ∀ x ∈ xs, (f x).length ≤ 33554432) : (xs.flatMap f).length ≤ xs.length * 33554432 := by
  induction xs with
  | nil => simp
  | cons x xs ih =>
    rw [List.flatMap_cons, List.length_append, List.length_cons]
    have := h x (by simp)
    have := ih (fun y hy => h y (by simp [hy]))
    omega
theorem outHead_len (head : ByteArray) (ms : List MsgD) (hh : head.size ≤ 4194304) (hm : ∀ m ∈ ms, m.ok) (k : Nat) : ((ms.take k).flatMap fun m => lineL (msgWs head m)).length ≤ ms.length * 33554432 := by
  have h1 := flat_len (fun m => lineL (msgWs head m)) (ms.take k) (fun m hmm => lineL_len _ (msgWs_ok head m hh (hm m (List.mem_of_mem_take hmm))) (by simp [msgWs]))
  have h2 : (ms.take k).length ≤ ms.length := by rw [List.length_take]; omega
  exact Nat.le_trans h1 (Nat.mul_le_mul_right _ h2)
theorem outTail_len (head : ByteArray) (rs : List RepD) (hh : head.size ≤ 4194304) (hr : ∀ r ∈ rs, r.ok) (k : Nat) : ((rs.take k).flatMap fun r => lineL (repWs head r)).length ≤ rs.length * 33554432 := by
  have h1 := flat_len (fun r => lineL (repWs head r)) (rs.take k) (fun r hrr => lineL_len _ (repWs_ok head r hh (hr r (List.mem_of_mem_take hrr))) (by simp [repWs]))
  have h2 : (rs.take k).length ≤ rs.length := by rw [List.length_take]; omega
  exact Nat.le_trans h1 (Nat.mul_le_mul_right _ h2)

/-- What holds behind the lines that stand in x; the box of the argument stands. -/
def OutRel (B b : Nat) (l x : List UInt8) (o : Obj) (w wr : World) : Prop := Bu B b (l ++ x) wr ∧ Below B w wr ∧ wr.heap[w.heap.size]? = some o

set_option maxHeartbeats 1000000 in
theorem out_calls (B b : Nat) (l : List UInt8) (head : ByteArray) (A1 A2 : Option Addr) (c1 c2 : Nat) (ms : List MsgD) (rs : List RepD) (w : World) (h : Bu B b l w) (hbB : b < w.heap.size) (hB : B ≤ w.heap.size) (hT : TabB B w)
    (hh : head.size ≤ 4194304) (hl : l.length + (ms.length + rs.length) * 33554432 ≤ 70368744177664) (hm : ∀ m ∈ ms, m.ok) (hr : ∀ r ∈ rs, r.ok)
    (hms : RowsAt MsgD.cs 2 w B A1 ms) (hrs : RowsAt RepD.cs 4 w B A2 rs) :
    Calls Tryd.prog 9 #[.pointer (some ⟨b, 0, none⟩), .string head, .agg #[.slice A1 ms.length c1, .slice A2 rs.length c2]] w fun e w' => e = .returned (.tuple #[]) ∧ Bu B b (l ++ outL head ms rs) w' ∧ Below B w w' := by
  go_enter Tryd.func9, Tryd.ntmps9
  go_wp2
  go_loopw [13] (fun i wr => ∃ k : Nat, k ≤ ms.length ∧ i = .int .i64 k ∧ OutRel B b l ((ms.take k).flatMap fun m => lineL (msgWs head m)) (.cells #[.slice A1 ms.length c1, .slice A2 rs.length c2] 41 (0, 0)) w wr) (fun i _ => ms.length - (intOf i).toNat)
  case atStart => exact ⟨0, Nat.zero_le _, rfl, by simpa using h.below ((Below.refl _ _).alloc (Nat.le_refl _) _), (Below.refl _ _).alloc hB _, heap_alloc_new _ _⟩
  case round =>
    obtain ⟨k, hk, rfl, hbu, hbl, hbox⟩ := hrel
    by_cases hlt : k < ms.length
    · obtain ⟨mb, mo, hA, hmb, hcs⟩ := (hms.below hbl) k hlt
      cases hA
      have e0 := hcs 0 _ rfl
      have e1 := hcs 1 _ rfl
      rw [Nat.add_zero] at e0
      clear hcs
      have hmok := hm _ (List.getElem_mem hlt)
      generalize hx : ms[k] = x at *
      have hd := dataS_size x.data hmok.2
      go_wp2_with fail
      have hbw : Below wr.heap.size wr (wr.alloc (.cells #[.int .i64 x.port, .string x.data] 60)) := (Below.refl _ _).alloc (Nat.le_refl _) _
      have q0 : (wr.alloc (.cells #[.int .i64 x.port, .string x.data] 60)).cell? ⟨wr.heap.size, 0, none⟩ = some (.int .i64 x.port) := World.cell?_alloc_at _ _ _ _ rfl
      have q1 : (wr.alloc (.cells #[.int .i64 x.port, .string x.data] 60)).cell? ⟨wr.heap.size, 1, none⟩ = some (.string x.data) := World.cell?_alloc_at _ _ _ _ rfl
      generalize wr.alloc (.cells #[.int .i64 x.port, .string x.data] 60) = w0 at *
      have g0 := fun d os => cell_regrown q0 d os
      have g1 := fun d os => cell_regrown q1 d os
      refine Mix.wp_region_mix 12 [false, false, false, false, false, false, false, false, false, true, false, true] (by kernel_rfl) (by kernel_rfl) ?_
      simp only [List.take_succ_cons, List.take_zero, List.drop_succ_cons, List.drop_zero]
      repeat (refine Mix.wpMix_plain (fun K hK => ?_); go_simp; refine hK _ ?_; clear hK K)
      refine Mix.wpMix_chain (fun K hK hK' => ?_) (Mix.InB.drew _)
      go_simp
      refine (data_any x.data hmok.2 _).mono ?_
      rintro e w1 ⟨rfl, hb1⟩
      have hbb : Below w0.heap.size w0 w1 := ((Below.refl _ _).drew).trans hb1
      refine hK _ _ hbb ?_
      clear hK hK' K
      repeat (refine Mix.wpMix_plain (fun K hK => ?_); go_simp; refine hK _ ?_; clear hK K)
      refine Mix.wpMix_chain (fun K hK hK' => ?_) hbb
      go_simp
      refine hK _ _ (hbb.alloc hbb.size _) (Mix.wpMix_nil ?_)
      clear hK hK' K
      have hbig : Below wr.heap.size wr w1 := hbw.trans (hbb.mono hbw.size)
      have hz := hbl.size
      have hz1 := hbig.size
      have hlen := outHead_len head ms hh hm k
      have hwok := msgWs_ok head x hh hmok
      go_wp2_with (go_at_call 7; refine (line_calls B b w1.heap.size 4 _ (msgWs head x) _ (hbu.below (hbig.alloc hz1 _)) (by simp; omega) (hT.up ((hbl.trans (hbig.mono (by omega))).alloc (by omega) _) (Nat.le_refl _)) (by rw [List.length_append]; omega) (by simp [msgWs]) hwok (heap_alloc_new _ _) (by omega)).mono ?_; rintro e w2 ⟨rfl, hbu2, hbl2, hkp2⟩)
      go_roundw
      case rel =>
        refine ⟨k + 1, by omega, by go_num, ?_, (hbl.trans ((hbig.mono (by omega)).alloc (by omega) _)).trans hbl2, ?_⟩
        · rw [List.take_succ_eq_append_getElem hlt, List.flatMap_append, ← List.append_assoc, hx, List.flatMap_cons, List.flatMap_nil, List.append_nil]
          exact hbu2.bu
        · refine hkp2 _ _ ?_ (fun e => by have := Option.some.inj e; omega) (fun cs fz e => by cases e)
          rw [(hbig.alloc hz1 _).block _ (Array.getElem?_eq_some_iff.1 hbox).1]
          exact hbox
      case measure => simp [intOf]; omega
    · obtain rfl : k = ms.length := by omega
      have hft : ms.take ms.length = ms := List.take_length
      rw [hft] at hbu
      clear hft
      have b1 : wr.cell? ⟨w.heap.size, 1, none⟩ = some (.slice A2 rs.length c2) := by rw [Lib.cell_of_heap hbox]; rfl
      have hlen0 := outHead_len head ms hh hm ms.length
      rw [List.take_length] at hlen0
      obtain ⟨wo, hwo⟩ : ∃ wo : World, wo = wr := ⟨_, rfl⟩
      subst hwo
      generalize hX : (ms.flatMap fun m => lineL (msgWs head m)) = X at *
      have HX := Lib.hid hX
      clear hX
      go_wp2_with fail
      go_loopw [34] (fun i wr => ∃ k : Nat, k ≤ rs.length ∧ i = .int .i64 k ∧ OutRel B b l (X ++ (rs.take k).flatMap fun r => lineL (repWs head r)) (.cells #[.slice A1 ms.length c1, .slice A2 rs.length c2] 41 (0, 0)) w wr) (fun i _ => rs.length - (intOf i).toNat)
      case atStart => exact ⟨0, Nat.zero_le _, rfl, by simpa using hbu, hbl, hbox⟩
      case round =>
        clear hbu hbl hbox b1
        obtain ⟨k, hk, rfl, hbu, hbl, hbox⟩ := hrel
        by_cases hlt : k < rs.length
        · obtain ⟨mb, mo, hA, hmb, hcs⟩ := (hrs.below hbl) k hlt
          cases hA
          have e0 := hcs 0 _ rfl
          have e1 := hcs 1 _ rfl
          have e2 := hcs 2 _ rfl
          have e3 := hcs 3 _ rfl
          rw [Nat.add_zero] at e0
          clear hcs
          have hrok := hr _ (List.getElem_mem hlt)
          generalize hx : rs[k] = x at *
          have hk0 := kindWordS_size x.kind hrok.1
          obtain ⟨u1, u2⟩ := hrok.2.2.1
          obtain ⟨u3, u4⟩ := hrok.2.2.2
          go_wp2_with fail
          have hbw : Below wr.heap.size wr (wr.alloc (.cells #[.int .i64 x.kind, .int .i64 x.proc, .int .u32 x.code, .int .u32 x.pc] 64)) := (Below.refl _ _).alloc (Nat.le_refl _) _
          have q0 : (wr.alloc (.cells #[.int .i64 x.kind, .int .i64 x.proc, .int .u32 x.code, .int .u32 x.pc] 64)).cell? ⟨wr.heap.size, 0, none⟩ = some (.int .i64 x.kind) := World.cell?_alloc_at _ _ _ _ rfl
          have q1 : (wr.alloc (.cells #[.int .i64 x.kind, .int .i64 x.proc, .int .u32 x.code, .int .u32 x.pc] 64)).cell? ⟨wr.heap.size, 1, none⟩ = some (.int .i64 x.proc) := World.cell?_alloc_at _ _ _ _ rfl
          have q2 : (wr.alloc (.cells #[.int .i64 x.kind, .int .i64 x.proc, .int .u32 x.code, .int .u32 x.pc] 64)).cell? ⟨wr.heap.size, 2, none⟩ = some (.int .u32 x.code) := World.cell?_alloc_at _ _ _ _ rfl
          have q3 : (wr.alloc (.cells #[.int .i64 x.kind, .int .i64 x.proc, .int .u32 x.code, .int .u32 x.pc] 64)).cell? ⟨wr.heap.size, 3, none⟩ = some (.int .u32 x.pc) := World.cell?_alloc_at _ _ _ _ rfl
          generalize wr.alloc (.cells #[.int .i64 x.kind, .int .i64 x.proc, .int .u32 x.code, .int .u32 x.pc] 64) = w0 at *
          have g0 := fun d os => cell_regrown q0 d os
          have g1 := fun d os => cell_regrown q1 d os
          have g2 := fun d os => cell_regrown q2 d os
          have g3 := fun d os => cell_regrown q3 d os
          refine Mix.wp_region_mix 21 [false, false, false, false, false, true, false, false, false, false, false, false, false, false, false, false, false, false, false, false, true] (by kernel_rfl) (by kernel_rfl) ?_
          simp only [List.take_succ_cons, List.take_zero, List.drop_succ_cons, List.drop_zero]
          repeat (refine Mix.wpMix_plain (fun K hK => ?_); go_simp; refine hK _ ?_; clear hK K)
          refine Mix.wpMix_chain (fun K hK hK' => ?_) (Mix.InB.drew _)
          go_simp
          have hz := hbl.size
          refine (kindWord_calls x.kind hrok.1 _ ((hT.up (hbl.trans (hbw.mono (by omega))) (Nat.le_refl _)) _ ((Below.refl _ _).drew))).mono ?_
          rintro e w1 ⟨rfl, hb1⟩
          have hbb : Below w0.heap.size w0 w1 := ((Below.refl _ _).drew).trans hb1
          refine hK _ _ hbb ?_
          clear hK hK' K
          repeat (refine Mix.wpMix_plain (fun K hK => ?_); go_simp; refine hK _ ?_; clear hK K)
          refine Mix.wpMix_chain (fun K hK hK' => ?_) hbb
          go_simp
          refine hK _ _ (hbb.alloc hbb.size _) (Mix.wpMix_nil ?_)
          clear hK hK' K
          have hbig : Below wr.heap.size wr w1 := hbw.trans (hbb.mono hbw.size)
          have hz1 := hbig.size
          have hlen := outTail_len head rs hh hr k
          have hwok := repWs_ok head x hh hrok
          go_wp2_with (go_at_call 7; refine (line_calls B b w1.heap.size 7 _ (repWs head x) _ (hbu.below (hbig.alloc hz1 _)) (by simp; omega) (hT.up ((hbl.trans (hbig.mono (by omega))).alloc (by omega) _) (Nat.le_refl _)) (by rw [List.length_append, List.length_append]; omega) (by simp [repWs]) hwok (heap_alloc_new _ _) (by omega)).mono ?_; rintro e w2 ⟨rfl, hbu2, hbl2, hkp2⟩)
          go_roundw
          case rel =>
            refine ⟨k + 1, by omega, by go_num, ?_, (hbl.trans ((hbig.mono (by omega)).alloc (by omega) _)).trans hbl2, ?_⟩
            · rw [List.take_succ_eq_append_getElem hlt, List.flatMap_append, ← List.append_assoc, ← List.append_assoc, hx, List.flatMap_cons, List.flatMap_nil, List.append_nil]
              rw [List.append_assoc] at hbu2
              simp only [List.append_assoc] at hbu2 ⊢
              exact hbu2.bu
            · refine hkp2 _ _ ?_ (fun e => by have := Option.some.inj e; omega) (fun cs fz e => by cases e)
              rw [(hbig.alloc hz1 _).block _ (Array.getElem?_eq_some_iff.1 hbox).1]
              exact hbox
          case measure => simp [intOf]; omega
        · obtain rfl : k = rs.length := by omega
          rw [List.take_length] at hbu
          go_wp2_with fail
          go_end0
          refine ⟨rfl, ?_, hbl⟩
          rw [outL, HX.out]
          exact hbu
end Go.Proofs.YtpknkifmjokhgaaDoor
