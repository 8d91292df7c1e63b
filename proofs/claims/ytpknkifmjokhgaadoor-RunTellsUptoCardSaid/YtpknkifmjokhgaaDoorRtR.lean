/- RunTells: the law's own body. -/
import Derived.Test.YtpknkifmjokhgaaDoorRtQ
import Derived.KernelRfl
set_option linter.unusedVariables false
set_option linter.unusedSimpArgs false
namespace Go.Proofs.YtpknkifmjokhgaaDoor
open Go Go.RowKit Go.Sort

theorem key_inj {o o' : OutD} (h : o.key = o'.key) : o.module = o'.module ∧ o.part = o'.part ∧ o.frame = o'.frame ∧ o.ms = o'.ms ∧ o.rs = o'.rs := by
  simpa [OutD.key] using h
theorem key_outLn {o o' : OutD} (h : o.key = o'.key) : outLn o = outLn o' := by
  obtain ⟨h1, h2, h3, h4, h5⟩ := key_inj h
  unfold outLn outHead
  rw [h1, h2, h3, h4, h5]
theorem keys_flat : ∀ {os os' : List OutD}, os'.map OutD.key = os.map OutD.key → os'.flatMap outLn = os.flatMap outLn
  | [], [], _ => rfl
  | [], _ :: _, h => by simp at h
  | _ :: _, [], h => by simp at h
  | o :: os, o' :: os', h => by
    simp only [List.map_cons, List.cons.injEq] at h
    rw [List.flatMap_cons, List.flatMap_cons, key_outLn h.1, keys_flat h.2]
theorem keys_lines : ∀ {os os' : List OutD}, os'.map OutD.key = os.map OutD.key → linesOf os' = linesOf os
  | [], [], _ => rfl
  | [], _ :: _, h => by simp at h
  | _ :: _, [], h => by simp at h
  | o :: os, o' :: os', h => by
    simp only [List.map_cons, List.cons.injEq] at h
    obtain ⟨_, _, _, h4, h5⟩ := key_inj h.1
    have := keys_lines h.2
    unfold linesOf at *
    rw [List.map_cons, List.map_cons, List.sum_cons, List.sum_cons, this, h4, h5]
theorem keys_ok {os os' : List OutD} (h : os'.map OutD.key = os.map OutD.key) (ho : ∀ o ∈ os, o.ok) : ∀ o ∈ os', o.ok := by
  intro o' ho'
  have : o'.key ∈ os.map OutD.key := by rw [← h]; exact List.mem_map_of_mem ho'
  obtain ⟨o, hm, he⟩ := List.mem_map.1 this
  obtain ⟨h1, h2, h3, h4, h5⟩ := key_inj he
  have := ho o hm
  unfold OutD.ok at *
  rw [h1, h2, h3, h4, h5] at this
  exact this
theorem keys_length {os os' : List OutD} (h : os'.map OutD.key = os.map OutD.key) : os'.length = os.length := by
  have := congrArg List.length h
  simpa using this
theorem keys_tell {os os' : List OutD} (h : os'.map OutD.key = os.map OutD.key) (n code msg : Int) (evs : List EvD) : tellL n code msg os' evs = tellL n code msg os evs := by
  unfold tellL
  rw [keys_flat h]

theorem tell_const : bs (tellL 3 0 0 [] []) = ⟨#[51, 32, 111, 107, 10]⟩ := by kernel_rfl

theorem tellK (w : World) (hT : TabB w.heap.size w) :
    Calls Tryd.prog 4 #[.int .i64 3, .agg #[.int .i64 0, .slice none 0 0, .slice none 0 0, .int .i64 0]] w fun e w' => e = .returned (.string ⟨#[51, 32, 111, 107, 10]⟩) ∧ Below w.heap.size w w' := by
  have h := tell_calls 3 0 0 none none 0 0 [] [] w hT ⟨by decide, by decide⟩ ⟨by decide, by decide⟩ ⟨by decide, by decide⟩ (by decide) (fun o ho => by cases ho) (fun e he => by cases he) (by decide) (by decide)
    (fun k hk => absurd hk (by simp)) (fun o ho => by cases ho) (fun k hk => absurd hk (by simp))
  rw [tell_const] at h
  exact h

set_option maxHeartbeats 1000000 in
theorem law_calls (n code msg : Int) (AO AE : Option Addr) (cO cE : Nat) (outs : List OutD) (evs : List EvD) (w : World) (hT : TabB w.heap.size w) (hn : I64 n) (hcd : I64 code) (hmg : I64 msg)
    (hl : (linesOf outs + evs.length + 2) * 33554432 ≤ 70368744177664) (ho : ∀ o ∈ outs, o.ok) (he : ∀ e ∈ evs, e.ok) (hol : outs.length ≤ 1048576) (hel : evs.length ≤ 1048576)
    (hln : ∀ o ∈ outs, o.ms.length ≤ 1048576 ∧ o.rs.length ≤ 1048576)
    (hos : RowsAt OutD.cs 5 w w.heap.size AO outs) (hoa : ∀ o ∈ outs, o.at_ w w.heap.size) (hes : RowsAt EvD.cs 3 w w.heap.size AE evs) :
    Calls Tryd.prog 3 #[.int .i64 n, .agg #[.int .i64 code, .slice AO outs.length cO, .slice AE evs.length cE, .int .i64 msg]] w fun e w' => e = .returned (.bool true) ∧ Below w.heap.size w w' := by
  go_enter Tryd.func3, Tryd.ntmps3
  go_wp2_with fail
  have hb0 : Below w.heap.size w (w.alloc (.cells #[.int .i64 code, .slice AO outs.length cO, .slice AE evs.length cE, .int .i64 msg] 25)) := (Below.refl _ _).alloc (Nat.le_refl _) _
  have Z0 : Blk (w.alloc (.cells #[.int .i64 code, .slice AO outs.length cO, .slice AE evs.length cE, .int .i64 msg] 25)) w.heap.size #[.int .i64 code, .slice AO outs.length cO, .slice AE evs.length cE, .int .i64 msg] 25 := Blk.new _ _ _
  have S0 : (w.alloc (.cells #[.int .i64 code, .slice AO outs.length cO, .slice AE evs.length cE, .int .i64 msg] 25)).heap.size = w.heap.size + 1 := by simp
  generalize w.alloc (.cells #[.int .i64 code, .slice AO outs.length cO, .slice AE evs.length cE, .int .i64 msg] 25) = w0 at *
  have g0 := fun d os => cell_regrown (Z0.cell 0 _ rfl) d os
  have g1 := fun d os => cell_regrown (Z0.cell 1 _ rfl) d os
  have g2 := fun d os => cell_regrown (Z0.cell 2 _ rfl) d os
  have g3 := fun d os => cell_regrown (Z0.cell 3 _ rfl) d os
  refine Mix.wp_region_mix 12 [false, true, false, false, false, false, true, true, false, false, true, false] (by kernel_rfl) (by kernel_rfl) ?_
  simp only [List.take_succ_cons, List.take_zero, List.drop_succ_cons, List.drop_zero]
  repeat (refine Mix.wpMix_plain (fun K hK => ?_); go_simp; refine hK _ ?_; clear hK K)
  refine Mix.wpMix_chain (fun K hK hK' => ?_) (Mix.InB.drew _)
  go_simp
  have hT0 : TabB w0.heap.size w0 := hT.up hb0 (by omega)
  have hTd : TabB w0.drew.heap.size w0.drew := hT0.up ((Below.refl _ _).drew) (Nat.le_refl _)
  refine (tellK w0.drew hTd).mono ?_
  rintro e w1 ⟨rfl, hb1⟩
  have hI1 : Below w0.heap.size w0 w1 := ((Below.refl _ _).drew).trans hb1
  have hz1 := hI1.size
  refine hK _ _ hI1 ?_
  clear hK hK' K
  repeat (refine Mix.wpMix_plain (fun K hK => ?_); go_simp; refine hK _ ?_; clear hK K)
  refine Mix.wpMix_chain (fun K hK hK' => ?_) hI1
  go_simp
  have hos1 := (hos.below (hb0.trans (hI1.mono (by omega)))).mono (show w.heap.size ≤ w1.heap.size by omega)
  have hes1 := (hes.below (hb0.trans (hI1.mono (by omega)))).mono (show w.heap.size ≤ w1.heap.size by omega)
  have hoa1 : ∀ o ∈ outs, o.at_ w1 w1.heap.size := fun o ho => ⟨((hoa o ho).1.below (hb0.trans (hI1.mono (by omega)))).mono (by omega), ((hoa o ho).2.below (hb0.trans (hI1.mono (by omega)))).mono (by omega)⟩
  refine (copy_calls code msg AO AE cO cE outs evs w1 hol hel hln hos1 hoa1 hes1).mono ?_
  rintro e w2 ⟨outs', AO', AE', cO', cE', rfl, hkeys, hos2, hoa2, hes2, hb2⟩
  have hI2 : Below w0.heap.size w0 w2 := hI1.trans (hb2.mono hI1.size)
  have hz2 := hI2.size
  have HKy := Lib.hid hkeys
  have HL := Lib.hid (keys_length hkeys)
  clear hkeys
  refine hK _ _ hI2 ?_
  clear hK hK' K
  refine Mix.wpMix_chain (fun K hK hK' => ?_) hI2
  go_simp
  have hT2 : TabB w2.heap.size w2 := hT0.up hI2 hz2
  have ht := tell_calls n code msg AO' AE' cO' cE' outs' evs w2 hT2 hn hcd hmg (by rw [keys_lines HKy.out]; exact hl) (keys_ok HKy.out ho) he (by rw [HL.out]; omega) (by omega) hos2 hoa2 hes2
  rw [HL.out, keys_tell HKy.out] at ht
  refine ht.mono ?_
  rintro e w3 ⟨rfl, hb3⟩
  have hI3 : Below w0.heap.size w0 w3 := hI2.trans (hb3.mono hI2.size)
  have hz3 := hI3.size
  refine hK _ _ hI3 ?_
  clear hK hK' K
  repeat (refine Mix.wpMix_plain (fun K hK => ?_); go_simp; refine hK _ ?_; clear hK K)
  refine Mix.wpMix_chain (fun K hK hK' => ?_) hI3
  go_simp
  have hos3 := (hos.below (hb0.trans (hI3.mono (by omega)))).mono (show w.heap.size ≤ w3.heap.size by omega)
  have hes3 := (hes.below (hb0.trans (hI3.mono (by omega)))).mono (show w.heap.size ≤ w3.heap.size by omega)
  have hoa3 : ∀ o ∈ outs, o.at_ w3 w3.heap.size := fun o ho => ⟨((hoa o ho).1.below (hb0.trans (hI3.mono (by omega)))).mono (by omega), ((hoa o ho).2.below (hb0.trans (hI3.mono (by omega)))).mono (by omega)⟩
  refine (ref_tell_calls n code msg AO AE cO cE outs evs w3 hn hcd hmg hl ho he (by omega) (by omega) hos3 hoa3 hes3).mono ?_
  rintro e w4 ⟨rfl, hb4⟩
  have hI4 : Below w0.heap.size w0 w4 := hI3.trans (hb4.mono hI3.size)
  refine hK _ _ hI4 ?_
  clear hK hK' K
  repeat (refine Mix.wpMix_plain (fun K hK => ?_); go_simp; refine hK _ ?_; clear hK K)
  refine Mix.wpMix_nil ?_
  generalize bs (tellL n code msg outs evs) = X at *
  go_wp2_with fail
  go_ret
  exact ⟨rfl, hb0.trans (hI4.mono (by omega))⟩
end Go.Proofs.YtpknkifmjokhgaaDoor
