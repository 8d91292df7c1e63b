/- copyAnswer, walked. -/
import Derived.Test.YtpknkifmjokhgaaDoorRtP0
import Derived.Maps.AppendAt
set_option linter.unusedVariables false
set_option linter.unusedSimpArgs false
namespace Go.Proofs.YtpknkifmjokhgaaDoor
open Go Go.RowKit Go.Sort

set_option maxHeartbeats 1200000 in
theorem copy_calls (code msg : Int) (AO AE : Option Addr) (cO cE : Nat) (outs : List OutD) (evs : List EvD) (w : World) (hol : outs.length ≤ 1048576) (hel : evs.length ≤ 1048576)
    (hln : ∀ o ∈ outs, o.ms.length ≤ 1048576 ∧ o.rs.length ≤ 1048576)
    (hos : RowsAt OutD.cs 5 w w.heap.size AO outs) (hoa : ∀ o ∈ outs, o.at_ w w.heap.size) (hes : RowsAt EvD.cs 3 w w.heap.size AE evs) :
    Calls Tryd.prog 5 #[.agg #[.int .i64 code, .slice AO outs.length cO, .slice AE evs.length cE, .int .i64 msg]] w fun e w' => ∃ (outs' : List OutD) (AO' AE' : Option Addr) (cO' cE' : Nat),
      e = .returned (.agg #[.int .i64 code, .slice AO' outs.length cO', .slice AE' evs.length cE', .int .i64 msg]) ∧ outs'.map OutD.key = outs.map OutD.key ∧
      RowsAt OutD.cs 5 w' w'.heap.size AO' outs' ∧ (∀ o ∈ outs', o.at_ w' w'.heap.size) ∧ RowsAt EvD.cs 3 w' w'.heap.size AE' evs ∧ Below w.heap.size w w' := by
  have X2 : ((w.alloc (.cells #[.int .i64 code, .slice AO outs.length cO, .slice AE evs.length cE, .int .i64 msg] 25)).alloc (.cells #[.int .i64 0, .slice none 0 0, .slice none 0 0, .int .i64 0] 25)).heap[w.heap.size]? = some (.cells #[.int .i64 code, .slice AO outs.length cO, .slice AE evs.length cE, .int .i64 msg] 25 (0, 0)) := by
    rw [Lib.alloc_old _ _ _ (by simp)]; exact heap_alloc_new _ _
  have Y2 : ((w.alloc (.cells #[.int .i64 code, .slice AO outs.length cO, .slice AE evs.length cE, .int .i64 msg] 25)).alloc (.cells #[.int .i64 0, .slice none 0 0, .slice none 0 0, .int .i64 0] 25)).heap[w.heap.size + 1]? = some (.cells #[.int .i64 0, .slice none 0 0, .slice none 0 0, .int .i64 0] 25 (0, 0)) := by
    have := heap_alloc_new (w.alloc (.cells #[.int .i64 code, .slice AO outs.length cO, .slice AE evs.length cE, .int .i64 msg] 25)) (.cells #[.int .i64 0, .slice none 0 0, .slice none 0 0, .int .i64 0] 25)
    simpa using this
  have B2 : Below w.heap.size w ((w.alloc (.cells #[.int .i64 code, .slice AO outs.length cO, .slice AE evs.length cE, .int .i64 msg] 25)).alloc (.cells #[.int .i64 0, .slice none 0 0, .slice none 0 0, .int .i64 0] 25)) := ((Below.refl _ _).alloc (Nat.le_refl _) _).alloc (by simp) _
  have S2 : ((w.alloc (.cells #[.int .i64 code, .slice AO outs.length cO, .slice AE evs.length cE, .int .i64 msg] 25)).alloc (.cells #[.int .i64 0, .slice none 0 0, .slice none 0 0, .int .i64 0] 25)).heap.size = w.heap.size + 2 := by simp
  go_enter Tryd.func5, Tryd.ntmps5
  go_wp2
  generalize (w.alloc (.cells #[.int .i64 code, .slice AO outs.length cO, .slice AE evs.length cE, .int .i64 msg] 25)).alloc (.cells #[.int .i64 0, .slice none 0 0, .slice none 0 0, .int .i64 0] 25) = w2 at *
  have b0 : w2.cell? ⟨w.heap.size, 0, none⟩ = some (.int .i64 code) := by rw [Lib.cell_of_heap X2]; rfl
  have b2 : w2.cell? ⟨w.heap.size, 2, none⟩ = some (.slice AE evs.length cE) := by rw [Lib.cell_of_heap X2]; rfl
  have b3 : w2.cell? ⟨w.heap.size, 3, none⟩ = some (.int .i64 msg) := by rw [Lib.cell_of_heap X2]; rfl
  have hes2 : RowsAt EvD.cs 3 w2 w2.heap.size AE evs := (hes.below B2).mono (by omega)
  have R2 : Below w2.heap.size w2 w2 := Below.refl _ _
  have hlt2 : w.heap.size < w2.heap.size := by omega
  have hle2 : w2.heap.size ≤ w2.heap.size := Nat.le_refl _
  refine Code.wp_mono (Q := fun e a W => ∃ (G : Nat) (p AE' : Option Addr) (cE' : Nat), e = .normal ∧ a = { tmps := #[.agg #[.int .i64 code, .slice AO outs.length cO, .slice AE evs.length cE, .int .i64 msg], .pointer (some ⟨w.heap.size, 0, none⟩), .pointer (some ⟨w.heap.size + 1, 0, none⟩), .pointer (some ⟨G, 0, none⟩), undef, undef, .pointer (some ⟨w.heap.size, 0, none⟩), .int .i64 code, .pointer (some ⟨w.heap.size, 3, none⟩), .int .i64 msg, .slice p 0 0, .pointer (some ⟨w.heap.size, 2, none⟩), .slice AE evs.length cE, .slice AE' evs.length cE', .agg #[.int .i64 code, .slice none 0 0, .slice AE' evs.length cE', .int .i64 msg], undef, undef, undef, undef, undef, undef, undef, undef, undef, undef, undef, undef, undef, undef, undef, undef, undef, undef, undef, undef, undef, undef, undef, undef, undef, undef, undef], defers := [] } ∧ w2.heap.size ≤ G ∧ Blk W G #[.int .i64 code, .slice none 0 0, .slice AE' evs.length cE', .int .i64 msg] 25 ∧ Rob EvD.cs 3 W (fun b => b < w2.heap.size ∨ b = G) AE' evs ∧ Below w2.heap.size w2 W) ?_ ?_
  · rintro e a W ⟨G, p, AE', cE', rfl, rfl, hGlo, hGb, hEv, hBl⟩
    have hGhi : G < W.heap.size := (Array.getElem?_eq_some_iff.1 hGb).1
    have b1 : W.cell? ⟨w.heap.size, 1, none⟩ = some (.slice AO outs.length cO) := by rw [hBl.cell hlt2, Lib.cell_of_heap X2]; rfl
    go_wp2_with fail
    go_loopw [18] (fun i wr => ∃ (k : Nat) (vO : Value) (os' : List OutD), k ≤ outs.length ∧ i = .int .i64 k ∧ os'.map OutD.key = (outs.take k).map OutD.key ∧ CInv w2 W.heap.size G code (.slice AE' evs.length cE') msg AE' evs wr vO os') (fun i _ => outs.length - (intOf i).toNat)
    case atStart => exact ⟨0, .slice none 0 0, [], Nat.zero_le _, rfl, rfl, hGb, World.ownsRow_nil _ _ _ _, fun o ho => (by cases ho), hEv.step (Off.refl _ _) (Nat.le_refl _) (fun b _ h => by rcases h with h | h | h; exact .inl h; exact .inr h; cases h), hBl, Nat.le_refl _⟩
    case round =>
      obtain ⟨k, vO, os', hk, rfl, hkey, hI⟩ := hrel
      have hGb := hI.blk
      have hBl := hI.bel
      have hWz := hI.size
      by_cases hlt : k < outs.length
      · obtain ⟨mb, mo, hA, hmb, hcs⟩ := (hos.below (B2.trans (hBl.mono (by omega)))) k hlt
        cases hA
        have e0 := hcs 0 _ rfl
        have e1 := hcs 1 _ rfl
        have e2 := hcs 2 _ rfl
        have e3 := hcs 3 _ rfl
        have e4 := hcs 4 _ rfl
        rw [Nat.add_zero] at e0
        clear hcs
        have hoat := hoa _ (List.getElem_mem hlt)
        have hlx := hln _ (List.getElem_mem hlt)
        generalize hx : outs[k] = x at *
        go_wp2_with fail
        have hbw : Below wr.heap.size wr (wr.alloc (.cells #[.int .i64 x.module, .int .i64 x.part, .int .i64 x.frame, .slice x.A1 x.ms.length x.c1, .slice x.A2 x.rs.length x.c2] 43)) := (Below.refl _ _).alloc (Nat.le_refl _) _
        have Z0 : Blk (wr.alloc (.cells #[.int .i64 x.module, .int .i64 x.part, .int .i64 x.frame, .slice x.A1 x.ms.length x.c1, .slice x.A2 x.rs.length x.c2] 43)) wr.heap.size #[.int .i64 x.module, .int .i64 x.part, .int .i64 x.frame, .slice x.A1 x.ms.length x.c1, .slice x.A2 x.rs.length x.c2] 43 := Blk.new _ _ _
        have S0 : (wr.alloc (.cells #[.int .i64 x.module, .int .i64 x.part, .int .i64 x.frame, .slice x.A1 x.ms.length x.c1, .slice x.A2 x.rs.length x.c2] 43)).heap.size = wr.heap.size + 1 := by simp
        generalize wr.alloc (.cells #[.int .i64 x.module, .int .i64 x.part, .int .i64 x.frame, .slice x.A1 x.ms.length x.c1, .slice x.A2 x.rs.length x.c2] 43) = w0 at *
        have hms0 : RowsAt MsgD.cs 2 w0 w0.heap.size x.A1 x.ms := (hoat.1.below ((B2.trans (hBl.mono (by omega))).trans (hbw.mono (by have := hBl.size; omega)))).mono (by have := hBl.size; omega)
        have hrs0 : RowsAt RepD.cs 4 w0 w0.heap.size x.A2 x.rs := (hoat.2.below ((B2.trans (hBl.mono (by omega))).trans (hbw.mono (by have := hBl.size; omega)))).mono (by have := hBl.size; omega)
        refine Mix.wp_region_K 10 [[], [], [1], [1, 2], [0, 1, 2, 3], [], [], [6], [6, 7], [0, 1, 2, 3, 4, 5, 6, 7, 8]]
          (fun i vs W => match i with
            | 0 => ∃ p, vs 0 = .slice p 0 0
            | 1 => vs 1 = .pointer (some ⟨wr.heap.size, 3, none⟩)
            | 2 => vs 2 = .pointer (some ⟨wr.heap.size, 3, none⟩)
            | 3 => vs 3 = .slice x.A1 x.ms.length x.c1
            | 4 => ∃ A c, vs 4 = .slice A x.ms.length c ∧ Rob MsgD.cs 2 W (fun b => b < w0.heap.size) A x.ms
            | 5 => ∃ p, vs 5 = .slice p 0 0
            | 6 => vs 6 = .pointer (some ⟨wr.heap.size, 3, none⟩)
            | 7 => vs 7 = .pointer (some ⟨wr.heap.size, 4, none⟩)
            | 8 => vs 8 = .slice x.A2 x.rs.length x.c2
            | 9 => ∃ A c, vs 9 = .slice A x.rs.length c ∧ Rob RepD.cs 4 W (fun b => b < w0.heap.size) A x.rs
            | _ => True) (by kernel_rfl) (by kernel_rfl) (by kernel_rfl) ?_ ?_ ?_ ?_
        · intro i hi vs W W' hb h
          match i, hi, h with
          | 4, _, h => obtain ⟨A, c, h1, h2⟩ := h; exact ⟨A, c, h1, h2.step (fun b hb' _ => hb.block b hb') hb.size (fun _ _ h => h)⟩
          | 9, _, h => obtain ⟨A, c, h1, h2⟩ := h; exact ⟨A, c, h1, h2.step (fun b hb' _ => hb.block b hb') hb.size (fun _ _ h => h)⟩
          | 0, _, h => exact h
          | 1, _, h => exact h
          | 2, _, h => exact h
          | 3, _, h => exact h
          | 5, _, h => exact h
          | 6, _, h => exact h
          | 7, _, h => exact h
          | 8, _, h => exact h
          | n + 10, hi, _ => omega
        · intro i hi vs vs' W heq h
          match i, hi, h, heq with
          | 0, _, h, heq => obtain ⟨p, h⟩ := h; exact ⟨p, (heq 0 (by decide)).symm.trans h⟩
          | 5, _, h, heq => obtain ⟨p, h⟩ := h; exact ⟨p, (heq 5 (by decide)).symm.trans h⟩
          | 4, _, h, heq => obtain ⟨A, c, h1, h2⟩ := h; exact ⟨A, c, (heq 4 (by decide)).symm.trans h1, h2⟩
          | 9, _, h, heq => obtain ⟨A, c, h1, h2⟩ := h; exact ⟨A, c, (heq 9 (by decide)).symm.trans h1, h2⟩
          | 1, _, h, heq => exact (heq 1 (by decide)).symm.trans h
          | 2, _, h, heq => exact (heq 2 (by decide)).symm.trans h
          | 3, _, h, heq => exact (heq 3 (by decide)).symm.trans h
          | 6, _, h, heq => exact (heq 6 (by decide)).symm.trans h
          | 7, _, h, heq => exact (heq 7 (by decide)).symm.trans h
          | 8, _, h, heq => exact (heq 8 (by decide)).symm.trans h
          | n + 10, hi, _, _ => omega
        · intro i hi o ho vs W hW hpr K hK
          match i, hi with
          | 0, _ =>
            cases ho
            simp only [Mix.putsOf, List.getD_cons_zero, List.getD_cons_succ, List.getElem?_toArray, List.getElem?_cons_zero, List.getElem?_cons_succ] at hK ⊢
            go_simp
            exact hK (.slice (some ⟨W.heap.size, 0, none⟩) 0 0) _ ((Below.refl _ _).alloc (Nat.le_refl _) _) ⟨_, Mix.upd_self _ _ _⟩
          | 1, _ =>
            cases ho
            simp only [Mix.putsOf, List.getD_cons_zero, List.getD_cons_succ, List.getElem?_toArray, List.getElem?_cons_zero, List.getElem?_cons_succ] at hK ⊢
            go_simp
            exact hK (.pointer (some ⟨wr.heap.size, 3, none⟩)) _ (Below.refl _ _) (Mix.upd_self _ _ _)
          | 2, _ =>
            cases ho
            have d : vs 1 = .pointer (some ⟨wr.heap.size, 3, none⟩) := hpr 1 (by decide)
            simp only [Mix.putsOf, List.getD_cons_zero, List.getD_cons_succ, List.getElem?_toArray, List.getElem?_cons_zero, List.getElem?_cons_succ] at hK ⊢
            simp only [d] at hK ⊢
            go_simp
            exact hK (.pointer (some ⟨wr.heap.size, 3, none⟩)) _ (Below.refl _ _) (Mix.upd_self _ _ _)
          | 3, _ =>
            cases ho
            have d : vs 2 = .pointer (some ⟨wr.heap.size, 3, none⟩) := hpr 2 (by decide)
            have c := (hW.cell (p := ⟨wr.heap.size, 3, none⟩) (show _ < _ by dsimp only; omega)).trans (Z0.cell 3 _ rfl)
            simp only [Mix.putsOf, List.getD_cons_zero, List.getD_cons_succ, List.getElem?_toArray, List.getElem?_cons_zero, List.getElem?_cons_succ] at hK ⊢
            simp only [d] at hK ⊢
            go_simp
            exact hK (.slice x.A1 x.ms.length x.c1) _ (Below.refl _ _) (Mix.upd_self _ _ _)
          | 4, _ =>
            cases ho
            obtain ⟨pp, d⟩ : ∃ p, vs 0 = .slice p 0 0 := hpr 0 (by decide)
            have d2 : vs 3 = .slice x.A1 x.ms.length x.c1 := hpr 3 (by decide)
            simp only [Mix.putsOf, List.getD_cons_zero, List.getD_cons_succ, List.getElem?_toArray, List.getElem?_cons_zero, List.getElem?_cons_succ] at hK ⊢
            simp only [d, d2] at hK ⊢
            refine wp_appendE (w := W) (.tmp 22) (.tmp 25) 38 60 (by rfl) MsgD.cs 2 24 info60 Tryd.underlying38 MsgD.len (by decide) MsgD.one w0.heap.size pp (by rfl) x.ms x.A1 x.c1 (by rfl) (hms0.below hW) (by have := hlx.1; omega) (by decide) (fun A1 c1 w1 hr hb => hK _ _ hb ⟨A1, c1, Mix.upd_self _ _ _, hr.step (Off.refl _ _) (Nat.le_refl _) (fun b _ h => Nat.lt_of_lt_of_le h hW.size)⟩)
          | 5, _ =>
            cases ho
            simp only [Mix.putsOf, List.getD_cons_zero, List.getD_cons_succ, List.getElem?_toArray, List.getElem?_cons_zero, List.getElem?_cons_succ] at hK ⊢
            go_simp
            exact hK (.slice (some ⟨W.heap.size, 0, none⟩) 0 0) _ ((Below.refl _ _).alloc (Nat.le_refl _) _) ⟨_, Mix.upd_self _ _ _⟩
          | 6, _ =>
            cases ho
            simp only [Mix.putsOf, List.getD_cons_zero, List.getD_cons_succ, List.getElem?_toArray, List.getElem?_cons_zero, List.getElem?_cons_succ] at hK ⊢
            go_simp
            exact hK (.pointer (some ⟨wr.heap.size, 3, none⟩)) _ (Below.refl _ _) (Mix.upd_self _ _ _)
          | 7, _ =>
            cases ho
            have d : vs 6 = .pointer (some ⟨wr.heap.size, 3, none⟩) := hpr 6 (by decide)
            simp only [Mix.putsOf, List.getD_cons_zero, List.getD_cons_succ, List.getElem?_toArray, List.getElem?_cons_zero, List.getElem?_cons_succ] at hK ⊢
            simp only [d] at hK ⊢
            go_simp
            exact hK (.pointer (some ⟨wr.heap.size, 4, none⟩)) _ (Below.refl _ _) (Mix.upd_self _ _ _)
          | 8, _ =>
            cases ho
            have d : vs 7 = .pointer (some ⟨wr.heap.size, 4, none⟩) := hpr 7 (by decide)
            have c := (hW.cell (p := ⟨wr.heap.size, 4, none⟩) (show _ < _ by dsimp only; omega)).trans (Z0.cell 4 _ rfl)
            simp only [Mix.putsOf, List.getD_cons_zero, List.getD_cons_succ, List.getElem?_toArray, List.getElem?_cons_zero, List.getElem?_cons_succ] at hK ⊢
            simp only [d] at hK ⊢
            go_simp
            exact hK (.slice x.A2 x.rs.length x.c2) _ (Below.refl _ _) (Mix.upd_self _ _ _)
          | 9, _ =>
            cases ho
            obtain ⟨pp, d⟩ : ∃ p, vs 5 = .slice p 0 0 := hpr 5 (by decide)
            have d2 : vs 8 = .slice x.A2 x.rs.length x.c2 := hpr 8 (by decide)
            simp only [Mix.putsOf, List.getD_cons_zero, List.getD_cons_succ, List.getElem?_toArray, List.getElem?_cons_zero, List.getElem?_cons_succ] at hK ⊢
            simp only [d, d2] at hK ⊢
            simp only [Act.put, List.setIfInBounds_toArray, List.set_cons_zero, List.set_cons_succ] at hK ⊢
            refine wp_appendE (w := W) (.tmp 27) (.tmp 30) 39 64 (by rfl) RepD.cs 4 24 info64 Tryd.underlying39 RepD.len (by decide) RepD.one w0.heap.size pp (by rfl) x.rs x.A2 x.c2 (by rfl) (hrs0.below hW) (by have := hlx.2; omega) (by decide) (fun A1 c1 w1 hr hb => hK _ _ hb ⟨A1, c1, Mix.upd_self _ _ _, hr.step (Off.refl _ _) (Nat.le_refl _) (fun b _ h => Nat.lt_of_lt_of_le h hW.size)⟩)
          | n + 10, hi => omega
        · intro vs W5 hW hR
          obtain ⟨p1, v0⟩ : ∃ p, vs 0 = .slice p 0 0 := hR 0 (by decide)
          have v1 : vs 1 = .pointer (some ⟨wr.heap.size, 3, none⟩) := hR 1 (by decide)
          have v2 : vs 2 = .pointer (some ⟨wr.heap.size, 3, none⟩) := hR 2 (by decide)
          have v3 : vs 3 = .slice x.A1 x.ms.length x.c1 := hR 3 (by decide)
          obtain ⟨A1', c1', v4, hm1⟩ : ∃ A c, vs 4 = .slice A x.ms.length c ∧ Rob MsgD.cs 2 W5 (fun b => b < w0.heap.size) A x.ms := hR 4 (by decide)
          obtain ⟨p2, v5⟩ : ∃ p, vs 5 = .slice p 0 0 := hR 5 (by decide)
          have v6 : vs 6 = .pointer (some ⟨wr.heap.size, 3, none⟩) := hR 6 (by decide)
          have v7 : vs 7 = .pointer (some ⟨wr.heap.size, 4, none⟩) := hR 7 (by decide)
          have v8 : vs 8 = .slice x.A2 x.rs.length x.c2 := hR 8 (by decide)
          obtain ⟨A2', c2', v9, hm2⟩ : ∃ A c, vs 9 = .slice A x.rs.length c ∧ Rob RepD.cs 4 W5 (fun b => b < w0.heap.size) A x.rs := hR 9 (by decide)
          clear hR
          have hr10 : List.range 10 = [0, 1, 2, 3, 4, 5, 6, 7, 8, 9] := rfl
          rw [hr10]
          simp only [Mix.putsOf, List.getElem?_toArray, List.getElem?_cons_zero, List.getElem?_cons_succ]
          simp only [Act.put, List.setIfInBounds_toArray, List.set_cons_zero, List.set_cons_succ, v0, v1, v2, v3, v4, v5, v6, v7, v8, v9, List.drop_succ_cons, List.drop_zero]
          have Z5 : Blk W5 wr.heap.size #[.int .i64 x.module, .int .i64 x.part, .int .i64 x.frame, .slice x.A1 x.ms.length x.c1, .slice x.A2 x.rs.length x.c2] 43 := Blk.below Z0 hW (by omega)
          have g0 := Z5.cell 0 _ rfl
          have g1 := Z5.cell 1 _ rfl
          have g2 := Z5.cell 2 _ rfl
          have g3 := Z5.cell 3 _ rfl
          have g4 := Z5.cell 4 _ rfl
          have f3 := Z5.fz 3
          have f4 := Z5.fz 4
          have hGW : Blk W5 G #[.int .i64 code, vO, .slice AE' evs.length cE', .int .i64 msg] 25 := Blk.below (Blk.below hGb hbw (by omega)) hW (by omega)
          have k1 := hGW.cell 1 _ rfl
          have hgz := keys_len hkey hk
          have HO := Lib.hid (hI.ownAt hbw S0 hW (.slice A1' x.ms.length c1') (.slice A2' x.rs.length c2') #[.int .i64 x.module, .int .i64 x.part, .int .i64 x.frame, .slice A1' x.ms.length c1', .slice A2' x.rs.length c2'])
          obtain ⟨i43, z43, hi43, hz43, h43a, h43b, h43c⟩ := info43.ex
          have HN : Hid (∀ j u, (OutD.cs ⟨x.module, x.part, x.frame, A1', c1', x.ms, A2', c2', x.rs⟩)[j]? = some u → (((W5.setCell ⟨wr.heap.size, 3, none⟩ (.slice A1' x.ms.length c1')).setCell ⟨wr.heap.size, 4, none⟩ (.slice A2' x.rs.length c2')).alloc (.cells #[.int .i64 x.module, .int .i64 x.part, .int .i64 x.frame, .slice A1' x.ms.length c1', .slice A2' x.rs.length c2'] 43)).cell? ((⟨W5.heap.size, 0, none⟩ : Addr).add j) = some u) := by
            intro j u hj
            rw [Addr.add_lit, Nat.zero_add, World.cell?_alloc_at _ _ _ _ (by simp), List.getElem?_toArray]
            exact hj
          have N1 : os'.length + 1 ≤ maxLen := by unfold maxLen; omega
          have N2 : (os'.length + 1) * 72 ≤ 140737488355328 := by omega
          have N3 : W.heap.size ≤ (((W5.setCell ⟨wr.heap.size, 3, none⟩ (.slice A1' x.ms.length c1')).setCell ⟨wr.heap.size, 4, none⟩ (.slice A2' x.rs.length c2')).alloc (.cells #[.int .i64 x.module, .int .i64 x.part, .int .i64 x.frame, .slice A1' x.ms.length c1', .slice A2' x.rs.length c2'] 43)).heap.size := by simp; have := hW.size; omega
          have HGZ := Lib.hid hgz
          clear hgz
          have tok : True := trivial
          go_wp2_with (at_builtin; have _t := tok; clear tok; refine wpList_append_own_at _ rfl (.tmp 35) (.tmp 37) 22 rfl W.heap.size 43 i43 z43 5 72 Tryd.underlying22 hi43 hz43 h43a h43b h43c (by decide) vO os'.length _ rfl HO.out ⟨W5.heap.size, 0, none⟩ 1 1 (OutD.cs ⟨x.module, x.part, x.frame, A1', c1', x.ms, A2', c2', x.rs⟩) rfl rfl HN.out (OutD.one _) N1 N2 N3 ?_; intro v' w1 hown1 hgrow1 hnil1 hat1; obtain ⟨Av, cv, rfl⟩ := own_slice hown1; have HA := Lib.hid hat1; clear hat1 hnil1; have hG1 := hI.blkAt hbw S0 hW _ _ _ hGhi hgrow1; have gc := hG1.cell 1 _ rfl; have gf := hG1.fz 1)
          go_roundw
          case rel => exact ⟨k + 1, _, os' ++ [⟨x.module, x.part, x.frame, A1', c1', x.ms, A2', c2', x.rs⟩], by omega, by go_num, keys_snoc hkey hlt hx rfl, hI.step hbw S0 hW _ _ _ hGlo hGhi _ hm1 hm2 hown1 hgrow1 HA.out⟩
          case measure => simp [intOf]; omega
      · have hkl := keys_len hkey hk
        obtain ⟨Av, cv, rfl⟩ := own_slice hI.own
        have c0 := hGb.cell 0 _ rfl
        have c1 := hGb.cell 1 _ rfl
        have c2 := hGb.cell 2 _ rfl
        have c3 := hGb.cell 3 _ rfl
        have Y9 : Blk wr (w.heap.size + 1) #[.int .i64 0, .slice none 0 0, .slice none 0 0, .int .i64 0] 25 := Blk.below (show Blk w2 _ _ _ from Y2) hBl (by omega)
        have r0 := Y9.cell 0 _ rfl
        have r1 := Y9.cell 1 _ rfl
        have r2 := Y9.cell 2 _ rfl
        have r3 := Y9.cell 3 _ rfl
        have f0 := Y9.fz 0
        have f1 := Y9.fz 1
        have f2 := Y9.fz 2
        have f3 := Y9.fz 3
        have hkeq : os'.length = outs.length := by
          have h1 : ¬ k < outs.length := hlt
          omega
        have HE := Lib.hid hkeq
        clear hkeq hkl
        go_wp2_with fail
        have hsz : ((((wr.setCell ⟨w.heap.size + 1, 0, none⟩ (.int .i64 code)).setCell ⟨w.heap.size + 1, 1, none⟩ (.slice Av os'.length cv)).setCell ⟨w.heap.size + 1, 2, none⟩ (.slice AE' evs.length cE')).setCell ⟨w.heap.size + 1, 3, none⟩ (.int .i64 msg)).heap.size = wr.heap.size := by simp
        have hot : ∀ b, b ≠ w.heap.size + 1 → ((((wr.setCell ⟨w.heap.size + 1, 0, none⟩ (.int .i64 code)).setCell ⟨w.heap.size + 1, 1, none⟩ (.slice Av os'.length cv)).setCell ⟨w.heap.size + 1, 2, none⟩ (.slice AE' evs.length cE')).setCell ⟨w.heap.size + 1, 3, none⟩ (.int .i64 msg)).heap[b]? = wr.heap[b]? := fun b hb => by
          rw [heap_setCell_other _ _ _ _ hb, heap_setCell_other _ _ _ _ hb, heap_setCell_other _ _ _ _ hb, heap_setCell_other _ _ _ _ hb]
        have hB9 : Below w.heap.size w ((((wr.setCell ⟨w.heap.size + 1, 0, none⟩ (.int .i64 code)).setCell ⟨w.heap.size + 1, 1, none⟩ (.slice Av os'.length cv)).setCell ⟨w.heap.size + 1, 2, none⟩ (.slice AE' evs.length cE')).setCell ⟨w.heap.size + 1, 3, none⟩ (.int .i64 msg)) := ((((B2.trans (hBl.mono (by omega))).setCell (Nat.le_succ _) _).setCell (Nat.le_succ _) _).setCell (Nat.le_succ _) _).setCell (Nat.le_succ _) _
        refine bodyPost_ret (v := .agg #[.int .i64 code, .slice Av os'.length cv, .slice AE' evs.length cE', .int .i64 msg]) (by simp [results, Tryd.results5, go_sem, r0, r1, r2, r3]) rfl ?_
        clear r0 r1 r2 r3 f0 f1 f2 f3 c0 c1 c2 c3 Y9
        generalize (((wr.setCell ⟨w.heap.size + 1, 0, none⟩ (.int .i64 code)).setCell ⟨w.heap.size + 1, 1, none⟩ (.slice Av os'.length cv)).setCell ⟨w.heap.size + 1, 2, none⟩ (.slice AE' evs.length cE')).setCell ⟨w.heap.size + 1, 3, none⟩ (.int .i64 msg) = wf at *
        have hoff : Off wr wf (fun b => b < w2.heap.size ∨ b = G ∨ (Value.slice Av os'.length cv).ownBlock = some b) := fun b _ hn => hot b (fun e => hn (.inl (by omega)))
        have hown9 := hI.own.off (w' := wf) fun b hb => hot b (by have := (hI.own.lt b hb).1; omega)
        obtain ⟨A9, c9, h9, hrows⟩ := RowsAt.of_own hown9 OutD.len
        cases h9
        refine ⟨os', Av, AE', cv, cE', by rw [HE.out], by rw [hkey, List.take_of_length_le (by omega)], hrows, fun o ho => ⟨?_, ?_⟩, ?_, hB9⟩
        · exact ((hI.rob o ho).1 wf hoff).mono (by omega)
        · exact ((hI.rob o ho).2 wf hoff).mono (by omega)
        · exact (hI.ev wf hoff).mono (by omega)
  go_region_held3 (fun w' => w'.cell? ⟨w.heap.size, 0, none⟩ = some (.int .i64 code) ∧ w'.cell? ⟨w.heap.size, 2, none⟩ = some (.slice AE evs.length cE) ∧ w'.cell? ⟨w.heap.size, 3, none⟩ = some (.int .i64 msg) ∧ Below w2.heap.size w2 w')
    (first
      | (go_split_ands
         have hS : ∀ W, Below w2.heap.size w2 W → W.cell? ⟨w.heap.size, 0, none⟩ = some (.int .i64 code) ∧ W.cell? ⟨w.heap.size, 2, none⟩ = some (.slice AE evs.length cE) ∧ W.cell? ⟨w.heap.size, 3, none⟩ = some (.int .i64 msg) ∧ Below w2.heap.size w2 W := fun W h => ⟨(h.cell hlt2).trans b0, (h.cell hlt2).trans b2, (h.cell hlt2).trans b3, h⟩
         refine hS _ ?_
         first
           | exact R2.drew
           | exact R2.alloc hle2 _
           | exact (R2.alloc hle2 _).drew
           | exact (R2.alloc hle2 _).alloc (by simp) _
           | exact ((R2.alloc hle2 _).alloc (by simp) _).drew
           | exact hw1
           | exact hw1.drew
           | exact hw1.alloc hw1.size _
           | exact (hw1.alloc hw1.size _).drew
           | exact (((hw1.setCell (by dsimp only; omega) _).setCell (by dsimp only; omega) _).setCell (by dsimp only; omega) _).setCell (by dsimp only; omega) _))
    ((refine step_appendE (by rfl) _ _ _ 47 (by rfl) EvD.cs 3 24 info47 Tryd.underlying23 EvD.len (by decide) EvD.one w2.heap.size _ (by rfl) evs AE cE (by rfl) (by first | exact hes2.below R2.drew | exact hes2.below (R2.alloc hle2 _).drew | exact hes2.below ((R2.alloc hle2 _).alloc (by simp) _).drew) (by omega) (by decide) ?_; intro AE' cE' w1 hrows1 hbl1
      have hw1 : Below w2.heap.size w2 w1 := by first | exact ((R2.alloc hle2 _).drew).trans (hbl1.mono (by simp)) | exact (((R2.alloc hle2 _).alloc (by simp) _).drew).trans (hbl1.mono (by simp; omega))
      first
        | (have hG : Blk w1 (w.heap.size + 2) #[.int .i64 0, .slice none 0 0, .slice none 0 0, .int .i64 0] 25 := Blk.below (Blk.drew (Blk.alloc (Blk.new' w2 _ _ (by omega)) _)) hbl1 (by simp [S2])
           have g0 := hG.cell 0 _ rfl
           have g1 := hG.cell 1 _ rfl
           have g2 := hG.cell 2 _ rfl
           have g3 := hG.cell 3 _ rfl
           have f0 := hG.fz 0
           have f1 := hG.fz 1
           have f2 := hG.fz 2
           have f3 := hG.fz 3)
        | (have hG : Blk w1 (w.heap.size + 2 + 1) #[.int .i64 0, .slice none 0 0, .slice none 0 0, .int .i64 0] 25 := Blk.below (Blk.drew (Blk.new' (w2.alloc (.cells #[] 47)) _ _ (by simp [S2]))) hbl1 (by simp [S2])
           have g0 := hG.cell 0 _ rfl
           have g1 := hG.cell 1 _ rfl
           have g2 := hG.cell 2 _ rfl
           have g3 := hG.cell 3 _ rfl
           have f0 := hG.fz 0
           have f1 := hG.fz 1
           have f2 := hG.fz 2
           have f3 := hG.fz 3)
        | skip))
  · exact ⟨_, _, _, _, rfl, rfl, hw1.size, (fresh_alloc w1 _ _ 25 AE' evs w2.heap.size (by simp <;> omega) hrows1).1, (fresh_alloc w1 _ _ 25 AE' evs w2.heap.size (by simp <;> omega) hrows1).2, hw1.alloc hw1.size _⟩
  · exact ⟨_, _, _, _, rfl, rfl, by omega, (fresh_set w1 _ _ code msg AE' _ cE' evs hG w2.heap.size (by simp <;> omega) (by simp [S2]) hrows1).1, (fresh_set w1 _ _ code msg AE' _ cE' evs hG w2.heap.size (by simp <;> omega) (by simp [S2]) hrows1).2, (((hw1.setCell (by dsimp only; omega) _).setCell (by dsimp only; omega) _).setCell (by dsimp only; omega) _).setCell (by dsimp only; omega) _⟩
  · exact ⟨_, _, _, _, rfl, rfl, by omega, (fresh_set w1 _ _ code msg AE' _ cE' evs hG w2.heap.size (by simp <;> omega) (by simp [S2]) hrows1).1, (fresh_set w1 _ _ code msg AE' _ cE' evs hG w2.heap.size (by simp <;> omega) (by simp [S2]) hrows1).2, (((hw1.setCell (by dsimp only; omega) _).setCell (by dsimp only; omega) _).setCell (by dsimp only; omega) _).setCell (by dsimp only; omega) _⟩
end Go.Proofs.YtpknkifmjokhgaaDoor
