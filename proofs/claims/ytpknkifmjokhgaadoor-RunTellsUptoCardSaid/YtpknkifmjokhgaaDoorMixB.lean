/- The walk of a drawn region, at the class of worlds in which nothing old has turned. -/
import Derived.Test.YtpknkifmjokhgaaDoorMix
import Derived.Lib.QuietBelow
import Derived.WalkKit
namespace Go.Mix
open Go Go.Sort Go.RowKit

section
variable {P : Program} {ops : Array Oper} {w0 : World}

def InB (w0 w : World) : Prop := Below w0.heap.size w0 w
theorem InB.drew (w : World) : InB w w.drew := (Below.refl _ _).drew
theorem InB.then {w0 w w' : World} (h : InB w0 w) (k : Below w.heap.size w w') : InB w0 w' := h.trans (k.mono h.size)

/-- The region's first operations in the order of the text; a 'true' stands for one that may change the world. -/
def wpMix (P : Program) (ops : Array Oper) (w0 : World) (E : Act → World → Prop) : List Bool → List Oper → Act → World → Prop
  | _, [], a, w => E a w
  | fs, o :: l, a, w =>
    if Region.wanted o (yielded ops a.tmps) then
      (if fs.headD false then o.wp P a w (fun a' w' => InB w0 w' ∧ wpMix P ops w0 E fs.tail l a' w') NoQ
       else ∃ v, (∀ p : Regrown, (execOp a.eval o).run P (grow (redrawn w0 p.d) p.os) = .ok (.value v) (grow (redrawn w0 p.d) p.os)) ∧ wpMix P ops w0 E fs.tail l (a.put o.dst v) w)
    else wpMix P ops w0 E fs.tail l (a.put o.dst undef) w

theorem wpMix_nil {E : Act → World → Prop} {fs : List Bool} {a : Act} {w : World} (h : E a w) : wpMix P ops w0 E fs [] a w := by unfold wpMix; exact h
theorem wpMix_plain {E : Act → World → Prop} {fs : List Bool} {o : Oper} {l : List Oper} {a : Act} {w : World}
    (h : ∀ K : Act → Prop, (∀ a, wpMix P ops w0 E fs l a w → K a) → if Region.wanted o (yielded ops a.tmps) then ∃ v, (∀ p : Regrown, (execOp a.eval o).run P (grow (redrawn w0 p.d) p.os) = .ok (.value v) (grow (redrawn w0 p.d) p.os)) ∧ K (a.put o.dst v) else K (a.put o.dst undef)) :
    wpMix P ops w0 E (false :: fs) (o :: l) a w := by
  unfold wpMix
  exact h _ (fun _ h => h)
theorem wpMix_chain {E : Act → World → Prop} {fs : List Bool} {o : Oper} {l : List Oper} {a : Act} {w : World}
    (h : ∀ K : Act → World → Prop, (∀ a' w', InB w0 w' → wpMix P ops w0 E fs l a' w' → K a' w') → (∀ a', wpMix P ops w0 E fs l a' w → K a' w) → if Region.wanted o (yielded ops a.tmps) then o.wp P a w K NoQ else K (a.put o.dst undef) w) (hw : InB w0 w) :
    wpMix P ops w0 E (true :: fs) (o :: l) a w := by
  unfold wpMix
  have h1 := h (fun a' w' => InB w0 w' ∧ wpMix P ops w0 E fs l a' w') (fun _ _ h1 h2 => ⟨h1, h2⟩) (fun _ h2 => ⟨hw, h2⟩)
  split
  · rename_i hw; rw [if_pos hw] at h1; exact h1
  · rename_i hw; rw [if_neg hw] at h1; exact h1.2

theorem mixI_of {E : Act → World → Prop} {ch : Nat → Bool} : ∀ (l : List Oper) (fs : List Bool) (k : Nat) (a : Act) (w : World), (∀ j, j < l.length → ops[k + j]? = l[j]?) → (∀ j, ch (k + j) = fs.getD j false) →
    wpMix P ops w0 E fs l a w → MixI P ops (InB w0) ch E (List.range' k l.length) a w
  | [], _, _, _, _, _, _, h => by unfold wpMix at h; exact h
  | o :: l, fs, k, a, w, hl, hf, h => by
    have h0 : ops[k]? = some o := by simpa using hl 0 (by simp)
    have hrest : ∀ a w, wpMix P ops w0 E fs.tail l a w → MixI P ops (InB w0) ch E (List.range' (k + 1) l.length) a w := fun a w h =>
      mixI_of l fs.tail (k + 1) a w (fun j hj => by have := hl (j + 1) (by simp; omega); simpa [Nat.add_assoc, Nat.add_comm 1 j] using this)
        (fun j => by have := hf (j + 1); rw [show k + 1 + j = k + (j + 1) by omega, this]; cases fs <;> simp) h
    have hfk : ch k = fs.headD false := by have := hf 0; rw [Nat.add_zero] at this; rw [this]; cases fs <;> simp
    unfold wpMix at h
    rw [List.length_cons, List.range'_succ]
    refine ⟨o, h0, ?_⟩
    split at h
    · rename_i hw
      split at h
      · rename_i hc
        exact .inl ⟨by rw [hfk]; exact hc, hw, wp_mono_put (fun a' w' _ hK => ⟨hK.1, hrest a' w' hK.2⟩) h⟩
      · obtain ⟨v, hv, h⟩ := h
        refine .inr ⟨v, .inl ⟨hw, fun w' hw' => ?_⟩, hrest _ _ h⟩
        obtain ⟨p, rfl⟩ := regrown_of_below hw'
        exact hv p
    · rename_i hw
      exact .inr ⟨undef, .inr ⟨by simpa using hw, rfl⟩, hrest _ _ h⟩

/-- THE REGION. -/
theorem wp_region_mix {id : Nat} {Q : Exit → Act → World → Prop} {a : Act} {w : World} {l : List Oper} (n1 : Nat) (fs : List Bool) (hm : P.follows .mixedOrders = true)
    (hok : mixOk l.toArray (Region.before l.toArray) (fun i => fs.getD i false) n1 = true)
    (h : wpMix P l.toArray w (fun a' w' => wpList P l.toArray Q (l.drop n1) a' w') fs (l.take n1) a w.drew) : (Code.region id l.toArray true).wp P Q a w := by
  have hn : n1 ≤ l.length := by
    have := hok
    simp only [mixOk, Bool.and_eq_true, decide_eq_true_eq] at this
    simpa using this.1.1.1.2
  have hl : (l.take n1).length = n1 := by simp; omega
  refine wp_region_any hm ?_
  have h1 := mixI_of (ch := fun i => fs.getD i false) (l.take n1) fs 0 a w.drew (fun j hj => by rw [hl] at hj; simp [hj]) (fun j => by simp) h
  rw [hl] at h1
  have inv : Inv l.toArray n1 (List.range' 0 n1) (Array.replicate l.toArray.size false) := by
    refine ⟨by simp, fun j oj _ hl' => (by rw [getD_replicate_false] at hl'; cases hl'), fun j hj => ?_, fun j hj => ?_, ?_⟩
    · have h2 : (Array.replicate l.toArray.size false).getD j true = false := getD_in (by simpa using hj) (getD_replicate_false _ _)
      rw [h2]
      simp only [List.mem_range'_1, Nat.zero_le, true_and, Nat.zero_add, true_iff]
      omega
    · simp only [List.mem_range'_1, Nat.zero_le, true_and, Nat.zero_add] at hj; exact hj
    · exact List.pairwise_lt_range'
  have h2 := mix_any (Q := Q) hok (fun a w h => h) n1 (List.range' 0 n1) _ a w.drew (by simp) inv (InB.drew w) h1
  rw [List.length_range', show n1 + (l.toArray.size - n1) = l.toArray.size by simp; omega] at h2
  exact h2

end
end Go.Mix
