/- append to an empty literal. -/
import Derived.Test.YtpknkifmjokhgaaDoorRtN
import Derived.Deep.AppendSrc
import Derived.Deep.Upon
set_option linter.unusedVariables false
namespace Go.Proofs.YtpknkifmjokhgaaDoor
open Go Go.RowKit Go.Sort

theorem rows_src {α : Type} (w : World) (t e : TypeId) (f : α → List Value) (sz : Nat) (ht : Tryd.prog.underlying t = some (.slice e)) (hs : ∀ x, (f x).length = sz) (hsz : 0 < sz) (hone : ∀ x, ∀ u ∈ f x, u.oneCell' = true)
    (B : Nat) (ys : List α) (A : Option Addr) (c : Nat) (hr : RowsAt f sz w B A ys) : Src Tryd.prog sz t (.slice A ys.length c) ys.length (ys.flatMap f) w := by
  cases A with
  | some a => exact Src.ofSlice w ht a ys.length c (ys.flatMap f) (flat_length f sz hs ys) (hr.cells hs hsz) (fun u hu => by obtain ⟨y, _, hy⟩ := List.mem_flatMap.1 hu; exact hone y u hy)
  | none =>
    have h0 : ys = [] := by
      cases ys with
      | nil => rfl
      | cons y ys => obtain ⟨_, _, hA, _⟩ := hr 0 (by simp); cases hA
    subst h0
    exact Src.ofNil w ht c

/-- Worlds agree on the blocks of W that ex does not take out. -/
def Off (W w'' : World) (ex : Nat → Prop) : Prop := ∀ b, b < W.heap.size → ¬ ex b → w''.heap[b]? = W.heap[b]?
/-- The rows stand in each world that agrees with W off ex. -/
def Rob {α : Type} (f : α → List Value) (sz : Nat) (W : World) (ex : Nat → Prop) (A : Option Addr) (ys : List α) : Prop := ∀ w'', Off W w'' ex → RowsAt f sz w'' W.heap.size A ys
theorem Off.refl (W : World) (ex : Nat → Prop) : Off W W ex := fun _ _ _ => rfl
theorem Rob.step {α : Type} {f : α → List Value} {sz : Nat} {W W' : World} {ex ex' : Nat → Prop} {A : Option Addr} {ys : List α} (h : Rob f sz W ex A ys) (ho : Off W W' ex) (hz : W.heap.size ≤ W'.heap.size) (he : ∀ b, b < W.heap.size → ex' b → ex b) : Rob f sz W' ex' A ys :=
  fun w'' ho' => (h w'' (fun b hb hn => (ho' b (by omega) (fun e => hn (he b hb e))).trans (ho b hb hn))).mono hz
theorem run_appendE {α : Type} (w : World) (t ty e : TypeId) (f : α → List Value) (sz bytes : Nat) (he : ElemInfo e sz bytes) (ht : Tryd.prog.underlying t = some (.slice e)) (hs : ∀ x, (f x).length = sz) (hsz : 0 < sz) (hone : ∀ x, ∀ u ∈ f x, u.oneCell' = true)
    (B : Nat) (p : Option Addr) (ys : List α) (A : Option Addr) (c : Nat) (hr : RowsAt f sz w B A ys) (hlen : ys.length ≤ 1073741824) (hby : bytes ≤ 1024) :
    ∃ A' c' w', (Builtin.append_ #[t, t] ty #[.slice p 0 0, .slice A ys.length c]).run Tryd.prog w = .ok (.slice A' ys.length c') w' ∧ Rob f sz w' (fun b => b < w.heap.size) A' ys ∧ Below w.heap.size w w' := by
  obtain ⟨i, z, hi, hz, h1, h2, h3⟩ := he.ex
  have hsrc := rows_src w t e f sz ht hs hsz hone B ys A c hr
  subst h1
  subst h2
  cases ys with
  | nil =>
    refine ⟨p, 0, w, run_append_nothing w t t ty e i ht hi p 0 0 (Nat.le_refl _) _ hsrc, fun _ _ k hk => absurd hk (by simp), Below.refl _ _⟩
  | cons y ys =>
    have hbytes : (y :: ys).length * i.bytes ≤ 140737488355328 := Nat.le_trans (Nat.mul_le_mul hlen hby) (by decide)
    have hpos : 0 < (y :: ys).length := by simp
    generalize hyy : y :: ys = zs at *
    have hold : (Builtin.firstCells i.size 0 (.slice p 0 0)).run Tryd.prog w.drew = .ok ([] : List Value).toArray w.drew := by cases p <;> simp [Builtin.firstCells, loadCells, loadCellsFrom]
    have hr2 := run_append_grow_src (P := Tryd.prog) w t t ty e i z ht hi hz p 0 0 [] hold _ _ _ hsrc (by omega) (by omega) (growslice_fits (by omega) (by simpa using hbytes))
    refine ⟨_, _, _, by rw [hr2, Nat.zero_add], fun w'' hsame k hk => ⟨w.heap.size, 0, rfl, by simp, fun j v hv => ?_⟩, ((Below.refl _ _).drew).alloc (Nat.le_refl _) _⟩
    have hj : j < i.size := by rw [← hs zs[k]]; exact (List.getElem?_eq_some_iff.1 hv).1
    have hg := flat_get f i.size hs zs k hk j hj
    rw [hv] at hg
    rw [Nat.zero_add]
    refine Eq.trans (by unfold World.cell?; rw [hsame w.heap.size (by simp) (Nat.lt_irrefl _)]) ((World.cell?_alloc_at (w := w.drew) _ _ w.heap.size _ rfl).trans ?_)
    rw [Array.getElem?_append_left (by rw [List.size_toArray, List.nil_append]; exact (List.getElem?_eq_some_iff.1 hg).1), List.getElem?_toArray, List.nil_append]
    exact hg

theorem step_appendE {α : Type} {w : World} {ops : Array Oper} {o : Oper} {a : Act} {K : Act → World → Prop} {Q : Exit → Act → World → Prop} {E : Prop} (hgd : o.guard = none) (s x : Operand) (t e : TypeId) (ho : o.op = .call { callee := .builtin .append, args := #[s, x], argTypes := #[t, t] })
    (f : α → List Value) (sz bytes : Nat) (he : ElemInfo e sz bytes) (ht : Tryd.prog.underlying t = some (.slice e)) (hs : ∀ x, (f x).length = sz) (hsz : 0 < sz) (hone : ∀ x, ∀ u ∈ f x, u.oneCell' = true)
    (B : Nat) (p : Option Addr) (hv : a.eval s = .slice p 0 0) (ys : List α) (A : Option Addr) (c : Nat) (hx : a.eval x = .slice A ys.length c) (hr : RowsAt f sz w B A ys) (hlen : ys.length ≤ 1073741824) (hby : bytes ≤ 1024)
    (k : ∀ A' c' w', Rob f sz w' (fun b => b < w.heap.size) A' ys → Below w.heap.size w w' → K (a.put o.dst (.slice A' ys.length c')) w') : if Region.wanted o (yielded ops a.tmps) = true then Oper.wp Tryd.prog o a w K Q else E := by
  have hw : Region.wanted o (yielded ops a.tmps) = true := by simp [Region.wanted, hgd]
  rw [if_pos hw]
  obtain ⟨A', c', w', hrn, h2, h3⟩ := run_appendE w t o.type e f sz bytes he ht hs hsz hone B p ys A c hr hlen hby
  unfold Oper.wp execOp
  simp only [ho, resolve, invoke, builtin, Sem.run_bind, Sem.run_pure, Result.andThen_ok, List.map_toArray, List.map_cons, List.map_nil, hv, hx, hrn]
  exact k A' c' w' h2 h3
end Go.Proofs.YtpknkifmjokhgaaDoor
