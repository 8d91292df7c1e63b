/- append of a caller's rows to a slice of the call's own. -/
import Derived.Test.YtpknkifmjokhgaaDoorRtM
set_option linter.unusedVariables false
namespace Go.Proofs.YtpknkifmjokhgaaDoor
open Go Go.RowKit Go.Sort

theorem flat_length {α : Type} (f : α → List Value) (sz : Nat) (hs : ∀ x, (f x).length = sz) (xs : List α) : (xs.flatMap f).length = xs.length * sz := by
  induction xs with
  | nil => simp
  | cons x xs ih => rw [List.flatMap_cons, List.length_append, hs, ih, List.length_cons, Nat.add_mul]; omega
theorem flat_get {α : Type} (f : α → List Value) (sz : Nat) (hs : ∀ x, (f x).length = sz) (xs : List α) (k : Nat) (h : k < xs.length) (j : Nat) (hj : j < sz) : (xs.flatMap f)[k * sz + j]? = (f xs[k])[j]? := by
  induction xs generalizing k with
  | nil => simp at h
  | cons x xs ih =>
    rw [List.flatMap_cons]
    cases k with
    | zero => rw [Nat.zero_mul, Nat.zero_add, List.getElem?_append_left (by rw [hs]; exact hj)]; rfl
    | succ k =>
      rw [List.getElem?_append_right (by rw [hs, Nat.add_mul]; omega), hs, show (k + 1) * sz + j - sz = k * sz + j by rw [Nat.add_mul]; omega]
      exact ih k (by simpa using h)
theorem RowsAt.cells {α : Type} {f : α → List Value} {sz : Nat} {w : World} {B : Nat} {a : Addr} {xs : List α} (h : RowsAt f sz w B (some a) xs) (hs : ∀ x, (f x).length = sz) (hsz : 0 < sz) :
    ∀ j u, (xs.flatMap f)[j]? = some u → w.cell? (a.add j) = some u := by
  intro j u hu
  have hj : j < xs.length * sz := by rw [← flat_length f sz hs]; exact (List.getElem?_eq_some_iff.1 hu).1
  have hk : j / sz < xs.length := Nat.div_lt_of_lt_mul (by rw [Nat.mul_comm]; exact hj)
  have hm : j % sz < sz := Nat.mod_lt _ hsz
  have e : j / sz * sz + j % sz = j := by rw [Nat.mul_comm]; exact Nat.div_add_mod j sz
  have := flat_get f sz hs xs (j / sz) hk (j % sz) hm
  rw [e, hu] at this
  obtain ⟨mb, mo, hA, _, hc⟩ := h (j / sz) hk
  have h2 := hc _ _ this.symm
  cases hA
  rw [← h2, Addr.add_lit, Nat.add_assoc, e]
theorem RowsAt.of_own {α : Type} {f : α → List Value} {sz base : Nat} {e : TypeId} {w : World} {v : Value} {xs : List α} (h : w.ownsRow base e sz v xs.length (xs.flatMap f)) (hs : ∀ x, (f x).length = sz) :
    ∃ A c, v = .slice A xs.length c ∧ RowsAt f sz w w.heap.size A xs := by
  rcases h.2 with ⟨rfl, h0⟩ | ⟨g, cap, cur, rfl, hb, hg, hrest⟩
  · refine ⟨none, 0, by rw [h0], fun k hk => absurd hk (by omega)⟩
  · refine ⟨_, _, rfl, fun k hk => ⟨g, 0, rfl, (Array.getElem?_eq_some_iff.1 hg).1, fun j v hv => ?_⟩⟩
    have hj : j < sz := by rw [← hs xs[k]]; exact (List.getElem?_eq_some_iff.1 hv).1
    have hk2 : k * sz + j < xs.length * sz := by
      have := Nat.mul_le_mul_right sz (show k + 1 ≤ xs.length by omega)
      rw [Nat.add_mul] at this
      omega
    rw [Nat.zero_add, World.ownsRow.cellAt h _ hk2, flat_get f sz hs xs k hk j hj]
    exact hv

/-- What is known of an element's type. -/
structure ElemInfo (e : TypeId) (sz bytes : Nat) : Prop where
  ex : ∃ i z, Tryd.prog.info? e = some i ∧ i.zero = some z ∧ i.size = sz ∧ i.bytes = bytes ∧ z.cells.size = sz
theorem elemInfo {e : TypeId} {sz bytes : Nat} (h : (Tryd.prog.info? e).map (fun i => (i.zero.map (·.cells.size), i.size, i.bytes)) = some (some sz, sz, bytes)) : ElemInfo e sz bytes := by
  cases hi : Tryd.prog.info? e with
  | none => rw [hi] at h; cases h
  | some i =>
    rw [hi] at h
    simp only [Option.map_some, Option.some.injEq, Prod.mk.injEq] at h
    obtain ⟨h1, h2, h3⟩ := h
    cases hz : i.zero with
    | none => rw [hz] at h1; cases h1
    | some z =>
      rw [hz] at h1
      exact ⟨i, z, hi, hz, h2, h3, by simpa using h1⟩
theorem info47 : ElemInfo 47 3 24 := elemInfo (by kernel_rfl)
theorem info60 : ElemInfo 60 2 24 := elemInfo (by kernel_rfl)
theorem info64 : ElemInfo 64 4 24 := elemInfo (by kernel_rfl)
theorem info43 : ElemInfo 43 5 72 := elemInfo (by kernel_rfl)

theorem run_appendC {α : Type} (w : World) (t ty e : TypeId) (f : α → List Value) (sz bytes : Nat) (he : ElemInfo e sz bytes) (ht : Tryd.prog.underlying t = some (.slice e)) (hs : ∀ x, (f x).length = sz) (hsz : 0 < sz) (hone : ∀ x, ∀ u ∈ f x, u.oneCell' = true)
    (base B : Nat) (v : Value) (xs ys : List α) (hown : w.ownsRow base e sz v xs.length (xs.flatMap f)) (A : Option Addr) (c : Nat) (hr : RowsAt f sz w B A ys) (hlen : xs.length + ys.length ≤ 1073741824) (hby : bytes ≤ 1024) (hbase : base ≤ w.heap.size) :
    ∃ v' w', (Builtin.append_ #[t, t] ty #[v, .slice A ys.length c]).run Tryd.prog w = .ok v' w' ∧ w'.ownsRow base e sz v' (xs ++ ys).length ((xs ++ ys).flatMap f) ∧ Below base w w' ∧ w.grownBy w' v.ownBlock := by
  obtain ⟨i, z, hi, hz, h1, h2, h3⟩ := he.ex
  rw [List.length_append, List.flatMap_append]
  have hbytes : (xs.length + ys.length) * bytes ≤ 140737488355328 := Nat.le_trans (Nat.mul_le_mul hlen hby) (by decide)
  cases A with
  | some a =>
    obtain ⟨v', w', k1, k2, k3, _⟩ := run_append_own (P := Tryd.prog) w base t ty e i z sz bytes ht hi hz h1 h2 h3 hsz v xs.length (xs.flatMap f) hown a ys.length c (ys.flatMap f) (flat_length f sz hs ys) (hr.cells hs hsz)
      (fun u hu => by obtain ⟨y, _, hy⟩ := List.mem_flatMap.1 hu; exact hone y u hy) (by unfold maxLen; omega) hbytes hbase
    exact ⟨v', w', k1, k2, (Below.refl _ _).grown k3 hbase (fun q hq => (hown.lt q hq).1), k3⟩
  | none =>
    have h0 : ys = [] := by
      cases ys with
      | nil => rfl
      | cons y ys => obtain ⟨_, _, hA, _⟩ := hr 0 (by simp); cases hA
    subst h0
    refine ⟨v, w, ?_, by simpa using hown, Below.refl _ _, ⟨rfl, rfl, rfl, Nat.le_refl _, fun _ _ _ => rfl⟩⟩
    rcases hown.2 with ⟨rfl, h0⟩ | ⟨g, cap, cur, rfl, _, _, hnc, _⟩
    · simp [Builtin.append_, run_underlying ht, sizeOf, typeInfo, hi, Builtin.lenOf, Builtin.firstCells]
    · simp [Builtin.append_, run_underlying ht, sizeOf, typeInfo, hi, Builtin.lenOf, Builtin.firstCells, hnc, storeCells]

theorem wp_appendC {α : Type} {w : World} {o : Oper} {a : Act} {K : Act → World → Prop} {Q : Exit → Act → World → Prop} (s x : Operand) (t e : TypeId) (ho : o.op = .call { callee := .builtin .append, args := #[s, x], argTypes := #[t, t] })
    (f : α → List Value) (sz bytes : Nat) (he : ElemInfo e sz bytes) (ht : Tryd.prog.underlying t = some (.slice e)) (hs : ∀ x, (f x).length = sz) (hsz : 0 < sz) (hone : ∀ x, ∀ u ∈ f x, u.oneCell' = true)
    (base B : Nat) (v : Value) (xs ys : List α) (hv : a.eval s = v) (hown : w.ownsRow base e sz v xs.length (xs.flatMap f)) (A : Option Addr) (c : Nat) (hx : a.eval x = .slice A ys.length c) (hr : RowsAt f sz w B A ys) (hlen : xs.length + ys.length ≤ 1073741824) (hby : bytes ≤ 1024) (hbase : base ≤ w.heap.size)
    (k : ∀ v' w', w'.ownsRow base e sz v' (xs ++ ys).length ((xs ++ ys).flatMap f) → Below base w w' → w.grownBy w' v.ownBlock → K (a.put o.dst v') w') : o.wp Tryd.prog a w K Q := by
  obtain ⟨v', w', hrn, h2, h3, h4⟩ := run_appendC w t o.type e f sz bytes he ht hs hsz hone base B v xs ys hown A c hr hlen hby hbase
  unfold Oper.wp execOp
  simp only [ho, resolve, invoke, builtin, Sem.run_bind, Sem.run_pure, Result.andThen_ok, List.map_toArray, List.map_cons, List.map_nil, hv, hx, hrn]
  exact k v' w' h2 h3 h4
theorem MsgD.len (m : MsgD) : m.cs.length = 2 := rfl
theorem RepD.len (m : RepD) : m.cs.length = 4 := rfl
theorem EvD.len (m : EvD) : m.cs.length = 3 := rfl
theorem OutD.len (m : OutD) : m.cs.length = 5 := rfl
theorem MsgD.one (m : MsgD) : ∀ u ∈ m.cs, u.oneCell' = true := by intro u hu; simp only [MsgD.cs, List.mem_cons, List.not_mem_nil, or_false] at hu; rcases hu with rfl | rfl <;> rfl
theorem RepD.one (m : RepD) : ∀ u ∈ m.cs, u.oneCell' = true := by intro u hu; simp only [RepD.cs, List.mem_cons, List.not_mem_nil, or_false] at hu; rcases hu with rfl | rfl | rfl | rfl <;> rfl
theorem EvD.one (m : EvD) : ∀ u ∈ m.cs, u.oneCell' = true := by intro u hu; simp only [EvD.cs, List.mem_cons, List.not_mem_nil, or_false] at hu; rcases hu with rfl | rfl | rfl <;> rfl
theorem OutD.one (m : OutD) : ∀ u ∈ m.cs, u.oneCell' = true := by intro u hu; simp only [OutD.cs, List.mem_cons, List.not_mem_nil, or_false] at hu; rcases hu with rfl | rfl | rfl | rfl | rfl <;> rfl
end Go.Proofs.YtpknkifmjokhgaaDoor
