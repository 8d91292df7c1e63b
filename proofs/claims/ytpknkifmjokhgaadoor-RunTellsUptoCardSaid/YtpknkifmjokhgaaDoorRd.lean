/- Readings: what an argument's reading says of the cells, for every type that is made of numbers, bools, strings, structs, arrays and slices. -/
import Derived.ChangeArms
import Derived.DataReads
import Derived.WideShapes
import Derived.Laws.World
import Derived.Laws.Entries
import Derived.Deep.Slices
namespace Go.Rd
open Go

/-- What is asked of a measure of readings. -/
structure IsBulk {H : Type} (bk : DataW H → Nat) : Prop where
  lit : ∀ l : Lit, 1 ≤ bk (.lit l)
  str : ∀ l : List UInt8, l.length + 1 ≤ bk (.lit (.string l))
  nil : 1 ≤ bk .nil
  slice : ∀ es sp : List (DataW H), (es.map bk).sum + 1 ≤ bk (.slice es sp)
  agg : ∀ ps : List (DataW H), (ps.map bk).sum + 1 ≤ bk (.agg ps)

/-- Each reading of a T is some a: its cells, what stands in memory for it, its size. -/
def Rd (P : Program) (T : TypeId) {α : Type} (f : α → List Value) (At : World → α → Prop) (sz : α → Nat) : Prop :=
  ∀ (H : Type) (enc : TypeId × Value → H) (w : World) (bk : DataW H → Nat), IsBulk bk → ∀ (sp : Nat → Bool) (hd : Bool) (fuel : Nat) (cs : List Value) (x : DataW H × List MemPlace),
    DataW.trod enc P w 0 sp hd fuel T cs = some x → ∃ a, cs = f a ∧ At w a ∧ sz a ≤ bk x.1

section
variable {P : Program}

theorem Rd.map {α β : Type} {T : TypeId} {f : α → List Value} {At : World → α → Prop} {sz : α → Nat} (h : Rd P T f At sz) (g : α → β) {f' : β → List Value} {At' : World → β → Prop} {sz' : β → Nat}
    (hf : ∀ a, f a = f' (g a)) (hA : ∀ w a, At w a → At' w (g a)) (hs : ∀ a, sz' (g a) ≤ sz a) : Rd P T f' At' sz' := by
  intro H enc w bk hb sp hd fuel cs x hx
  obtain ⟨a, h1, h2, h3⟩ := h H enc w bk hb sp hd fuel cs x hx
  exact ⟨g a, by rw [h1, hf], hA w a h2, Nat.le_trans (hs a) h3⟩

theorem Rd.int {T : TypeId} {k : IntKind} (ht : P.underlying T = some (.int k)) : Rd P T (fun n : Int => [.int k n]) (fun _ n => (Lit.int k n).wf = true) (fun _ => 1) := by
  intro H enc w bk hb sp hd fuel cs x hx
  obtain ⟨n, rfl, rfl, hw⟩ := DataW.trod_int ht hx
  exact ⟨n, rfl, hw, hb.lit _⟩
theorem Rd.bool {T : TypeId} (ht : P.underlying T = some .bool) : Rd P T (fun b : Bool => [.bool b]) (fun _ _ => True) (fun _ => 1) := by
  intro H enc w bk hb sp hd fuel cs x hx
  obtain ⟨b, rfl, rfl⟩ := DataW.trod_bool ht hx
  exact ⟨b, rfl, trivial, hb.lit _⟩
theorem Rd.string {T : TypeId} (ht : P.underlying T = some .string) : Rd P T (fun s : ByteArray => [.string s]) (fun _ _ => True) (fun s => s.size + 1) := by
  intro H enc w bk hb sp hd fuel cs x hx
  obtain ⟨s, rfl, rfl, hw⟩ := DataW.trod_string ht hx
  exact ⟨s, rfl, trivial, by have := hb.str s.data.toList; simpa using this⟩

theorem exists_list {α : Type} {Q : Nat → α → Prop} : ∀ (n : Nat), (∀ i, i < n → ∃ a, Q i a) → ∃ xs : List α, xs.length = n ∧ ∀ i (h : i < xs.length), Q i xs[i]
  | 0, _ => ⟨[], rfl, fun i h => absurd h (by simp)⟩
  | n + 1, h => by
    obtain ⟨xs, hl, hq⟩ := exists_list n (fun i hi => h i (by omega))
    obtain ⟨a, ha⟩ := h n (by omega)
    refine ⟨xs ++ [a], by simp [hl], fun i hi => ?_⟩
    rcases Nat.lt_or_ge i xs.length with h' | h'
    · rw [List.getElem_append_left h']; exact hq i h'
    · have : i = n := by simp at hi; omega
      subst this
      rw [List.getElem_append_right h']
      simpa [hl] using ha

theorem sum_le {α β : Type} (f : α → Nat) (g : β → Nat) : ∀ (xs : List α) (ys : List β), xs.length = ys.length → (∀ i (h : i < xs.length) (h' : i < ys.length), f xs[i] ≤ g ys[i]) → (xs.map f).sum ≤ (ys.map g).sum
  | [], [], _, _ => Nat.le_refl _
  | [], _ :: _, h, _ => by simp at h
  | _ :: _, [], h, _ => by simp at h
  | x :: xs, y :: ys, h, hq => by
    rw [List.map_cons, List.map_cons, List.sum_cons, List.sum_cons]
    have h0 := hq 0 (by simp) (by simp)
    have h1 := sum_le f g xs ys (by simpa using h) (fun i hi hi' => hq (i + 1) (Nat.succ_lt_succ hi) (Nat.succ_lt_succ hi'))
    simp only [List.getElem_cons_zero] at h0
    omega

/-- A slice. -/
structure Sl (α : Type) where
  A : Option Addr
  c : Nat
  xs : List α
def Sl.v {α : Type} (s : Sl α) : Value := .slice s.A s.xs.length s.c
/-- Its elements in memory. -/
def RowsOf {α : Type} (f : α → List Value) (sz : Nat) (w : World) (A : Option Addr) (xs : List α) : Prop :=
  ∀ k (h : k < xs.length), ∃ mb mo, A = some ⟨mb, mo, none⟩ ∧ mb < w.heap.size ∧ ∀ j v, (f xs[k])[j]? = some v → w.cell? ⟨mb, mo + k * sz + j, none⟩ = some v
def SlAt {α : Type} (f : α → List Value) (n : Nat) (At : World → α → Prop) (w : World) (s : Sl α) : Prop :=
  RowsOf f n w s.A s.xs ∧ (∀ x ∈ s.xs, At w x) ∧ s.xs.length ≤ s.c ∧ s.c ≤ maxLen
def slSz {α : Type} (sz : α → Nat) (s : Sl α) : Nat := (s.xs.map sz).sum + 1

theorem Rd.slice {α : Type} {t e : TypeId} {n : Nat} {f : α → List Value} {At : World → α → Prop} {sz : α → Nat} (h : Rd P e f At sz) (ht : P.underlying t = some (.slice e)) (hC : P.cellsOf e = n) (hn : 0 < n) :
    Rd P t (fun s : Sl α => [s.v]) (SlAt f n At) (slSz sz) := by
  intro H enc w bk hb sp hd fuel cs x hx
  rcases DataW.trod_slice ht hx with ⟨rfl, rfl⟩ | ⟨a, len, cap, elems, rest, m, _, rfl, rfl, _, hlc, hcm, hlen, hel, _, _⟩
  · exact ⟨⟨none, 0, []⟩, rfl, ⟨fun k hk => absurd hk (by simp), fun y hy => by simp at hy, Nat.le_refl _, Nat.zero_le _⟩, hb.nil⟩
  · rw [hC] at hel
    have hex : ∀ i, i < len → ∃ b : α, (∀ j v, (f b)[j]? = some v → w.cell? (a.add (i * n + j)) = some v) ∧ 0 < (f b).length ∧ At w b ∧ ∃ (h : i < elems.length), sz b ≤ bk (elems[i]).1 := by
      intro i hi
      have hi' : i < elems.length := by omega
      have h1 := hel i hi
      rw [List.getElem?_eq_getElem hi', Option.bind_eq_some_iff] at h1
      obtain ⟨cs', hc, hr⟩ := h1
      obtain ⟨_, hl, hat⟩ := World.cells?_some hc
      obtain ⟨b, rfl, hA, hs⟩ := h H enc w bk hb sp hd m cs' _ hr
      refine ⟨b, fun j v hv => ?_, by omega, hA, hi', hs⟩
      have hj : j < n := by rw [← hl]; exact (List.getElem?_eq_some_iff.1 hv).1
      have := hat j hj
      rw [Go.Deep.add_add, hv] at this
      exact this
    obtain ⟨xs, hxl, hq⟩ := exists_list len hex
    refine ⟨⟨some a, cap, xs⟩, by simp [Sl.v, hxl], ⟨fun k hk => ?_, fun y hy => ?_, by simp only; omega, hcm⟩, ?_⟩
    · obtain ⟨h1, _, _⟩ := hq k hk
      have hk0 : 0 < xs.length := Nat.lt_of_le_of_lt (Nat.zero_le _) hk
      obtain ⟨g1, g0, _⟩ := hq 0 hk0
      have hc := g1 0 _ (List.getElem?_eq_getElem g0)
      rw [Nat.zero_mul, Nat.add_zero] at hc
      have hsp := World.cell?_spot hc
      have hblk := World.block_lt_of_cell? w _ hc
      obtain ⟨b, o, s⟩ := a
      obtain rfl : s = none := by simpa [Addr.add] using hsp
      rw [Addr.add_lit] at hblk
      refine ⟨b, o, rfl, hblk, fun j v hv => ?_⟩
      have := h1 j v hv
      rw [Addr.add_lit, ← Nat.add_assoc] at this
      exact this
    · obtain ⟨i, hi, rfl⟩ := List.getElem_of_mem hy
      exact (hq i hi).2.2.1
    · refine Nat.le_trans (Nat.succ_le_succ (?_ : (xs.map sz).sum ≤ ((elems.map (·.1)).map bk).sum)) (hb.slice _ _)
      rw [List.map_map]
      exact sum_le sz (bk ∘ (Prod.fst : DataW H × List MemPlace → DataW H)) xs elems (by omega) (fun i hi hi' => (hq i hi).2.2.2.2)

/-- The fields of a struct, one behind the other. -/
def RdFs (P : Program) (fs : List Field) (off : Nat) {α : Type} (f : α → List Value) (At : World → α → Prop) (sz : α → Nat) : Prop :=
  ∀ (H : Type) (enc : TypeId × Value → H) (w : World) (bk : DataW H → Nat), IsBulk bk → ∀ (sp : Nat → Bool) (hd : Bool) (fuel : Nat) (cs : List Value) (xs : List (DataW H × List MemPlace)), xs.length = fs.length →
    (∀ (i : Nat) (fl : Field), fs[i]? = some fl → DataW.trod enc P w 0 sp hd fuel fl.type ((cs.drop fl.offset).take (P.cellsOf fl.type)) = xs[i]?) → cs.length = off + (fs.map fun fl => P.cellsOf fl.type).sum →
    ∃ a, cs.drop off = f a ∧ At w a ∧ sz a ≤ (xs.map fun x => bk x.1).sum

theorem RdFs.nil {off : Nat} : RdFs P [] off (fun _ : Unit => []) (fun _ _ => True) (fun _ => 0) := by
  intro H enc w bk hb sp hd fuel cs xs hl hx hc
  exact ⟨(), by rw [List.drop_eq_nil_iff]; simp at hc; omega, trivial, Nat.zero_le _⟩
theorem RdFs.cons {α β : Type} {fl : Field} {fs : List Field} {off : Nat} (n : Nat) {f : α → List Value} {At : World → α → Prop} {sz : α → Nat} {g : β → List Value} {Bt : World → β → Prop} {tz : β → Nat} (h : Rd P fl.type f At sz) (ho : fl.offset = off) (hn : P.cellsOf fl.type = n)
    (k : RdFs P fs (off + n) g Bt tz) : RdFs P (fl :: fs) off (fun x : α × β => f x.1 ++ g x.2) (fun w x => At w x.1 ∧ Bt w x.2) (fun x => sz x.1 + tz x.2) := by
  intro H enc w bk hb sp hd fuel cs xs hl hx hc
  match xs, hl with
  | x :: xs, hl =>
    have h0 := hx 0 fl rfl
    rw [ho, hn] at h0
    obtain ⟨a, h1, h2, h3⟩ := h H enc w bk hb sp hd fuel _ _ h0
    rw [List.map_cons, List.sum_cons, hn, ← Nat.add_assoc] at hc
    obtain ⟨b, k1, k2, k3⟩ := k H enc w bk hb sp hd fuel cs xs (by simpa using hl) (fun i fl' hi => hx (i + 1) fl' (by simpa using hi)) hc
    refine ⟨(a, b), ?_, ⟨h2, k2⟩, by rw [List.map_cons, List.sum_cons]; exact Nat.add_le_add h3 k3⟩
    show cs.drop off = f a ++ g b
    rw [← h1, ← k1, ← List.drop_drop, List.take_append_drop]
theorem Rd.struct {α : Type} {t : TypeId} {fs : List Field} {f : α → List Value} {At : World → α → Prop} {sz : α → Nat} (ht : P.underlying t = some (.struct fs.toArray)) (hn : P.cellsOf t = (fs.map fun fl => P.cellsOf fl.type).sum) (h : RdFs P fs 0 f At sz) :
    Rd P t f At (fun a => sz a + 1) := by
  intro H enc w bk hb sp hd fuel cs x hx
  obtain ⟨xs, m, _, rfl, hc, hl, hg⟩ := DataW.trod_struct ht hx
  obtain ⟨a, h1, h2, h3⟩ := h H enc w bk hb sp hd m cs xs (by simpa using hl) (fun i fl hi => hg i fl (by simpa using hi)) (by rw [hc, hn]; omega)
  refine ⟨a, by simpa using h1, h2, Nat.le_trans (Nat.succ_le_succ h3) ?_⟩
  have := hb.agg (xs.map (·.1))
  rw [List.map_map] at this
  exact this

/-- An array of one-cell elements. -/
theorem Rd.array {α : Type} {t e : TypeId} {n : Nat} {g : α → Value} {At : World → α → Prop} {sz : α → Nat} (h : Rd P e (fun a => [g a]) At sz) (ht : P.underlying t = some (.array n e)) (hC : P.cellsOf e = 1) (hT : P.cellsOf t = n) :
    Rd P t (fun xs : List α => xs.map g) (fun w xs => xs.length = n ∧ ∀ x ∈ xs, At w x) (fun xs => (xs.map sz).sum + 1) := by
  intro H enc w bk hb sp hd fuel cs x hx
  cases fuel with
  | zero => simp [DataW.trod] at hx
  | succ m =>
    unfold DataW.trod at hx
    rw [ht] at hx
    simp only [hC, hT, Nat.mul_one] at hx
    split at hx
    · rename_i hlen
      rw [Option.map_eq_some_iff] at hx
      obtain ⟨ys, hm, rfl⟩ := hx
      have hyl : ys.length = n := by simpa using mapM_some_length hm
      have hex : ∀ i, i < n → ∃ b : α, (cs.drop i).take 1 = [g b] ∧ At w b ∧ ∃ (h : i < ys.length), sz b ≤ bk (ys[i]).1 := by
        intro i hi
        have hi' : i < ys.length := by omega
        have h1 := mapM_some_get hm i i (by simp [hi])
        rw [List.getElem?_eq_getElem hi'] at h1
        obtain ⟨b, h2, h3, h4⟩ := h H enc w bk hb sp hd m _ _ h1
        exact ⟨b, h2, h3, hi', h4⟩
      obtain ⟨xs, hxl, hq⟩ := exists_list n hex
      refine ⟨xs, ?_, ⟨hxl, fun y hy => ?_⟩, ?_⟩
      · apply List.ext_getElem
        · simp [hxl, hlen]
        · intro i h1 h2
          have h3 := (hq i (by simpa using h2)).1
          rw [List.drop_eq_getElem_cons h1, List.take_succ_cons, List.take_zero, List.cons.injEq] at h3
          rw [List.getElem_map]
          exact h3.1
      · obtain ⟨i, hi, rfl⟩ := List.getElem_of_mem hy
        exact (hq i hi).2.1
      · refine Nat.le_trans (Nat.succ_le_succ (?_ : (xs.map sz).sum ≤ ((ys.map (·.1)).map bk).sum)) (hb.agg _)
        rw [List.map_map]
        exact sum_le sz (bk ∘ (Prod.fst : DataW H × List MemPlace → DataW H)) xs ys (by omega) (fun i hi hi' => (hq i hi).2.2.2)
    · cases hx
end
end Go.Rd
