/- Bytes that a call owns in a row that may bear a mark beyond its end: []byte(s), and what is appended. -/
import Derived.Test.YtpknkifmjokhgaaDoorRtK
import Derived.Deep.AppendSrc
set_option linter.unusedVariables false
namespace Go.Proofs.YtpknkifmjokhgaaDoor
open Go Go.RowKit Go.Sort

def OwnM (B : Nat) (l : List UInt8) (v : Value) (w : World) : Prop :=
  ∃ g cap, v = .slice (some ⟨g, 0, none⟩) l.length cap ∧ B ≤ g ∧ g < w.heap.size ∧ l.length ≤ cap ∧ cap ≤ maxLen ∧
    (∀ j (h : j < l.length), w.cell? ⟨g, j, none⟩ = some (.int .u8 (l[j].toNat : Int))) ∧ (∀ j, j < cap → (w.cell? ⟨g, j, none⟩).isSome = true ∧ w.frozen? ⟨g, j, none⟩ = false)

theorem OwnM.below {B : Nat} {l : List UInt8} {v : Value} {w w' : World} (h : OwnM B l v w) (hb : Below w.heap.size w w') : OwnM B l v w' := by
  obtain ⟨g, cap, h1, h2, h3, h4, h5, h6, h7⟩ := h
  refine ⟨g, cap, h1, h2, Nat.lt_of_lt_of_le h3 hb.size, h4, h5, fun j hj => ?_, fun j hj => ?_⟩
  · rw [hb.cell (p := ⟨g, j, none⟩) h3]; exact h6 j hj
  · rw [hb.cell (p := ⟨g, j, none⟩) h3, hb.frozen (p := ⟨g, j, none⟩) h3]; exact h7 j hj

theorem setCells_keeps (b : Nat) : ∀ (vs : List Value) (o : Nat) (w : World), (w.setCells b o vs).os = w.os ∧ (w.setCells b o vs).tape = w.tape ∧ (w.setCells b o vs).output = w.output ∧ (w.setCells b o vs).heap.size = w.heap.size ∧ ∀ k, k ≠ b → (w.setCells b o vs).heap[k]? = w.heap[k]?
  | [], _, _ => ⟨rfl, rfl, rfl, rfl, fun _ _ => rfl⟩
  | v :: r, o, w => by
    obtain ⟨h1, h2, h3, h4, h5⟩ := setCells_keeps b r (o + 1) (w.setCell ⟨b, o, none⟩ v)
    exact ⟨h1, h2, h3, h4.trans (by simp [World.setCell]), fun k hk => (h5 k hk).trans (heap_setCell_other w ⟨b, o, none⟩ k v hk)⟩
theorem below_setCells {B b : Nat} (hB : B ≤ b) (w : World) (o : Nat) (vs : List Value) : Below B w (w.setCells b o vs) := by
  obtain ⟨h1, h2, h3, h4, h5⟩ := setCells_keeps b vs o w
  exact ⟨h1, h2, h3, by omega, fun k hk => h5 k (by omega)⟩

theorem byteCells_at (l : List UInt8) (j : Nat) (h : j < l.length) : (Lib.byteCells l)[j]? = some (.int .u8 (l[j].toNat : Int)) := by simp [Lib.byteCells, h]

theorem run_appendM (w : World) (tx ty : TypeId) (B : Nat) (l : List UInt8) (v : Value) (h : OwnM B l v w) (x : Value) (news : List UInt8) (hs : Src Tryd.prog 1 tx x news.length (Lib.byteCells news) w)
    (hlen : l.length + news.length ≤ 140737488355328) (hB : B ≤ w.heap.size) :
    ∃ v' w', (Builtin.append_ #[31, tx] ty #[v, x]).run Tryd.prog w = .ok v' w' ∧ OwnM B (l ++ news) v' w' ∧ Below B w w' := by
  obtain ⟨i0, hi, hz0, hz1, hz2⟩ := info_parts infoByte
  obtain ⟨g, cap, rfl, hBg, hg, hlc, hcm, hcl, hcap⟩ := h
  have hnl : (Lib.byteCells news).length = news.length := Lib.byteCells_length news
  by_cases hroom : l.length + news.length ≤ cap
  · refine ⟨_, _, run_append_room_src w 31 tx ty 5 i0 Tryd.underlying31 hi g 0 l.length cap x news.length (Lib.byteCells news) (by rw [hz1]; exact hs) hroom ?_ ?_, ?_, below_setCells hBg _ _ _⟩
    · intro j hj; rw [hz1]; exact (hcap _ (by omega)).1
    · intro j hj; rw [hz1]; exact (hcap _ (by omega)).2
    · rw [hz1, Nat.mul_one, Nat.zero_add]
      have hin := World.cell?_setCells_in g (Lib.byteCells news) l.length w (fun j hj => (hcap _ (by omega)).1)
      have hout := fun a ha => World.cell?_setCells_out g (Lib.byteCells news) l.length w a ha
      refine ⟨g, cap, by rw [List.length_append], hBg, by rw [(setCells_keeps g _ _ w).2.2.2.1]; exact hg, by rw [List.length_append]; exact hroom, hcm, fun j hj => ?_, fun j hj => ?_⟩
      · rw [List.length_append] at hj
        by_cases hjl : j < l.length
        · rw [hout ⟨g, j, none⟩ (fun _ _ => .inl hjl), hcl j hjl, List.getElem_append_left hjl]
        · have h2 := hin (j - l.length) (by omega)
          rw [show l.length + (j - l.length) = j by omega] at h2
          rw [h2, List.getElem_append_right (by omega)]
          have := byteCells_at news (j - l.length) (by omega)
          rw [List.getElem?_eq_getElem (by omega)] at this
          exact this
      · rw [World.frozen?_setCells]
        refine ⟨?_, (hcap j hj).2⟩
        by_cases hjr : l.length ≤ j ∧ j < l.length + news.length
        · have h2 := hin (j - l.length) (by omega)
          rw [show l.length + (j - l.length) = j by omega] at h2
          rw [h2]; rfl
        · rw [hout ⟨g, j, none⟩ (fun _ _ => by show j < l.length ∨ l.length + (Lib.byteCells news).length ≤ j; rw [hnl]; omega)]
          exact (hcap j hj).1
  · have hold := run_loadCells_list (P := Tryd.prog) (w := w.drew) ⟨g, 0, none⟩ (Lib.byteCells l) (fun j u hj => by
      have hjl : j < l.length := by have := (List.getElem?_eq_some_iff.1 hj).1; rwa [Lib.byteCells_length] at this
      rw [byteCells_at l j hjl] at hj
      rw [Addr.add_lit, Nat.zero_add]
      exact (hcl j hjl).trans hj)
    have hge := grownCap_ge w (l.length + news.length) cap 5
    have hcm2 : grownCap w (l.length + news.length) cap 5 ≤ maxLen := grownCap_le_maxLen w (l.length + news.length) cap 5 (by unfold maxLen; omega)
    have hr := run_append_grow_src w 31 tx ty 5 i0 (.int .u8 0) Tryd.underlying31 hi hz0 (some ⟨g, 0, none⟩) l.length cap (Lib.byteCells l) (by
      rw [hz1]
      show (loadCells ⟨g, 0, none⟩ (l.length * 1)).run Tryd.prog w.drew = _
      rw [Nat.mul_one, ← Lib.byteCells_length l]; exact hold) x news.length (Lib.byteCells news) (by rw [hz1]; exact hs) (by omega) (by omega) (by rw [hz2]; exact growslice_fits (by omega) (by omega))
    refine ⟨_, _, hr, ?_, ((Below.refl B w).drew).alloc (by exact hB) _⟩
    have hcells : ∀ (j : Nat), ((w.drew.alloc (.cells ((Lib.byteCells l ++ Lib.byteCells news).toArray ++ Builtin.zeroCells (Value.int IntKind.u8 0).cells (grownCap w (l.length + news.length) cap 5 - (l.length + news.length))) 5)).cell? ⟨w.heap.size, j, none⟩) = ((Lib.byteCells l ++ Lib.byteCells news).toArray ++ Builtin.zeroCells (Value.int IntKind.u8 0).cells (grownCap w (l.length + news.length) cap 5 - (l.length + news.length)))[j]? := fun j => World.cell?_alloc_at _ _ _ _ rfl
    have hzs : (Builtin.zeroCells (Value.int IntKind.u8 0).cells (grownCap w (l.length + news.length) cap 5 - (l.length + news.length))).size = grownCap w (l.length + news.length) cap 5 - (l.length + news.length) := by
      rw [size_zeroCells]; show _ * 1 = _; rw [Nat.mul_one]
    refine ⟨w.heap.size, _, by rw [List.length_append], hB, by simp, by rw [List.length_append]; exact hge, hcm2, fun j hj => ?_, fun j hj => ⟨?_, World.frozen?_alloc_at _ _ _ _ rfl⟩⟩
    · rw [List.length_append] at hj
      rw [hcells j, ← Lib.byteCells_append, Array.getElem?_append_left (by rw [List.size_toArray, Lib.byteCells_length, List.length_append]; exact hj), List.getElem?_toArray]
      exact byteCells_at (l ++ news) j (by rw [List.length_append]; exact hj)
    · rw [hcells j, Array.getElem?_eq_getElem (by rw [Array.size_append, hzs, List.size_toArray, List.length_append, Lib.byteCells_length, Lib.byteCells_length]; omega)]
      rfl

/-- []byte(s): the new row. -/
theorem bytesM (w : World) (s : ByteArray) (hs : s.size ≤ 140737488355328) : OwnM w.heap.size s.data.toList (.slice (some ⟨w.heap.size, 0, none⟩) s.size (grownCap w s.size 0 5)) (Lib.bytesWorld w 5 s) := by
  have hge := grownCap_ge w s.size 0 5
  have hcm2 : grownCap w s.size 0 5 ≤ maxLen := grownCap_le_maxLen w s.size 0 5 (by unfold maxLen; omega)
  have hsz : (Lib.bytesCells w 5 s).size = grownCap w s.size 0 5 := by
    unfold Lib.bytesCells
    rw [Array.size_append, Array.size_map, Array.size_replicate]
    have : s.data.size = s.size := rfl
    omega
  refine ⟨w.heap.size, _, by rw [Lib.size_eq], Nat.le_refl _, by rw [Lib.bytesWorld_size]; omega, by rw [← Lib.size_eq]; exact hge, hcm2, fun j hj => ?_, fun j hj => ?_⟩
  · rw [Lib.bytesWorld_cell w 5 s j (by rw [Lib.size_eq]; exact hj)]
    rw [List.getD_eq_getElem?_getD, List.getElem?_eq_getElem hj]
    rfl
  · have hn := Lib.bytesWorld_at_new w 5 s
    constructor
    · simp only [World.cell?, hn]
      simp [hsz, hj]
    · simp only [World.frozen?, hn, hsz]
      simp; omega
theorem bytes_below (w : World) (s : ByteArray) : Below w.heap.size w (Lib.bytesWorld w 5 s) := by
  refine ⟨?_, ?_, ?_, by rw [Lib.bytesWorld_size]; omega, fun k hk => Lib.bytesWorld_at_old w 5 s k hk⟩ <;> (unfold Lib.bytesWorld World.freeze; split <;> rfl)

theorem wpList_appendM (w : World) {ops : Array Oper} {rest : List Oper} {o : Oper} {a : Act} {Q : Exit → Act → World → Prop} (hgd : o.guard = none) (sl x : Operand) (tx : TypeId)
    (ho : o.op = .call { callee := .builtin .append, args := #[sl, x], argTypes := #[31, tx] }) (B : Nat) (l : List UInt8) (v : Value) (hs : a.eval sl = v) (h : OwnM B l v w) (y : Value) (hx : a.eval x = y) (news : List UInt8)
    (hsrc : Src Tryd.prog 1 tx y news.length (Lib.byteCells news) w) (hlen : l.length + news.length ≤ 140737488355328) (hB : B ≤ w.heap.size)
    (k : ∀ v' w', OwnM B (l ++ news) v' w' → Below B w w' → wpList Tryd.prog ops Q rest (a.put o.dst v') w') : wpList Tryd.prog ops Q (o :: rest) a w := by
  refine wpList_plain hgd fun K hK => ?_
  obtain ⟨v', w', hr, h2, h3⟩ := run_appendM w tx o.type B l v h y news hsrc hlen hB
  unfold Oper.wp execOp
  simp only [ho, resolve, invoke, builtin, Sem.run_bind, Sem.run_pure, Result.andThen_ok, List.map_toArray, List.map_cons, List.map_nil, hs, hx, hr]
  exact hK _ _ (k v' w' h2 h3)
theorem src_string (w : World) (s : ByteArray) : Src Tryd.prog 1 9 (.string s) s.data.toList.length (Lib.byteCells s.data.toList) w := by
  have := Src.ofString (P := Tryd.prog) w Tryd.underlying9 s
  rw [Lib.size_eq] at this
  exact this
theorem src_one (w : World) (c : UInt8) (T : TypeId) : Src Tryd.prog 1 31 (.slice (some ⟨w.heap.size, 0, none⟩) 1 1) [c].length (Lib.byteCells [c]) (w.alloc (.cells #[.int .u8 (c.toNat : Int)] T)) :=
  Src.ofSlice _ Tryd.underlying31 ⟨w.heap.size, 0, none⟩ 1 1 _ rfl (fun j u hj => by
    match j, hj with
    | 0, hj => simp [Lib.byteCells] at hj; subst hj; rw [Addr.add_lit]; exact World.cell?_alloc_at _ _ _ _ rfl) (fun u hu => by simp [Lib.byteCells] at hu; subst hu; rfl)

end Go.Proofs.YtpknkifmjokhgaaDoor
