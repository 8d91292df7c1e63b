/- copyAnswer: what its walk needs. -/
import Derived.Test.YtpknkifmjokhgaaDoorRtO
import Derived.Deep.RegionHeld3
import Derived.Test.YtpknkifmjokhgaaDoorMixK
import Derived.Lib.SmallJoins
set_option linter.unusedVariables false
set_option linter.unusedSimpArgs false
namespace Go.Proofs.YtpknkifmjokhgaaDoor
open Go Go.RowKit Go.Sort

def OutD.key (o : OutD) : Int × Int × Int × List MsgD × List RepD := (o.module, o.part, o.frame, o.ms, o.rs)

theorem frozen_of {w : World} {G : Nat} {cs : Array Value} {T : TypeId} (h : w.heap[G]? = some (.cells cs T (0, 0))) (j : Nat) : w.frozen? ⟨G, j, none⟩ = false := by
  simp [World.frozen?, h]
/-- A block of n cells stands, unfrozen. -/
def Blk (w : World) (G : Nat) (cs : Array Value) (T : TypeId) : Prop := w.heap[G]? = some (.cells cs T (0, 0))
theorem Blk.cell {w : World} {G : Nat} {cs : Array Value} {T : TypeId} (h : Blk w G cs T) (j : Nat) (v : Value) (hj : cs[j]? = some v) : w.cell? ⟨G, j, none⟩ = some v := by rw [Lib.cell_of_heap h]; exact hj
theorem Blk.fz {w : World} {G : Nat} {cs : Array Value} {T : TypeId} (h : Blk w G cs T) (j : Nat) : w.frozen? ⟨G, j, none⟩ = false := frozen_of h j
theorem Blk.below {w w' : World} {B G : Nat} {cs : Array Value} {T : TypeId} (h : Blk w G cs T) (hb : Below B w w') (hB : G < B) : Blk w' G cs T := (hb.block G hB).trans h
theorem Blk.alloc {w : World} {G : Nat} {cs : Array Value} {T : TypeId} (h : Blk w G cs T) (o : Obj) : Blk (w.alloc o) G cs T := (Lib.alloc_old _ _ _ (Array.getElem?_eq_some_iff.1 h).1).trans h
theorem Blk.drew {w : World} {G : Nat} {cs : Array Value} {T : TypeId} (h : Blk w G cs T) : Blk w.drew G cs T := h
theorem Blk.new (w : World) (cs : Array Value) (T : TypeId) : Blk (w.alloc (.cells cs T)) w.heap.size cs T := heap_alloc_new _ _
theorem Blk.new' (w : World) (cs : Array Value) (T : TypeId) {n : Nat} (hn : n = w.heap.size) : Blk (w.alloc (.cells cs T)) n cs T := by subst hn; exact heap_alloc_new _ _
theorem Blk.set {w : World} {G : Nat} {cs : Array Value} {T : TypeId} (h : Blk w G cs T) (j : Nat) (v : Value) : Blk (w.setCell ⟨G, j, none⟩ v) G (cs.setIfInBounds j v) T := Go.Joins.block_setCell h v

theorem fresh_set (w1 : World) (G lo : Nat) (code msg : Int) (AE' : Option Addr) (n cE' : Nat) (evs : List EvD) (hG : Blk w1 G #[.int .i64 0, .slice none 0 0, .slice none 0 0, .int .i64 0] 25) (m : Nat) (hm : m ≤ lo) (hlo : G < lo) (hr : Rob EvD.cs 3 w1 (fun b => b < lo) AE' evs) :
    Blk ((((w1.setCell ⟨G, 0, none⟩ (.int .i64 code)).setCell ⟨G, 1, none⟩ (.slice none 0 0)).setCell ⟨G, 2, none⟩ (.slice AE' n cE')).setCell ⟨G, 3, none⟩ (.int .i64 msg)) G #[.int .i64 code, .slice none 0 0, .slice AE' n cE', .int .i64 msg] 25 ∧
    Rob EvD.cs 3 ((((w1.setCell ⟨G, 0, none⟩ (.int .i64 code)).setCell ⟨G, 1, none⟩ (.slice none 0 0)).setCell ⟨G, 2, none⟩ (.slice AE' n cE')).setCell ⟨G, 3, none⟩ (.int .i64 msg)) (fun b => b < m ∨ b = G) AE' evs := by
  refine ⟨(((hG.set 0 _).set 1 _).set 2 _).set 3 _, hr.step (fun b hb hn => ?_) (by simp) (fun b _ e => by omega)⟩
  have hne : b ≠ G := by omega
  rw [heap_setCell_other _ _ _ _ hne, heap_setCell_other _ _ _ _ hne, heap_setCell_other _ _ _ _ hne, heap_setCell_other _ _ _ _ hne]
theorem fresh_alloc (w1 : World) (lo : Nat) (cs : Array Value) (T : TypeId) (AE' : Option Addr) (evs : List EvD) (m : Nat) (hm : m ≤ lo) (hr : Rob EvD.cs 3 w1 (fun b => b < lo) AE' evs) :
    Blk (w1.alloc (.cells cs T)) w1.heap.size cs T ∧ Rob EvD.cs 3 (w1.alloc (.cells cs T)) (fun b => b < m ∨ b = w1.heap.size) AE' evs :=
  ⟨Blk.new _ _ _, hr.step (fun b hb _ => Lib.alloc_old _ _ _ hb) (by simp) (fun b hb e => by omega)⟩

theorem wp_appendE {α : Type} {w : World} {o : Oper} {a : Act} {K : Act → World → Prop} {Q : Exit → Act → World → Prop} (s x : Operand) (t e : TypeId) (ho : o.op = .call { callee := .builtin .append, args := #[s, x], argTypes := #[t, t] })
    (f : α → List Value) (sz bytes : Nat) (he : ElemInfo e sz bytes) (ht : Tryd.prog.underlying t = some (.slice e)) (hs : ∀ x, (f x).length = sz) (hsz : 0 < sz) (hone : ∀ x, ∀ u ∈ f x, u.oneCell' = true)
    (B : Nat) (p : Option Addr) (hv : a.eval s = .slice p 0 0) (ys : List α) (A : Option Addr) (c : Nat) (hx : a.eval x = .slice A ys.length c) (hr : RowsAt f sz w B A ys) (hlen : ys.length ≤ 1073741824) (hby : bytes ≤ 1024)
    (k : ∀ A' c' w', Rob f sz w' (fun b => b < w.heap.size) A' ys → Below w.heap.size w w' → K (a.put o.dst (.slice A' ys.length c')) w') : Oper.wp Tryd.prog o a w K Q := by
  obtain ⟨A', c', w', hrn, h2, h3⟩ := run_appendE w t o.type e f sz bytes he ht hs hsz hone B p ys A c hr hlen hby
  unfold Oper.wp execOp
  simp only [ho, resolve, invoke, builtin, Sem.run_bind, Sem.run_pure, Result.andThen_ok, List.map_toArray, List.map_cons, List.map_nil, hv, hx, hrn]
  exact k A' c' w' h2 h3


theorem _root_.Go.World.ownsRow.off {w w' : World} {base : Nat} {e : TypeId} {size : Nat} {v : Value} {n : Nat} {xs : List Value} (h : w.ownsRow base e size v n xs) (ho : ∀ b, v.ownBlock = some b → w'.heap[b]? = w.heap[b]?) : w'.ownsRow base e size v n xs := by
  refine ⟨h.1, ?_⟩
  rcases h.2 with hn | ⟨g, cap, cur, rfl, hb, hgg, rest⟩
  · exact .inl hn
  · exact .inr ⟨g, cap, cur, rfl, hb, (ho g rfl).trans hgg, rest⟩

/-- What holds at the loop's head in copyAnswer. -/
structure CInv (w2 : World) (W0 G : Nat) (code : Int) (vE : Value) (msg : Int) (AE' : Option Addr) (evs : List EvD) (wr : World) (vO : Value) (os' : List OutD) : Prop where
  blk : Blk wr G #[.int .i64 code, vO, vE, .int .i64 msg] 25
  own : wr.ownsRow W0 43 5 vO os'.length (os'.flatMap OutD.cs)
  rob : ∀ o ∈ os', Rob MsgD.cs 2 wr (fun b => b < w2.heap.size ∨ b = G ∨ vO.ownBlock = some b) o.A1 o.ms ∧ Rob RepD.cs 4 wr (fun b => b < w2.heap.size ∨ b = G ∨ vO.ownBlock = some b) o.A2 o.rs
  ev : Rob EvD.cs 3 wr (fun b => b < w2.heap.size ∨ b = G ∨ vO.ownBlock = some b) AE' evs
  bel : Below w2.heap.size w2 wr
  size : W0 ≤ wr.heap.size

/-- The world behind the region that makes the answer's rows: the box's two fields are stored, the row is laid for append. -/
theorem CInv.wa {W5 : World} {B : Nat} (a b : Value) (cs : Array Value) (hB : B < W5.heap.size) :
    (∀ k, k < W5.heap.size → k ≠ B → (((W5.setCell ⟨B, 3, none⟩ a).setCell ⟨B, 4, none⟩ b).alloc (.cells cs 43)).heap[k]? = W5.heap[k]?) ∧ (((W5.setCell ⟨B, 3, none⟩ a).setCell ⟨B, 4, none⟩ b).alloc (.cells cs 43)).heap.size = W5.heap.size + 1 := by
  refine ⟨fun k hk hne => ?_, by simp⟩
  rw [Lib.alloc_old _ _ _ (by simpa using hk), heap_setCell_other _ _ _ _ hne, heap_setCell_other _ _ _ _ hne]

theorem CInv.ownAt {w2 : World} {W0 G : Nat} {code : Int} {vE : Value} {msg : Int} {AE' : Option Addr} {evs : List EvD} {wr : World} {vO : Value} {os' : List OutD} (h : CInv w2 W0 G code vE msg AE' evs wr vO os') {w0 W5 : World}
    (hbw : Below wr.heap.size wr w0) (h0 : w0.heap.size = wr.heap.size + 1) (hW : Below w0.heap.size w0 W5) (a b : Value) (cs : Array Value) :
    (((W5.setCell ⟨wr.heap.size, 3, none⟩ a).setCell ⟨wr.heap.size, 4, none⟩ b).alloc (.cells cs 43)).ownsRow W0 43 5 vO os'.length (os'.flatMap OutD.cs) := by
  refine h.own.off fun k hk => ?_
  have hlt := (h.own.lt k hk).2
  have hs := hW.size
  rw [(CInv.wa a b cs (by omega)).1 k (by omega) (by omega), hW.block k (by omega), hbw.block k hlt]

theorem CInv.step {w2 : World} {W0 G : Nat} {code : Int} {vE : Value} {msg : Int} {AE' : Option Addr} {evs : List EvD} {wr : World} {vO : Value} {os' : List OutD} (h : CInv w2 W0 G code vE msg AE' evs wr vO os') {w0 W5 w1 : World}
    (hbw : Below wr.heap.size wr w0) (h0 : w0.heap.size = wr.heap.size + 1) (hW : Below w0.heap.size w0 W5) (a b : Value) (cs : Array Value) (hG2 : w2.heap.size ≤ G) (hGW : G < W0) (x : OutD)
    (hm1 : Rob MsgD.cs 2 W5 (fun b => b < w0.heap.size) x.A1 x.ms) (hm2 : Rob RepD.cs 4 W5 (fun b => b < w0.heap.size) x.A2 x.rs) {v' : Value}
    (hown : w1.ownsRow W0 43 5 v' (os'.length + 1) (os'.flatMap OutD.cs ++ x.cs)) (hgrow : (((W5.setCell ⟨wr.heap.size, 3, none⟩ a).setCell ⟨wr.heap.size, 4, none⟩ b).alloc (.cells cs 43)).grownBy w1 vO.ownBlock)
    (hat : v'.ownBlock = vO.ownBlock ∨ v'.ownBlock = some (((W5.setCell ⟨wr.heap.size, 3, none⟩ a).setCell ⟨wr.heap.size, 4, none⟩ b).alloc (.cells cs 43)).heap.size) :
    CInv w2 W0 G code vE msg AE' evs (w1.setCell ⟨G, 1, none⟩ v') v' (os' ++ [x]) := by
  have hs := hW.size
  have hz2 := h.bel.size
  have hzW := h.size
  obtain ⟨ha, hz⟩ := CInv.wa (W5 := W5) a b cs (show wr.heap.size < W5.heap.size by omega)
  have hlo : ∀ k, vO.ownBlock = some k → W0 ≤ k ∧ k < wr.heap.size := h.own.lt
  generalize hwa : ((W5.setCell ⟨wr.heap.size, 3, none⟩ a).setCell ⟨wr.heap.size, 4, none⟩ b).alloc (.cells cs 43) = wa at *
  have hgz := hgrow.size
  -- old blocks
  have hold : ∀ k, k < wr.heap.size → k ≠ G → vO.ownBlock ≠ some k → (w1.setCell ⟨G, 1, none⟩ v').heap[k]? = wr.heap[k]? := fun k hk hg hn => by
    rw [heap_setCell_other _ _ _ _ hg, hgrow.block k (by omega) (fun e => hn e.symm), ha k (by omega) (by omega), hW.block k (by omega), hbw.block k hk]
  have hoff : Off wr (w1.setCell ⟨G, 1, none⟩ v') (fun b => b < w2.heap.size ∨ b = G ∨ vO.ownBlock = some b) := fun k hk hn => hold k hk (fun e => hn (.inr (.inl e))) (fun e => hn (.inr (.inr e)))
  have hoff5 : Off W5 (w1.setCell ⟨G, 1, none⟩ v') (fun b => b < w0.heap.size) := fun k hk hn => by
    have hn : w0.heap.size ≤ k := by simpa using hn
    rw [heap_setCell_other _ _ _ _ (show k ≠ G by omega), hgrow.block k (by omega) (fun e => by have := (hlo k e.symm).2; omega), ha k hk (by omega)]
  have hzz : (w1.setCell ⟨G, 1, none⟩ v').heap.size = w1.heap.size := by simp
  have hex : ∀ k, k < wr.heap.size → (k < w2.heap.size ∨ k = G ∨ v'.ownBlock = some k) → (k < w2.heap.size ∨ k = G ∨ vO.ownBlock = some k) := by
    rintro k hk (e | e | e)
    · exact .inl e
    · exact .inr (.inl e)
    · rcases hat with h' | h'
      · exact .inr (.inr (h'.symm.trans e))
      · rw [h'] at e; cases e; omega
  have hex5 : ∀ k, k < W5.heap.size → (k < w2.heap.size ∨ k = G ∨ v'.ownBlock = some k) → k < w0.heap.size := by
    rintro k hk (e | e | e)
    · omega
    · omega
    · rcases hat with h' | h'
      · have := (hlo k (h'.symm.trans e)).2; omega
      · rw [h'] at e; cases e; omega
  refine ⟨?_, ?_, ?_, h.ev.step hoff (by omega) hex, ?_, by omega⟩
  · have hb1 : Blk w1 G #[.int .i64 code, vO, vE, .int .i64 msg] 25 := by
      show w1.heap[G]? = _
      rw [hgrow.block G (by omega) (fun e => by have := (hlo G e.symm).1; omega), ha G (by omega) (by omega), hW.block G (by omega), hbw.block G (by omega)]
      exact h.blk
    exact hb1.set 1 v'
  · rw [List.length_append, List.flatMap_append, List.flatMap_cons, List.flatMap_nil, List.append_nil]
    exact ownsRow_setCell_below hown (by exact hGW) v'
  · intro o ho
    rcases List.mem_append.1 ho with ho | ho
    · exact ⟨(h.rob o ho).1.step hoff (by omega) hex, (h.rob o ho).2.step hoff (by omega) hex⟩
    · obtain rfl : o = x := by simpa using ho
      exact ⟨hm1.step hoff5 (by omega) hex5, hm2.step hoff5 (by omega) hex5⟩
  · have e1 : Below w2.heap.size w2 wa := by
      refine ⟨?_, ?_, ?_, by omega, fun k hk => by rw [ha k (by omega) (by omega), hW.block k (by omega), hbw.block k (by omega)]; exact h.bel.block k hk⟩
      · rw [← hwa]; exact hW.os.trans (hbw.os.trans h.bel.os)
      · rw [← hwa]; exact hW.tape.trans (hbw.tape.trans h.bel.tape)
      · rw [← hwa]; exact hW.output.trans (hbw.output.trans h.bel.output)
    exact (e1.grown hgrow (by omega) (fun k e => by have := (hlo k e).1; omega)).setCell (by exact hG2) _
theorem CInv.blkAt {w2 : World} {W0 G : Nat} {code : Int} {vE : Value} {msg : Int} {AE' : Option Addr} {evs : List EvD} {wr : World} {vO : Value} {os' : List OutD} (h : CInv w2 W0 G code vE msg AE' evs wr vO os') {w0 W5 w1 : World}
    (hbw : Below wr.heap.size wr w0) (h0 : w0.heap.size = wr.heap.size + 1) (hW : Below w0.heap.size w0 W5) (a b : Value) (cs : Array Value) (hGW : G < W0)
    (hgrow : (((W5.setCell ⟨wr.heap.size, 3, none⟩ a).setCell ⟨wr.heap.size, 4, none⟩ b).alloc (.cells cs 43)).grownBy w1 vO.ownBlock) : Blk w1 G #[.int .i64 code, vO, vE, .int .i64 msg] 25 := by
  have hs := hW.size
  have hzW := h.size
  obtain ⟨ha, hz⟩ := CInv.wa (W5 := W5) a b cs (show wr.heap.size < W5.heap.size by omega)
  show w1.heap[G]? = _
  rw [hgrow.block G (by omega) (fun e => by have := (h.own.lt G e.symm).1; omega), ha G (by omega) (by omega), hW.block G (by omega), hbw.block G (by omega)]
  exact h.blk
theorem own_slice {w : World} {base : Nat} {e : TypeId} {size : Nat} {v : Value} {n : Nat} {xs : List Value} (h : w.ownsRow base e size v n xs) : ∃ A c, v = .slice A n c := by
  rcases h.2 with ⟨rfl, rfl⟩ | ⟨g, cap, cur, rfl, _⟩
  · exact ⟨_, _, rfl⟩
  · exact ⟨_, _, rfl⟩
theorem keys_len {os' outs : List OutD} {k : Nat} (h : os'.map OutD.key = (outs.take k).map OutD.key) (hk : k ≤ outs.length) : os'.length = k := by
  have := congrArg List.length h
  simp only [List.length_map, List.length_take] at this
  omega
theorem keys_snoc {os' outs : List OutD} {k : Nat} {x x' : OutD} (h : os'.map OutD.key = (outs.take k).map OutD.key) (hk : k < outs.length) (hx : outs[k] = x) (hx' : x'.key = x.key) : (os' ++ [x']).map OutD.key = (outs.take (k + 1)).map OutD.key := by
  rw [List.take_succ_eq_append_getElem hk, List.map_append, List.map_append, h, hx, List.map_cons, List.map_cons, hx']
end Go.Proofs.YtpknkifmjokhgaaDoor
