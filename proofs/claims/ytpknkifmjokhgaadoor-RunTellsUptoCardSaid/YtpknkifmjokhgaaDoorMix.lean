/- A region that draws its order, walked once in the order of its text: loads and plain operations beside calls and allocations. -/
import Derived.OrdersHeld
import Derived.StillTail
import Derived.Tactics
namespace Go.Mix
open Go

section
variable {P : Program} {ops : Array Oper} {S : World → Prop} {ch : Nat → Bool}

/-- What an operation leaves: its slot alone has turned. -/
def PutOf (a : Act) (o : Oper) (a' : Act) : Prop := ∃ u, a'.tmps = (a.put o.dst u).tmps

def NoQ : Exit → Act → World → Prop := fun _ _ _ => False

theorem wp_peek {o : Oper} {a : Act} {w : World} {K : Act → World → Prop} (h : o.wp P a w K NoQ) : ∃ a' w', K a' w' ∧ PutOf a o a' := by
  unfold Oper.wp at h
  generalize (execOp a.eval o).run P w = r at h
  cases r with
  | ok n w' =>
    cases n <;> simp only [Oper.upon] at h
    case value v => exact ⟨_, _, h, v, rfl⟩
    case skip => exact ⟨_, _, h, _, rfl⟩
    case defer d => exact ⟨_, _, h, undef, by cases o.dst <;> rfl⟩
    case enter f args =>
      obtain ⟨e, w'', fr, hR, _⟩ := h []
      cases e with
      | returned v => exact ⟨_, _, hR, v, rfl⟩
      | panicked c => exact hR.elim
      | outgrown => obtain ⟨_, _, hf⟩ := hR; exact hf.elim
    case row row args =>
      obtain ⟨v, w'', hR, _⟩ := h { fn := 0, tmps := #[], todo := [], defers := [], mode := .run, kind := .normal } []
      exact ⟨_, _, hR, v, rfl⟩
    all_goals exact h.elim
  | halt x w' => cases x <;> simp only [Oper.upon] at h <;> exact h.elim

theorem wp_mono_put {o : Oper} {a : Act} {w : World} {K K' : Act → World → Prop} (hm : ∀ a' w', PutOf a o a' → K a' w' → K' a' w') (h : o.wp P a w K NoQ) : o.wp P a w K' NoQ := by
  unfold Oper.wp at *
  generalize (execOp a.eval o).run P w = r at h
  cases r with
  | ok n w' =>
    cases n <;> simp only [Oper.upon] at h ⊢
    case value v => exact hm _ _ ⟨v, rfl⟩ h
    case skip => exact hm _ _ ⟨_, rfl⟩ h
    case defer d => exact hm _ _ ⟨undef, by cases o.dst <;> rfl⟩ h
    case enter f args =>
      refine Calls.mono h fun e w'' he => ?_
      cases e with
      | returned u => exact hm _ _ ⟨u, rfl⟩ he
      | panicked c => exact he
      | outgrown => exact he
    case row row args => exact Rows.mono h fun u w'' he => hm _ _ ⟨u, rfl⟩ he
  | halt x w' => cases x <;> simp only [Oper.upon] at h ⊢ <;> exact h

/-- Another slot, at which the operation doesn't look, may be filled first, or behind it. -/
theorem wp_act {o : Oper} (hs : ∀ cs b, o.op ≠ .select cs b) {a : Act} {w : World} {d : Option Tmp} {v : Value} (h1 : ∀ t, d = some t → t ∉ o.looksAt ops) (h2 : ∀ t, d = some t → o.dst ≠ some t) {K : Act → World → Prop} :
    o.wp P (a.put d v) w K NoQ ↔ o.wp P a w (fun a' w' => K (a'.put d v) w') NoQ := by
  unfold Oper.wp
  rw [execOp_put o hs a d v h1]
  generalize (execOp a.eval o).run P w = r
  cases r with
  | ok n w' =>
    cases n <;> simp only [Oper.upon]
    case value u => rw [Act.put_comm a v u h2]
    case skip => rw [Act.put_comm a v undef h2]
    case defer e => rw [Act.put_defers a d v e, Act.put_comm _ v undef h2]
    case enter f args =>
      constructor <;> intro h <;> refine Calls.mono h fun e w'' he => ?_ <;> cases e
      · simpa only [Act.put_comm a v _ h2] using he
      · exact he
      · exact he
      · simpa only [Act.put_comm a v _ h2] using he
      · exact he
      · exact he
    case row row args =>
      constructor <;> intro h <;> refine Rows.mono h fun u w'' he => ?_
      · simpa only [Act.put_comm a v _ h2] using he
      · simpa only [Act.put_comm a v _ h2] using he
  | halt x w' => cases x <;> simp only [Oper.upon] <;> rfl

/-- What of a state an operation looks at. -/
theorem same_of_put {o y : Oper} (hs : ∀ cs b, y.op ≠ .select cs b) {a a' : Act} (h : PutOf a o a') (h1 : ∀ t, o.dst = some t → t ∉ y.looksAt ops) :
    execOp a'.eval y = execOp a.eval y ∧ Region.wanted y (yielded ops a'.tmps) = Region.wanted y (yielded ops a.tmps) := by
  obtain ⟨u, hu⟩ := h
  have e1 : a'.eval = (a.put o.dst u).eval := by funext x; cases x <;> simp [Act.eval, hu]
  rw [e1, hu]
  exact ⟨execOp_put y hs a o.dst u h1, wanted_put y a o.dst u h1⟩

/-- The operations l, in this order: those of 'ch' change the world. -/
def MixI (P : Program) (ops : Array Oper) (S : World → Prop) (ch : Nat → Bool) (E : Act → World → Prop) : List Nat → Act → World → Prop
  | [], a, w => E a w
  | i :: l, a, w => ∃ o, ops[i]? = some o ∧
      ((ch i = true ∧ Region.wanted o (yielded ops a.tmps) = true ∧ o.wp P a w (fun a' w' => S w' ∧ MixI P ops S ch E l a' w') NoQ) ∨
        (∃ v, YieldsIf P ops S o v a ∧ MixI P ops S ch E l (a.put o.dst v) w))

theorem yields_uniq {o : Oper} {v u : Value} {a : Act} {w : World} (hw : S w) (h : YieldsIf P ops S o v a) (k : YieldsIf P ops S o u a) : v = u := by
  rcases h with ⟨h1, h2⟩ | ⟨h1, rfl⟩ <;> rcases k with ⟨k1, k2⟩ | ⟨k1, rfl⟩
  · have := (h2 w hw).symm.trans (k2 w hw)
    simpa using this
  · rw [h1] at k1; cases k1
  · rw [h1] at k1; cases k1
  · rfl

theorem MixI.swap {E : Act → World → Prop} {x i : Nat} {l : List Nat} {a : Act} {w : World} (hsel : ∀ (j : Nat) (o : Oper) cs b, ops[j]? = some o → o.op ≠ .select cs b)
    (hap : ∀ ox oi, ops[x]? = some ox → ops[i]? = some oi → ox.apart ops oi = true) (hcc : ¬ (ch x = true ∧ ch i = true)) (hw : S w) (h : MixI P ops S ch E (x :: i :: l) a w) : MixI P ops S ch E (i :: x :: l) a w := by
  obtain ⟨ox, hox, h⟩ := h
  have hsx := fun cs b => hsel x ox cs b hox
  rcases h with ⟨cx, wx, h⟩ | ⟨v, yx, oi, hoi, h⟩
  · obtain ⟨a0, w0, ⟨hS0, oi, hoi, h0⟩, hput⟩ := wp_peek h
    have hsi := fun cs b => hsel i oi cs b hoi
    obtain ⟨p1, p2, p3⟩ := Oper.apart_spec (hap ox oi hox hoi)
    rcases h0 with ⟨ci, _⟩ | ⟨v0, y0, _⟩
    · exact absurd ⟨cx, ci⟩ hcc
    · obtain ⟨e1, e2⟩ := same_of_put (ops := ops) hsi hput p1
      have y0' : YieldsIf P ops S oi v0 a := YieldsIf.of_same (a := a0) y0 e1.symm e2.symm
      refine ⟨oi, hoi, .inr ⟨v0, y0', ox, hox, .inl ⟨cx, ?_, ?_⟩⟩⟩
      · rw [wanted_put ox a oi.dst v0 p3]; exact wx
      · rw [wp_act hsx p3 (fun t ht hx => p2 t hx ht)]
        refine wp_mono_put (fun a' w' hp hK => ?_) h
        obtain ⟨hS', oi', hoi', hK⟩ := hK
        obtain rfl : oi' = oi := Option.some.inj (hoi'.symm.trans hoi)
        rcases hK with ⟨ci, _⟩ | ⟨v1, y1, hK⟩
        · exact absurd ⟨cx, ci⟩ hcc
        · obtain ⟨e1, e2⟩ := same_of_put (ops := ops) hsi hp p1
          have y1' : YieldsIf P ops S oi' v1 a := YieldsIf.of_same (a := a') y1 e1.symm e2.symm
          obtain rfl := yields_uniq hw y1' y0'
          exact ⟨hS', hK⟩
  · have hsi := fun cs b => hsel i oi cs b hoi
    obtain ⟨p1, p2, p3⟩ := Oper.apart_spec (hap ox oi hox hoi)
    rcases h with ⟨ci, wi, h⟩ | ⟨u, yi, h⟩
    · rw [wanted_put oi a ox.dst v p1] at wi
      rw [wp_act hsi p1 p2] at h
      refine ⟨oi, hoi, .inl ⟨ci, wi, wp_mono_put (fun a' w' hp hK => ⟨hK.1, ox, hox, .inr ⟨v, ?_, hK.2⟩⟩) h⟩⟩
      obtain ⟨e1, e2⟩ := same_of_put (ops := ops) hsx hp p3
      exact YieldsIf.of_same (a := a) yx e1 e2
    · have yi' : YieldsIf P ops S oi u a := YieldsIf.of_same (a := a.put ox.dst v) yi (execOp_put oi hsi a ox.dst v p1).symm (wanted_put oi a ox.dst v p1).symm
      refine ⟨oi, hoi, .inr ⟨u, yi', ox, hox, .inr ⟨v, YieldsIf.of_same (a := a) yx (execOp_put ox hsx a oi.dst u p3) (wanted_put ox a oi.dst u p3), ?_⟩⟩⟩
      rw [← Act.put_comm a v u p2]
      exact h

/-- Whichever may come up now is brought to the front. -/
theorem MixI.front {E : Act → World → Prop} (hsel : ∀ (j : Nat) (o : Oper) cs b, ops[j]? = some o → o.op ≠ .select cs b) {i : Nat} : ∀ (l r : List Nat) (a : Act) (w : World),
    (∀ x ∈ l, (∀ ox oi, ops[x]? = some ox → ops[i]? = some oi → ox.apart ops oi = true) ∧ ¬ (ch x = true ∧ ch i = true)) → S w →
    MixI P ops S ch E (l ++ i :: r) a w → MixI P ops S ch E (i :: (l ++ r)) a w
  | [], _, _, _, _, _, h => h
  | x :: l, r, a, w, hx, hw, h => by
    refine MixI.swap hsel (hx x (by simp)).1 (hx x (by simp)).2 hw ?_
    obtain ⟨ox, hox, h⟩ := h
    refine ⟨ox, hox, ?_⟩
    rcases h with ⟨cx, wx, h⟩ | ⟨v, yx, h⟩
    · exact .inl ⟨cx, wx, wp_mono_put (fun a' w' _ hK => ⟨hK.1, MixI.front hsel l r a' w' (fun y hy => hx y (by simp [hy])) hK.1 hK.2⟩) h⟩
    · exact .inr ⟨v, yx, MixI.front hsel l r _ w (fun y hy => hx y (by simp [hy])) hw h⟩

theorem wpOp_of_front {E : Act → World → Prop} {Q : Exit → Act → World → Prop} {i : Nat} {l : List Nat} {a : Act} {w : World} (hw : S w) (h : MixI P ops S ch E (i :: l) a w) :
    wpOp P ops Q i (fun a' w' => S w' ∧ MixI P ops S ch E l a' w') a w := by
  obtain ⟨o, ho, h⟩ := h
  rcases h with ⟨_, hwt, h⟩ | ⟨v, y, h⟩
  · unfold wpOp
    simp only [ho, hwt, if_true]
    refine .inl ?_
    unfold Oper.wp at *
    generalize (execOp a.eval o).run P w = r at h
    cases r with
    | ok n w' =>
      cases n <;> simp only [Oper.upon] at h ⊢
      case enter f args =>
        refine Calls.mono h fun e w'' he => ?_
        cases e with
        | returned u => exact he
        | panicked c => exact he.elim
        | outgrown => obtain ⟨_, _, hf⟩ := he; exact hf.elim
      all_goals exact h
    | halt x w' => cases x <;> simp only [Oper.upon] at h <;> exact h.elim
  · exact y.wpOp ho hw ⟨hw, h⟩

/-! ### What is asked of a region, reckoned by the kernel -/
/-- Who comes ahead of operation i, straight or by others: bits. -/
def maskOk (ops : Array Oper) (m : Array Nat) : Bool :=
  (List.range ops.size).all fun i => match ops[i]? with
    | some o => m.getD i 0 == o.after.toList.foldl (fun s e => if Region.binds .any e then s ||| (2 ^ e.on ||| m.getD e.on 0) else s) 0 && o.after.all (fun e => !Region.binds .any e || decide (e.on < i))
    | none => true

theorem foldl_bit {l : List Edge} {m : Array Nat} {x : Nat} : ∀ (s : Nat), (l.foldl (fun s e => if Region.binds .any e then s ||| (2 ^ e.on ||| m.getD e.on 0) else s) s).testBit x = true →
    s.testBit x = true ∨ ∃ e ∈ l, Region.binds .any e = true ∧ (e.on = x ∨ (m.getD e.on 0).testBit x = true) := by
  induction l with
  | nil => intro s h; exact .inl h
  | cons e l ih =>
    intro s h
    rw [List.foldl_cons] at h
    rcases ih _ h with h | ⟨e', he', h⟩
    · split at h
      · rename_i hb
        simp only [Nat.testBit_or, Bool.or_eq_true, Nat.testBit_two_pow, decide_eq_true_eq] at h
        rcases h with h | h | h
        · exact .inl h
        · exact .inr ⟨e, by simp, hb, .inl h⟩
        · exact .inr ⟨e, by simp, hb, .inr h⟩
      · exact .inl h
    · exact .inr ⟨e', by simp [he'], h⟩

/-- What is listed is closed under 'comes ahead'. -/
def Closed (ops : Array Oper) (listed : Array Bool) : Prop := ∀ (j : Nat) (oj : Oper), ops[j]? = some oj → listed.getD j false = true → ∀ e ∈ oj.after, Region.binds .any e = true → listed.getD e.on false = true

theorem mask_listed {m : Array Nat} (hm : maskOk ops m = true) {listed : Array Bool} (hc : Closed ops listed) {x : Nat} : ∀ (n i : Nat) (o : Oper), i < n → ops[i]? = some o → (∀ e ∈ o.after, Region.binds .any e = true → listed.getD e.on false = true) →
    (m.getD i 0).testBit x = true → listed.getD x false = true
  | 0, _, _, h, _, _, _ => absurd h (Nat.not_lt_zero _)
  | n + 1, i, o, hi, ho, hall, hb => by
    have hlt : i < ops.size := (Array.getElem?_eq_some_iff.1 ho).1
    have h1 := List.all_eq_true.1 hm i (List.mem_range.2 hlt)
    simp only [ho, Bool.and_eq_true, beq_iff_eq] at h1
    rw [h1.1] at hb
    rcases foldl_bit 0 hb with hb | ⟨e, he, hbd, hb⟩
    · simp at hb
    · have hle : listed.getD e.on false = true := hall e (by simpa using he) hbd
      rcases hb with rfl | hb
      · exact hle
      · have hlt' : e.on < i := by
          have := Array.all_eq_true_iff_forall_mem.1 h1.2 e (by simpa using he)
          simp only [hbd, Bool.not_true, Bool.false_or, decide_eq_true_eq] at this
          exact this
        have hoe : ∃ oe, ops[e.on]? = some oe := ⟨_, Array.getElem?_eq_getElem (show e.on < ops.size by omega)⟩
        obtain ⟨oe, hoe⟩ := hoe
        exact mask_listed hm hc n e.on oe (by omega) hoe (hc e.on oe hoe hle) hb

/-- The first n1 operations in whatever order, the rest (which wait for all of them) in the order of the text. -/
def mixOk (ops : Array Oper) (m : Array Nat) (ch : Nat → Bool) (n1 : Nat) : Bool :=
  Region.noSelect ops && maskOk ops m && decide (n1 ≤ ops.size) &&
  ((List.range n1).all fun i => (List.range i).all fun x => (m.getD i 0).testBit x || (!(ch x && ch i) && match ops[x]?, ops[i]? with | some ox, some oi => ox.apart ops oi | _, _ => true)) &&
  ((List.range ops.size).all fun t => decide (t < n1) || (List.range n1).all fun x => (m.getD t 0).testBit x) &&
  Region.seqB .any ops (ops.size - n1) n1 ((List.range ops.size).map fun i => decide (i < n1)).toArray

structure Inv (ops : Array Oper) (n1 : Nat) (l : List Nat) (listed : Array Bool) : Prop where
  size : listed.size = ops.size
  closed : Closed ops listed
  rest : ∀ j, j < ops.size → (listed.getD j true = false ↔ (j ∈ l ∨ n1 ≤ j))
  lt : ∀ j ∈ l, j < n1
  nodup : l.Pairwise (· < ·)

theorem getD_of {listed : Array Bool} {i : Nat} (h : i < listed.size) : listed.getD i true = listed.getD i false := by simp [h]

theorem mix_any {E : Act → World → Prop} {Q : Exit → Act → World → Prop} {m : Array Nat} {n1 : Nat} (hok : mixOk ops m ch n1 = true)
    (hE : ∀ a w, E a w → wpList P ops Q (ops.toList.drop n1) a w) :
    ∀ (k : Nat) (l : List Nat) (listed : Array Bool) (a : Act) (w : World), l.length = k → Inv ops n1 l listed → S w → MixI P ops S ch E l a w →
      wpAny P .any ops Q (l.length + (ops.size - n1)) listed a w := by
  simp only [mixOk, Bool.and_eq_true, decide_eq_true_eq] at hok
  obtain ⟨⟨⟨⟨⟨hsel, hmask⟩, hn1⟩, hpair⟩, htail⟩, hseq⟩ := hok
  have hsel' := Region.noSelect_spec hsel
  intro k
  induction k with
  | zero =>
    intro l listed a w hl inv hS h
    obtain rfl := List.length_eq_zero_iff.1 hl
    have heq : listed = ((List.range ops.size).map fun i => decide (i < n1)).toArray := by
      apply Array.ext
      · simp [inv.size]
      · intro j h1 h2
        have hj : j < ops.size := by rw [← inv.size]; exact h1
        have hr := inv.rest j hj
        simp only [List.not_mem_nil, false_or] at hr
        have hg : listed.getD j true = listed[j] := by simp [h1]
        rw [hg] at hr
        simp only [List.getElem_toArray, List.getElem_map, List.getElem_range]
        cases hb : listed[j]
        · have := hr.1 hb; symm; simpa using this
        · symm; rw [decide_eq_true_eq]
          rcases Nat.lt_or_ge j n1 with h' | h'
          · exact h'
          · have := hr.2 h'; rw [hb] at this; cases this
    have hd : (ops.toList.drop n1).length = ops.size - n1 := by simp
    have := wpAny_of_seq (md := .any) (Q' := Q) (ops.toList.drop n1) n1 listed a w (fun j => by simp [List.getElem?_drop]) (by rw [hd, heq]; exact hseq) (hE a w h)
    rw [hd] at this
    simpa using this
  | succ k ih =>
    intro l listed a w hl inv hS h
    have hne : l ≠ [] := fun e => by rw [e] at hl; cases hl
    have hlen : l.length + (ops.size - n1) = (k + (ops.size - n1)) + 1 := by omega
    rw [hlen]
    -- the first of l is ready
    have hready : ∀ i, i ∈ Region.ready .any ops listed → i ∈ l := by
      intro i hi
      obtain ⟨hun, o, ho, hall⟩ := mem_ready.1 hi
      have hlt : i < ops.size := (Array.getElem?_eq_some_iff.1 ho).1
      rcases (inv.rest i hlt).1 hun with h' | h'
      · exact h'
      · exfalso
        obtain ⟨x, l', rfl⟩ := List.exists_cons_of_ne_nil hne
        have hx : x < n1 := inv.lt x (by simp)
        have h1 := List.all_eq_true.1 htail i (List.mem_range.2 hlt)
        simp only [Bool.or_eq_true, decide_eq_true_eq] at h1
        have h2 := (h1.resolve_left (by omega))
        have hb := List.all_eq_true.1 h2 x (List.mem_range.2 hx)
        have hxl := mask_listed hmask inv.closed (i + 1) i o (Nat.lt_succ_self _) ho hall hb
        have hxu := (inv.rest x (by omega)).2 (.inl (by simp))
        rw [getD_of (by rw [inv.size]; omega)] at hxu
        rw [hxu] at hxl; cases hxl
    refine ⟨fun h0 => ?_, fun i hi => ?_⟩
    · exfalso
      obtain ⟨x, l', rfl⟩ := List.exists_cons_of_ne_nil hne
      have hx : x < n1 := inv.lt x (by simp)
      obtain ⟨o, ho⟩ : ∃ o, ops[x]? = some o := ⟨_, Array.getElem?_eq_getElem (show x < ops.size by omega)⟩
      have hxr : x ∈ Region.ready .any ops listed := by
        refine mem_ready.2 ⟨(inv.rest x (by omega)).2 (.inl (by simp)), o, ho, fun e he hb => ?_⟩
        have h1 := List.all_eq_true.1 hmask x (List.mem_range.2 (by omega))
        simp only [ho, Bool.and_eq_true] at h1
        have h2 := Array.all_eq_true_iff_forall_mem.1 h1.2 e he
        simp only [hb, Bool.not_true, Bool.false_or, decide_eq_true_eq] at h2
        have h3 : ¬ listed.getD e.on true = false := fun hf => by
          rcases (inv.rest e.on (by omega)).1 hf with h' | h'
          · rcases List.mem_cons.1 h' with h' | h'
            · omega
            · have := List.rel_of_pairwise_cons inv.nodup h'; omega
          · omega
        rw [getD_of (by rw [inv.size]; omega)] at h3
        simpa using h3
      rw [h0] at hxr; cases hxr
    · have hil := hready i hi
      obtain ⟨hun, o, ho, hall⟩ := mem_ready.1 hi
      have hlt : i < ops.size := (Array.getElem?_eq_some_iff.1 ho).1
      have hi1 := inv.lt i hil
      obtain ⟨l1, l2, rfl⟩ := List.append_of_mem hil
      have hpw := inv.nodup
      rw [List.pairwise_append] at hpw
      obtain ⟨pw1, pw2, pw12⟩ := hpw
      have hfront := MixI.front (S := S) (ch := ch) (P := P) (E := E) hsel' (i := i) l1 l2 a w (fun x hx => by
        have hxi : x < i := pw12 x hx i (by simp)
        have h1 := List.all_eq_true.1 (List.all_eq_true.1 hpair i (List.mem_range.2 hi1)) x (List.mem_range.2 hxi)
        simp only [Bool.or_eq_true, Bool.and_eq_true, Bool.not_eq_true'] at h1
        rcases h1 with hb | ⟨h2, h3⟩
        · exfalso
          have hxl := mask_listed hmask inv.closed (i + 1) i o (Nat.lt_succ_self _) ho hall hb
          have hxu := (inv.rest x (by omega)).2 (.inl (by simp [hx]))
          rw [getD_of (by rw [inv.size]; omega)] at hxu
          rw [hxu] at hxl; cases hxl
        · refine ⟨fun ox oi hox hoi => ?_, fun hcc => ?_⟩
          · simpa only [hox, hoi] using h3
          · rw [hcc.1, hcc.2] at h2; cases h2) hS h
      have inv' : Inv ops n1 (l1 ++ l2) (listed.setIfInBounds i true) := by
        refine ⟨by simp [inv.size], ?_, ?_, ?_, ?_⟩
        · intro j oj hj hl' e he hb
          by_cases hij : i = j
          · subst hij
            obtain rfl : oj = o := Option.some.inj (hj.symm.trans ho)
            exact getD_set_true (hall e he hb)
          · rw [getD_set_ne false hij] at hl'
            exact getD_set_true (inv.closed j oj hj hl' e he hb)
        · intro j hj
          by_cases hij : i = j
          · subst hij
            have h1 : (listed.setIfInBounds i true).getD i true = true := by simp [inv.size, hlt]
            rw [h1]
            constructor
            · intro h'; cases h'
            · rintro (h' | h')
              · rcases List.mem_append.1 h' with h' | h'
                · have := pw12 i h' i (by simp); omega
                · have := List.rel_of_pairwise_cons pw2 h'; omega
              · omega
          · rw [getD_set_ne true hij, inv.rest j hj]
            constructor
            · rintro (h' | h')
              · refine .inl ?_
                rcases List.mem_append.1 h' with h' | h'
                · simp [h']
                · rcases List.mem_cons.1 h' with h' | h'
                  · exact absurd h'.symm hij
                  · simp [h']
              · exact .inr h'
            · rintro (h' | h')
              · refine .inl ?_
                rcases List.mem_append.1 h' with h' | h' <;> simp [h']
              · exact .inr h'
        · intro j hj
          exact inv.lt j (by rcases List.mem_append.1 hj with h' | h' <;> simp [h'])
        · rw [List.pairwise_append]
          exact ⟨pw1, (List.pairwise_cons.1 pw2).2, fun x hx y hy => pw12 x hx y (by simp [hy])⟩
      have hll : (l1 ++ l2).length = k := by simp at hl ⊢; omega
      refine wpOp_mono (fun a' w' hK => ?_) (wpOp_of_front (Q := Q) hS hfront)
      have := ih (l1 ++ l2) _ a' w' hll inv' hK.1 hK.2
      rw [hll] at this
      exact this

end
end Go.Mix
