/- A region that draws its order, by contracts of its operations that survive growth: no order matters. -/
import Derived.Test.YtpknkifmjokhgaaDoorMixB
namespace Go.Mix
open Go Go.RowKit

section
variable {P : Program} {ops : Array Oper}

/-- The act behind the operations of l. -/
def putsOf (ops : Array Oper) (vs : Nat → Value) : List Nat → Act → Act
  | [], a => a
  | j :: l, a => putsOf ops vs l (match ops[j]? with | some o => a.put o.dst (vs j) | none => a)
theorem putsOf_append (vs : Nat → Value) : ∀ (l r : List Nat) (a : Act), putsOf ops vs (l ++ r) a = putsOf ops vs r (putsOf ops vs l a)
  | [], _, _ => rfl
  | _ :: l, r, _ => putsOf_append vs l r _
theorem putsOf_congr (vs vs' : Nat → Value) : ∀ (l : List Nat) (a : Act), (∀ j ∈ l, vs j = vs' j) → putsOf ops vs l a = putsOf ops vs' l a
  | [], _, _ => rfl
  | j :: l, a, h => by
    unfold putsOf
    rw [h j (by simp)]
    exact putsOf_congr vs vs' l _ (fun x hx => h x (by simp [hx]))

/-- An operation with another slot goes behind. -/
theorem putsOf_put (vs : Nat → Value) (d : Option Tmp) (u : Value) : ∀ (l : List Nat) (a : Act), (∀ j ∈ l, ∀ o, ops[j]? = some o → ∀ t, d = some t → o.dst ≠ some t) → putsOf ops vs l (a.put d u) = (putsOf ops vs l a).put d u
  | [], _, _ => rfl
  | j :: l, a, h => by
    unfold putsOf
    have ih := putsOf_put vs d u l
    cases ho : ops[j]? with
    | none => exact ih a (fun x hx => h x (by simp [hx]))
    | some o =>
      simp only
      rw [Act.put_comm a u (vs j) (h j (by simp) o ho)]
      exact ih _ (fun x hx => h x (by simp [hx]))

/-- What o looks at stands alike in both. -/
def Alike (ops : Array Oper) (o : Oper) (a b : Act) : Prop := execOp a.eval o = execOp b.eval o ∧ Region.wanted o (yielded ops a.tmps) = Region.wanted o (yielded ops b.tmps)
theorem Alike.refl (o : Oper) (a : Act) : Alike ops o a a := ⟨rfl, rfl⟩
theorem Alike.trans {o : Oper} {a b c : Act} (h : Alike ops o a b) (k : Alike ops o b c) : Alike ops o a c := ⟨h.1.trans k.1, h.2.trans k.2⟩
theorem Alike.put {o : Oper} (hs : ∀ cs b, o.op ≠ .select cs b) (a : Act) (d : Option Tmp) (v : Value) (h : ∀ t, d = some t → t ∉ o.looksAt ops) : Alike ops o (a.put d v) a := ⟨execOp_put o hs a d v h, wanted_put o a d v h⟩

/-- The puts that o doesn't look at and that stand apart from the others may be left out. -/
theorem alike_puts (vs : Nat → Value) {o : Oper} (hs : ∀ cs b, o.op ≠ .select cs b) (p : Nat → Bool) : ∀ (l : List Nat) (a : Act),
    (∀ x ∈ l, p x = false → ∀ ox, ops[x]? = some ox → (∀ t, ox.dst = some t → t ∉ o.looksAt ops)) →
    (l.Pairwise fun x y => ∀ ox oy, ops[x]? = some ox → ops[y]? = some oy → ∀ t, ox.dst = some t → oy.dst ≠ some t) →
    Alike ops o (putsOf ops vs l a) (putsOf ops vs (l.filter p) a)
  | [], _, _, _ => Alike.refl _ _
  | x :: l, a, h, hd => by
    have ih := fun a => alike_puts vs hs p l a (fun y hy => h y (by simp [hy])) (List.pairwise_cons.1 hd).2
    have hx := (List.pairwise_cons.1 hd).1
    cases hp : p x with
    | true => rw [List.filter_cons_of_pos hp]; unfold putsOf; exact ih _
    | false =>
      rw [List.filter_cons_of_neg (by simp [hp])]
      cases ho : ops[x]? with
      | none =>
        show Alike ops o (putsOf ops vs l (match ops[x]? with | some o => a.put o.dst (vs x) | none => a)) _
        rw [ho]
        exact ih a
      | some ox =>
        refine Alike.trans ?_ (ih a)
        show Alike ops o (putsOf ops vs l (match ops[x]? with | some o => a.put o.dst (vs x) | none => a)) _
        rw [ho]
        show Alike ops o (putsOf ops vs l (a.put ox.dst (vs x))) _
        rw [putsOf_put vs ox.dst (vs x) l a (fun j hj oj hoj t ht => hx j hj ox oj ho hoj t ht)]
        exact Alike.put hs _ _ _ (h x (by simp) hp ox ho)

theorem put_same {a b : Act} (hz : a.tmps.size = b.tmps.size) {d : Option Tmp} {v u : Value} (h : b.put d v = b.put d u) : a.put d v = a.put d u := by
  cases d with
  | none => rfl
  | some t =>
    have h1 := congrArg (fun x => x.tmps[t]?) h
    simp only [Act.put] at h1 ⊢
    by_cases ht : t < b.tmps.size
    · simp [ht] at h1
      rw [h1]
    · have hle : a.tmps.size ≤ t := by rw [hz]; exact Nat.le_of_not_lt ht
      rw [Array.setIfInBounds_eq_of_size_le hle, Array.setIfInBounds_eq_of_size_le hle]

theorem wp_alike {o : Oper} {a b : Act} {w : World} {G : Value → World → Prop} (hz : a.tmps.size = b.tmps.size) (he : execOp a.eval o = execOp b.eval o)
    (h : o.wp P b w (fun b' w' => ∃ v, b' = b.put o.dst v ∧ G v w') NoQ) : o.wp P a w (fun a' w' => ∃ v, a' = a.put o.dst v ∧ G v w') NoQ := by
  unfold Oper.wp at *
  rw [he]
  generalize (execOp b.eval o).run P w = r at h
  cases r with
  | ok n w' =>
    cases n <;> simp only [Oper.upon] at h ⊢
    case value v => obtain ⟨u, hu, hG⟩ := h; exact ⟨u, put_same hz hu, hG⟩
    case skip => obtain ⟨u, hu, hG⟩ := h; exact ⟨u, put_same hz hu, hG⟩
    case defer d =>
      obtain ⟨u, hu, _⟩ := h
      have := congrArg (fun x => x.defers.length) hu
      cases hd : o.dst <;> simp [Act.put, hd] at this
    case enter f args =>
      refine Calls.mono h fun e w'' he => ?_
      cases e with
      | returned v => obtain ⟨u, hu, hG⟩ := he; exact ⟨u, put_same hz hu, hG⟩
      | panicked c => exact he
      | outgrown => exact he
    case row row args => exact Rows.mono h fun v w'' he => by obtain ⟨u, hu, hG⟩ := he; exact ⟨u, put_same hz hu, hG⟩
    all_goals exact h
  | halt x w' => cases x <;> simp only [Oper.upon] at h ⊢ <;> exact h

def upd (vs : Nat → Value) (i : Nat) (v : Value) : Nat → Value := fun j => if j = i then v else vs j
theorem upd_self (vs : Nat → Value) (i : Nat) (v : Value) : upd vs i v i = v := by simp [upd]
theorem upd_ne (vs : Nat → Value) {i j : Nat} (v : Value) (h : j ≠ i) : upd vs i v j = vs j := by simp [upd, h]

theorem puts_insert (vs : Nat → Value) (l : List Nat) (hn : l.Nodup) (L L' : Nat → Bool) {i : Nat} (hi : i ∈ l) (h0 : L i = false) (h1 : L' i = true) (hL : ∀ j ∈ l, j ≠ i → L' j = L j) {o : Oper} (ho : ops[i]? = some o)
    (hd : ∀ j ∈ l, j ≠ i → ∀ oj, ops[j]? = some oj → ∀ t, o.dst = some t → oj.dst ≠ some t) (v : Value) (a : Act) :
    (putsOf ops vs (l.filter L) a).put o.dst v = putsOf ops (upd vs i v) (l.filter L') a := by
  obtain ⟨s, t, rfl⟩ := List.append_of_mem hi
  rw [List.nodup_append] at hn
  obtain ⟨n1, n2, n3⟩ := hn
  have hs : ∀ x ∈ s, x ≠ i := fun x hx e => n3 x hx i (by simp) e
  have ht : ∀ x ∈ t, x ≠ i := fun x hx e => by subst e; exact (List.nodup_cons.1 n2).1 hx
  have es : s.filter L' = s.filter L := List.filter_congr fun x hx => hL x (by simp [hx]) (hs x hx)
  have et : t.filter L' = t.filter L := List.filter_congr fun x hx => hL x (by simp [hx]) (ht x hx)
  rw [List.filter_append, List.filter_append, List.filter_cons_of_neg (by simp [h0]), List.filter_cons_of_pos h1, es, et, putsOf_append, putsOf_append]
  show _ = putsOf ops (upd vs i v) (t.filter L) (match ops[i]? with | some o => (putsOf ops (upd vs i v) (s.filter L) a).put o.dst (upd vs i v i) | none => _)
  rw [ho]
  show _ = putsOf ops (upd vs i v) (t.filter L) ((putsOf ops (upd vs i v) (s.filter L) a).put o.dst (upd vs i v i))
  rw [upd_self, putsOf_congr (upd vs i v) vs (s.filter L) a (fun j hj => upd_ne vs v (hs j (List.mem_filter.1 hj).1)), putsOf_congr (upd vs i v) vs (t.filter L) _ (fun j hj => upd_ne vs v (ht j (List.mem_filter.1 hj).1))]
  exact (putsOf_put vs o.dst v (t.filter L) _ (fun j hj oj hoj => hd j (by simp [(List.mem_filter.1 hj).1]) (ht j (List.mem_filter.1 hj).1) oj hoj)).symm

/-- What is asked of a region; the tail waits for all of the first n1. -/
def mixKOk (ops : Array Oper) (m : Array Nat) (n1 : Nat) : Bool :=
  Region.noSelect ops && maskOk ops m && decide (n1 ≤ ops.size) &&
  ((List.range n1).all fun i => (List.range i).all fun x => ((m.getD i 0).testBit x || match ops[x]?, ops[i]? with | some ox, some oi => ox.apart ops oi | _, _ => true) && match ops[x]?, ops[i]? with | some ox, some oi => ox.dst.isNone || ox.dst != oi.dst | _, _ => true) &&
  ((List.range ops.size).all fun t => decide (t < n1) || (List.range n1).all fun x => (m.getD t 0).testBit x) &&
  ((List.range n1).all fun i => match ops[i]? with | some o => o.guard.isNone | none => true) &&
  Region.seqB .any ops (ops.size - n1) n1 ((List.range ops.size).map fun i => decide (i < n1)).toArray

theorem putsOf_size (vs : Nat → Value) : ∀ (l : List Nat) (a : Act), (putsOf ops vs l a).tmps.size = a.tmps.size
  | [], _ => rfl
  | j :: l, a => by
    unfold putsOf
    rw [putsOf_size vs l]
    cases ops[j]? with
    | none => rfl
    | some o => cases hd : o.dst <;> simp [Act.put, hd]

variable {S : World → Prop}
set_option maxHeartbeats 1000000 in
theorem mixK_any {R : Nat → (Nat → Value) → World → Prop} {a0 : Act} {Q : Exit → Act → World → Prop} {m : Array Nat} {n1 : Nat} (hok : mixKOk ops m n1 = true)
    (hS : ∀ W W', S W → Below W.heap.size W W' → S W')
    (hP : ∀ i, i < n1 → ∀ vs W W', Below W.heap.size W W' → R i vs W → R i vs W')
    (hC : ∀ i, i < n1 → ∀ vs vs' W, (∀ j, j = i ∨ (j < i ∧ (m.getD i 0).testBit j = true) → vs j = vs' j) → R i vs W → R i vs' W)
    (hR : ∀ i, i < n1 → ∀ o, ops[i]? = some o → ∀ vs W, S W → (∀ j, j < i → (m.getD i 0).testBit j = true → R j vs W) →
      o.wp P (putsOf ops vs ((List.range i).filter fun j => (m.getD i 0).testBit j) a0) W (fun b' W' => ∃ v, b' = (putsOf ops vs ((List.range i).filter fun j => (m.getD i 0).testBit j) a0).put o.dst v ∧ (Below W.heap.size W W' ∧ R i (upd vs i v) W')) NoQ)
    (hE : ∀ vs W, S W → (∀ j, j < n1 → R j vs W) → wpList P ops Q (ops.toList.drop n1) (putsOf ops vs (List.range n1) a0) W) :
    ∀ (k : Nat) (l : List Nat) (listed : Array Bool) (vs : Nat → Value) (w : World), l.length = k → Inv ops n1 l listed → S w → (∀ j, j < n1 → listed.getD j false = true → R j vs w) →
      wpAny P .any ops Q (l.length + (ops.size - n1)) listed (putsOf ops vs ((List.range n1).filter fun j => listed.getD j false) a0) w := by
  simp only [mixKOk, Bool.and_eq_true, decide_eq_true_eq] at hok
  obtain ⟨⟨⟨⟨⟨⟨hsel, hmask⟩, hn1⟩, hpair⟩, htail⟩, hguard⟩, hseq⟩ := hok
  have hsel' := Region.noSelect_spec hsel
  have hpair' : ∀ i, i < n1 → ∀ x, x < i → ∀ ox oi, ops[x]? = some ox → ops[i]? = some oi → ((m.getD i 0).testBit x = true ∨ ox.apart ops oi = true) ∧ (∀ t, ox.dst = some t → oi.dst ≠ some t) := by
    intro i hi x hx ox oi hox hoi
    have h1 := List.all_eq_true.1 (List.all_eq_true.1 hpair i (List.mem_range.2 hi)) x (List.mem_range.2 hx)
    simp only [hox, hoi, Bool.and_eq_true, Bool.or_eq_true] at h1
    refine ⟨h1.1, fun t ht he => ?_⟩
    rcases h1.2 with h2 | h2
    · rw [ht] at h2; cases h2
    · rw [ht, he] at h2; simp at h2
  have hdst : ∀ x y, x < n1 → y < n1 → x ≠ y → ∀ ox oy, ops[x]? = some ox → ops[y]? = some oy → ∀ t, ox.dst = some t → oy.dst ≠ some t := by
    intro x y hx hy hne ox oy hox hoy t ht he
    rcases Nat.lt_or_gt_of_ne hne with h | h
    · exact (hpair' y hy x h ox oy hox hoy).2 t ht he
    · exact (hpair' x hx y h oy ox hoy hox).2 t he ht
  intro k
  induction k with
  | zero =>
    intro l listed vs w hl inv hSw hR'
    obtain rfl := List.length_eq_zero_iff.1 hl
    have heq : listed = ((List.range ops.size).map fun i => decide (i < n1)).toArray := by
      apply Array.ext
      · simp [inv.size]
      · intro j h1 h2
        have hj : j < ops.size := by rw [← inv.size]; exact h1
        have hr := inv.rest j hj
        simp only [List.not_mem_nil, false_or] at hr
        have hg : listed.getD j true = listed[j] := by simp [h1]
        rw [hg] at hr
        simp only [List.getElem_toArray, List.getElem_map, List.getElem_range]
        cases hb : listed[j]
        · have := hr.1 hb; symm; simpa using this
        · symm; rw [decide_eq_true_eq]
          rcases Nat.lt_or_ge j n1 with h' | h'
          · exact h'
          · have := hr.2 h'; rw [hb] at this; cases this
    have hall : ∀ j, j < n1 → listed.getD j false = true := fun j hj => by
      have h := inv.rest j (by omega)
      simp only [List.not_mem_nil, false_or] at h
      cases hb : listed.getD j false with
      | true => rfl
      | false => exact absurd (h.1 (by rw [getD_of (by rw [inv.size]; omega)]; exact hb)) (by omega)
    have hfil : (List.range n1).filter (fun j => listed.getD j false) = List.range n1 := List.filter_eq_self.2 fun j hj => hall j (List.mem_range.1 hj)
    rw [hfil]
    have hd : (ops.toList.drop n1).length = ops.size - n1 := by simp
    have := wpAny_of_seq (md := .any) (Q' := Q) (ops.toList.drop n1) n1 listed (putsOf ops vs (List.range n1) a0) w (fun j => by simp [List.getElem?_drop]) (by rw [hd, heq]; exact hseq) (hE vs w hSw (fun j hj => hR' j hj (hall j hj)))
    rw [hd] at this
    simpa using this
  | succ k ih =>
    intro l listed vs w hl inv hSw hR'
    have hne : l ≠ [] := fun e => by rw [e] at hl; cases hl
    have hlen : l.length + (ops.size - n1) = (k + (ops.size - n1)) + 1 := by omega
    rw [hlen]
    -- the first of l is ready
    have hready : ∀ i, i ∈ Region.ready .any ops listed → i ∈ l := by
      intro i hi
      obtain ⟨hun, o, ho, hall⟩ := mem_ready.1 hi
      have hlt : i < ops.size := (Array.getElem?_eq_some_iff.1 ho).1
      rcases (inv.rest i hlt).1 hun with h' | h'
      · exact h'
      · exfalso
        obtain ⟨x, l', rfl⟩ := List.exists_cons_of_ne_nil hne
        have hx : x < n1 := inv.lt x (by simp)
        have h1 := List.all_eq_true.1 htail i (List.mem_range.2 hlt)
        simp only [Bool.or_eq_true, decide_eq_true_eq] at h1
        have h2 := (h1.resolve_left (by omega))
        have hb := List.all_eq_true.1 h2 x (List.mem_range.2 hx)
        have hxl := mask_listed hmask inv.closed (i + 1) i o (Nat.lt_succ_self _) ho hall hb
        have hxu := (inv.rest x (by omega)).2 (.inl (by simp))
        rw [getD_of (by rw [inv.size]; omega)] at hxu
        rw [hxu] at hxl; cases hxl
    refine ⟨fun h0 => ?_, fun i hi => ?_⟩
    · exfalso
      obtain ⟨x, l', rfl⟩ := List.exists_cons_of_ne_nil hne
      have hx : x < n1 := inv.lt x (by simp)
      obtain ⟨o, ho⟩ : ∃ o, ops[x]? = some o := ⟨_, Array.getElem?_eq_getElem (show x < ops.size by omega)⟩
      have hxr : x ∈ Region.ready .any ops listed := by
        refine mem_ready.2 ⟨(inv.rest x (by omega)).2 (.inl (by simp)), o, ho, fun e he hb => ?_⟩
        have h1 := List.all_eq_true.1 hmask x (List.mem_range.2 (by omega))
        simp only [ho, Bool.and_eq_true] at h1
        have h2 := Array.all_eq_true_iff_forall_mem.1 h1.2 e he
        simp only [hb, Bool.not_true, Bool.false_or, decide_eq_true_eq] at h2
        have h3 : ¬ listed.getD e.on true = false := fun hf => by
          rcases (inv.rest e.on (by omega)).1 hf with h' | h'
          · rcases List.mem_cons.1 h' with h' | h'
            · omega
            · have := List.rel_of_pairwise_cons inv.nodup h'; omega
          · omega
        rw [getD_of (by rw [inv.size]; omega)] at h3
        simpa using h3
      rw [h0] at hxr; cases hxr
    · have hil := hready i hi
      obtain ⟨hun, o, ho, hall⟩ := mem_ready.1 hi
      have hlt : i < ops.size := (Array.getElem?_eq_some_iff.1 ho).1
      have hi1 := inv.lt i hil
      obtain ⟨l1, l2, rfl⟩ := List.append_of_mem hil
      have hpw := inv.nodup
      rw [List.pairwise_append] at hpw
      obtain ⟨pw1, pw2, pw12⟩ := hpw
      have inv' : Inv ops n1 (l1 ++ l2) (listed.setIfInBounds i true) := by
        refine ⟨by simp [inv.size], ?_, ?_, ?_, ?_⟩
        · intro j oj hj hl' e he hb
          by_cases hij : i = j
          · subst hij
            obtain rfl : oj = o := Option.some.inj (hj.symm.trans ho)
            exact getD_set_true (hall e he hb)
          · rw [getD_set_ne false hij] at hl'
            exact getD_set_true (inv.closed j oj hj hl' e he hb)
        · intro j hj
          by_cases hij : i = j
          · subst hij
            have h1 : (listed.setIfInBounds i true).getD i true = true := by simp [inv.size, hlt]
            rw [h1]
            constructor
            · intro h'; cases h'
            · rintro (h' | h')
              · rcases List.mem_append.1 h' with h' | h'
                · have := pw12 i h' i (by simp); omega
                · have := List.rel_of_pairwise_cons pw2 h'; omega
              · omega
          · rw [getD_set_ne true hij, inv.rest j hj]
            constructor
            · rintro (h' | h')
              · refine .inl ?_
                rcases List.mem_append.1 h' with h' | h'
                · simp [h']
                · rcases List.mem_cons.1 h' with h' | h'
                  · exact absurd h'.symm hij
                  · simp [h']
              · exact .inr h'
            · rintro (h' | h')
              · refine .inl ?_
                rcases List.mem_append.1 h' with h' | h' <;> simp [h']
              · exact .inr h'
        · intro j hj
          exact inv.lt j (by rcases List.mem_append.1 hj with h' | h' <;> simp [h'])
        · rw [List.pairwise_append]
          exact ⟨pw1, (List.pairwise_cons.1 pw2).2, fun x hx y hy => pw12 x hx y (by simp [hy])⟩
      have hll : (l1 ++ l2).length = k := by simp at hl ⊢; omega
      have hun' : listed.getD i false = false := by rw [← getD_of (by rw [inv.size]; exact hlt)]; exact hun
      have hpred : ∀ j, (m.getD i 0).testBit j = true → listed.getD j false = true := fun j hb => mask_listed hmask inv.closed (i + 1) i o (Nat.lt_succ_self _) ho hall hb
      have hob := hR i hi1 o ho vs w hSw (fun j hj hb => hR' j (by omega) (hpred j hb))
      have hal : Alike ops o (putsOf ops vs ((List.range n1).filter fun j => listed.getD j false) a0) (putsOf ops vs ((List.range i).filter fun j => (m.getD i 0).testBit j) a0) := by
        have h1 := alike_puts (ops := ops) vs (o := o) (fun cs b => hsel' i o cs b ho) (fun j => decide (j < i) && (m.getD i 0).testBit j) ((List.range n1).filter fun j => listed.getD j false) a0
          (fun x hx hp ox hox t ht => by
            obtain ⟨hx1, hx2⟩ := List.mem_filter.1 hx
            have hx1 := List.mem_range.1 hx1
            rcases Nat.lt_trichotomy x i with h | h | h
            · rcases (hpair' i hi1 x h ox o hox ho).1 with hb | hb
              · have hp : (decide (x < i) && (m.getD i 0).testBit x) = false := hp
                rw [hb, decide_eq_true h] at hp; cases hp
              · exact (Oper.apart_spec hb).1 t ht
            · subst h; rw [hun'] at hx2; cases hx2
            · rcases (hpair' x hx1 i h o ox ho hox).1 with hb | hb
              · exfalso
                have := mask_listed hmask inv.closed (x + 1) x ox (Nat.lt_succ_self _) hox (inv.closed x ox hox hx2) hb
                rw [hun'] at this; cases this
              · exact (Oper.apart_spec hb).2.2 t ht)
          ((List.Pairwise.filter _ (List.nodup_range)).imp_of_mem fun hx hy hne ox oy hox hoy t ht => hdst _ _ (List.mem_range.1 (List.mem_filter.1 hx).1) (List.mem_range.1 (List.mem_filter.1 hy).1) hne ox oy hox hoy t ht)
        have e : ((List.range n1).filter fun j => listed.getD j false).filter (fun j => decide (j < i) && (m.getD i 0).testBit j) = (List.range i).filter fun j => (m.getD i 0).testBit j := by
          have hsplit : List.range n1 = List.range i ++ (List.range (n1 - i)).map (i + ·) := by
            rw [← List.range_add]; congr 1; omega
          rw [hsplit, List.filter_append, List.filter_append, List.filter_filter, List.filter_filter]
          have e2 : ((List.range (n1 - i)).map (i + ·)).filter (fun a => (decide (a < i) && (m.getD i 0).testBit a) && listed.getD a false) = [] := List.filter_eq_nil_iff.2 fun a ha => by
            obtain ⟨b, _, rfl⟩ := List.mem_map.1 ha
            have hb : decide (i + b < i) = false := decide_eq_false (by omega)
            rw [hb]; simp
          rw [e2, List.append_nil]
          refine List.filter_congr fun a ha => ?_
          have h := List.mem_range.1 ha
          cases hb : (m.getD i 0).testBit a with
          | true => simp [h, hpred a hb]
          | false => simp
        rw [e] at h1
        exact h1
      have hw := wp_alike (by rw [putsOf_size, putsOf_size]) hal.1 hob
      have hwt : Region.wanted o (yielded ops (putsOf ops vs ((List.range n1).filter fun j => listed.getD j false) a0).tmps) = true := by
        have := List.all_eq_true.1 hguard i (List.mem_range.2 hi1)
        simp only [ho, Option.isNone_iff_eq_none] at this
        simp [Region.wanted, this]
      have hK : ∀ a' w', (∃ v, a' = (putsOf ops vs ((List.range n1).filter fun j => listed.getD j false) a0).put o.dst v ∧ (Below w.heap.size w w' ∧ R i (upd vs i v) w')) → wpAny P .any ops Q (k + (ops.size - n1)) (listed.setIfInBounds i true) a' w' := by
        rintro a' w' ⟨v, rfl, hb, hRv⟩
        rw [puts_insert vs (List.range n1) List.nodup_range _ (fun j => (listed.setIfInBounds i true).getD j false) (List.mem_range.2 hi1) hun' (by simp [inv.size, hlt]) (fun j _ hne => getD_set_ne false (Ne.symm hne)) ho
          (fun j hj hne oj hoj t ht => hdst i j hi1 (List.mem_range.1 hj) (Ne.symm hne) o oj ho hoj t ht) v a0]
        have h3 := ih (l1 ++ l2) (listed.setIfInBounds i true) (upd vs i v) w' hll inv' (hS _ _ hSw hb) (fun j hj hlj => by
          by_cases hji : j = i
          · subst hji; exact hRv
          · rw [getD_set_ne false (Ne.symm hji)] at hlj
            refine hC j hj vs (upd vs i v) w' (fun x hx => ?_) (hP j hj vs w w' hb (hR' j hj hlj))
            refine (upd_ne vs v ?_).symm
            rintro rfl
            rcases hx with hx | ⟨_, hx⟩
            · exact hji hx.symm
            · obtain ⟨oj, hoj⟩ : ∃ oj, ops[j]? = some oj := ⟨_, Array.getElem?_eq_getElem (show j < ops.size by omega)⟩
              have := mask_listed hmask inv.closed (j + 1) j oj (Nat.lt_succ_self _) hoj (inv.closed j oj hoj hlj) hx
              rw [hun'] at this; cases this)
        rw [hll] at h3
        exact h3
      unfold wpOp
      simp only [ho, hwt, if_true]
      refine .inl ?_
      have hfin := wp_mono_put (K' := wpAny P .any ops Q (k + (ops.size - n1)) (listed.setIfInBounds i true)) (fun a' w' _ h => hK a' w' h) hw
      unfold Oper.wp at *
      generalize (execOp (putsOf ops vs ((List.range n1).filter fun j => listed.getD j false) a0).eval o).run P w = r at hfin
      cases r with
      | ok n w' =>
        cases n <;> simp only [Oper.upon] at hfin ⊢
        case enter f args =>
          refine Calls.mono hfin fun e w'' he => ?_
          cases e with
          | returned u => exact he
          | panicked c => exact he.elim
          | outgrown => obtain ⟨_, _, hf⟩ := he; exact hf.elim
        all_goals exact hfin
      | halt x w' => cases x <;> simp only [Oper.upon] at hfin <;> exact hfin.elim

/-- THE REGION: an obligation for each of the first n1 operations, the tail behind them. -/
theorem wp_region_mixK {id : Nat} {Q : Exit → Act → World → Prop} {a0 : Act} {w : World} {l : List Oper} (n1 : Nat) (R : Nat → (Nat → Value) → World → Prop) (hm : P.follows .mixedOrders = true)
    (hok : mixKOk l.toArray (Region.before l.toArray) n1 = true)
    (hP : ∀ i, i < n1 → ∀ vs W W', Below W.heap.size W W' → R i vs W → R i vs W')
    (hC : ∀ i, i < n1 → ∀ vs vs' W, (∀ j, j = i ∨ (j < i ∧ ((Region.before l.toArray).getD i 0).testBit j = true) → vs j = vs' j) → R i vs W → R i vs' W)
    (hR : ∀ i, i < n1 → ∀ o, l[i]? = some o → ∀ vs W, InB w W → (∀ j, j < i → ((Region.before l.toArray).getD i 0).testBit j = true → R j vs W) →
      o.wp P (putsOf l.toArray vs ((List.range i).filter fun j => ((Region.before l.toArray).getD i 0).testBit j) a0) W (fun b' W' => ∃ v, b' = (putsOf l.toArray vs ((List.range i).filter fun j => ((Region.before l.toArray).getD i 0).testBit j) a0).put o.dst v ∧ (Below W.heap.size W W' ∧ R i (upd vs i v) W')) NoQ)
    (hE : ∀ vs W, InB w W → (∀ j, j < n1 → R j vs W) → wpList P l.toArray Q (l.drop n1) (putsOf l.toArray vs (List.range n1) a0) W) : (Code.region id l.toArray true).wp P Q a0 w := by
  have hn : n1 ≤ l.length := by
    have := hok
    simp only [mixKOk, Bool.and_eq_true, decide_eq_true_eq] at this
    simpa using this.1.1.1.1.2
  refine wp_region_any hm ?_
  have inv : Inv l.toArray n1 (List.range' 0 n1) (Array.replicate l.toArray.size false) := by
    refine ⟨by simp, fun j oj _ hl' => (by rw [getD_replicate_false] at hl'; cases hl'), fun j hj => ?_, fun j hj => ?_, ?_⟩
    · have h2 : (Array.replicate l.toArray.size false).getD j true = false := getD_in (by simpa using hj) (getD_replicate_false _ _)
      rw [h2]
      simp only [List.mem_range'_1, Nat.zero_le, true_and, Nat.zero_add, true_iff]
      omega
    · simp only [List.mem_range'_1, Nat.zero_le, true_and, Nat.zero_add] at hj; exact hj
    · exact List.pairwise_lt_range'
  have h2 := mixK_any (P := P) (ops := l.toArray) (S := InB w) (R := R) (a0 := a0) (Q := Q) (m := Region.before l.toArray) (n1 := n1) hok (fun W W' h k => h.then k) hP hC (fun i hi o ho => hR i hi o (by simpa using ho)) (fun vs W h k => by simpa using hE vs W h k)
    n1 (List.range' 0 n1) (Array.replicate l.toArray.size false) (fun _ => undef) w.drew (by simp) inv (InB.drew w) (fun j _ h => by rw [getD_replicate_false] at h; cases h)
  have hf : (List.range n1).filter (fun j => (Array.replicate l.toArray.size false).getD j false) = [] := List.filter_eq_nil_iff.2 fun j _ => by rw [getD_replicate_false]; simp
  rw [hf, List.length_range', show n1 + (l.toArray.size - n1) = l.toArray.size by simp; omega] at h2
  exact h2

/-- THE SAME FOR USE: the predecessors written out; each obligation hands its answer to a K. -/
theorem wp_region_K {id : Nat} {Q : Exit → Act → World → Prop} {a0 : Act} {w : World} {l : List Oper} (n1 : Nat) (preds : List (List Nat)) (R : Nat → (Nat → Value) → World → Prop) (hm : P.follows .mixedOrders = true)
    (hok : mixKOk l.toArray (Region.before l.toArray) n1 = true)
    (hpre : ((List.range n1).all fun i => decide (((List.range i).filter fun j => ((Region.before l.toArray).getD i 0).testBit j) = preds.getD i [])) = true)
    (hP : ∀ i, i < n1 → ∀ vs W W', Below W.heap.size W W' → R i vs W → R i vs W')
    (hC : ∀ i, i < n1 → ∀ vs vs' W, (∀ j, j ∈ i :: preds.getD i [] → vs j = vs' j) → R i vs W → R i vs' W)
    (hR : ∀ i, i < n1 → ∀ o, l[i]? = some o → ∀ vs W, InB w W → (∀ j, j ∈ preds.getD i [] → R j vs W) → ∀ K : Act → World → Prop,
      (∀ v W', Below W.heap.size W W' → R i (upd vs i v) W' → K ((putsOf l.toArray vs (preds.getD i []) a0).put o.dst v) W') → o.wp P (putsOf l.toArray vs (preds.getD i []) a0) W K NoQ)
    (hE : ∀ vs W, InB w W → (∀ j, j < n1 → R j vs W) → wpList P l.toArray Q (l.drop n1) (putsOf l.toArray vs (List.range n1) a0) W) : (Code.region id l.toArray true).wp P Q a0 w := by
  have hp : ∀ i, i < n1 → ((List.range i).filter fun j => ((Region.before l.toArray).getD i 0).testBit j) = preds.getD i [] := fun i hi => of_decide_eq_true (List.all_eq_true.1 hpre i (List.mem_range.2 hi))
  have hmem : ∀ i, i < n1 → ∀ j, j ∈ preds.getD i [] ↔ (j < i ∧ ((Region.before l.toArray).getD i 0).testBit j = true) := fun i hi j => by rw [← hp i hi, List.mem_filter, List.mem_range]
  refine wp_region_mixK n1 R hm hok hP (fun i hi vs vs' W h => hC i hi vs vs' W (fun j hj => h j (by
    rcases List.mem_cons.1 hj with hj | hj
    · exact .inl hj
    · exact .inr ((hmem i hi j).1 hj)))) (fun i hi o ho vs W hW h => ?_) hE
  rw [hp i hi]
  exact hR i hi o ho vs W hW (fun j hj => h j ((hmem i hi j).1 hj).1 ((hmem i hi j).1 hj).2) _ (fun v W' hb hRv => ⟨v, rfl, hb, hRv⟩)

end
end Go.Mix
