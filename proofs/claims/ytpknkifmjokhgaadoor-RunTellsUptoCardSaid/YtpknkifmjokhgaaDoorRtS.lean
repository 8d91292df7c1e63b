/- RunTells: what the arguments' reading says. -/
import Derived.Test.YtpknkifmjokhgaaDoorRtR
import Derived.Test.YtpknkifmjokhgaaDoorRd
import Derived.Test.YtpknkifmjokhgaaDoorRows
set_option linter.unusedVariables false
namespace Go.Proofs.YtpknkifmjokhgaaDoor
open Go Go.RowKit Go.Rd

theorem isBulk {H : Type} : IsBulk (Rows.uptoBulk (H := H)) := by
  have hall : ∀ l : List (DataW H), Rows.uptoBulkAll l = (l.map Rows.uptoBulk).sum := by
    intro l
    induction l with
    | nil => rfl
    | cons d l ih => rw [Rows.uptoBulkAll, ih, List.map_cons, List.sum_cons]
  refine ⟨fun l => ?_, fun l => Nat.le_refl _, Nat.le_refl _, fun es sp => ?_, fun ps => ?_⟩
  · cases l <;> simp [Rows.uptoBulk]
  · rw [Rows.uptoBulk, hall, hall]; omega
  · rw [Rows.uptoBulk, hall]; exact Nat.le_refl _

theorem i64_of_wf {n : Int} (h : (Lit.int .i64 n).wf = true) : I64 n := by
  have e1 : IntKind.i64.min = -9223372036854775808 := rfl
  have e2 : IntKind.i64.max = 9223372036854775807 := rfl
  simp only [Lit.wf, e1, e2, Bool.and_eq_true, decide_eq_true_eq] at h
  exact h
theorem u32_of_wf {n : Int} (h : (Lit.int .u32 n).wf = true) : U32 n := by
  have e1 : IntKind.u32.min = 0 := rfl
  have e2 : IntKind.u32.max = 4294967295 := rfl
  simp only [Lit.wf, e1, e2, Bool.and_eq_true, decide_eq_true_eq] at h
  exact ⟨h.1, by have := h.2; omega⟩

def MsgD.sz (m : MsgD) : Nat := m.data.size + 1
def OutD.sz (o : OutD) : Nat := (o.ms.map MsgD.sz).sum + (o.rs.map fun _ => 1).sum + 1

theorem rdMsg : Rd Tryd.prog 60 MsgD.cs (fun _ m => I64 m.port) MsgD.sz :=
  (Rd.struct Tryd.underlying60 (by kernel_rfl) (RdFs.cons 1 (Rd.int Tryd.underlying3) rfl (by kernel_rfl) (RdFs.cons 1 (Rd.string Tryd.underlying9) rfl (by kernel_rfl) RdFs.nil))).map
    (fun x => ⟨x.1, x.2.1⟩) (fun _ => rfl) (fun _ _ h => i64_of_wf h.1) (fun x => by show x.2.1.size + 1 ≤ 1 + (x.2.1.size + 1 + 0) + 1; omega)
theorem rdRep : Rd Tryd.prog 64 RepD.cs (fun _ r => r.ok) (fun _ => 1) :=
  (Rd.struct Tryd.underlying64 (by kernel_rfl) (RdFs.cons 1 (Rd.int Tryd.underlying3) rfl (by kernel_rfl) (RdFs.cons 1 (Rd.int Tryd.underlying3) rfl (by kernel_rfl) (RdFs.cons 1 (Rd.int Tryd.underlying62) rfl (by kernel_rfl) (RdFs.cons 1 (Rd.int Tryd.underlying62) rfl (by kernel_rfl) RdFs.nil))))).map
    (fun x => ⟨x.1, x.2.1, x.2.2.1, x.2.2.2.1⟩) (fun _ => rfl) (fun _ _ h => ⟨i64_of_wf h.1, i64_of_wf h.2.1, u32_of_wf h.2.2.1, u32_of_wf h.2.2.2.1⟩) (fun x => by show 1 ≤ _ + 1; omega)
theorem rdEv : Rd Tryd.prog 47 EvD.cs (fun _ e => e.ok) (fun _ => 1) :=
  (Rd.struct Tryd.underlying47 (by kernel_rfl) (RdFs.cons 1 (Rd.int Tryd.underlying3) rfl (by kernel_rfl) (RdFs.cons 1 (Rd.int Tryd.underlying3) rfl (by kernel_rfl) (RdFs.cons 1 (Rd.int Tryd.underlying3) rfl (by kernel_rfl) RdFs.nil)))).map
    (fun x => ⟨x.1, x.2.1, x.2.2.1⟩) (fun _ => rfl) (fun _ _ h => ⟨i64_of_wf h.1, i64_of_wf h.2.1, i64_of_wf h.2.2.1⟩) (fun x => by show 1 ≤ _ + 1; omega)
theorem rdMsgs : Rd Tryd.prog 38 (fun s : Sl MsgD => [s.v]) (SlAt MsgD.cs 2 fun _ m => I64 m.port) (slSz MsgD.sz) := Rd.slice (n := 2) rdMsg Tryd.underlying38 (by kernel_rfl) (by decide)
theorem rdReps : Rd Tryd.prog 39 (fun s : Sl RepD => [s.v]) (SlAt RepD.cs 4 fun _ r => r.ok) (slSz fun _ => 1) := Rd.slice (n := 4) rdRep Tryd.underlying39 (by kernel_rfl) (by decide)
theorem rdEvs : Rd Tryd.prog 23 (fun s : Sl EvD => [s.v]) (SlAt EvD.cs 3 fun _ e => e.ok) (slSz fun _ => 1) := Rd.slice (n := 3) rdEv Tryd.underlying23 (by kernel_rfl) (by decide)

/-- What is in memory for a row of Outs. -/
def OutD.in_ (w : World) (o : OutD) : Prop := I64 o.module ∧ I64 o.part ∧ I64 o.frame ∧ RowsOf MsgD.cs 2 w o.A1 o.ms ∧ (∀ m ∈ o.ms, I64 m.port) ∧ RowsOf RepD.cs 4 w o.A2 o.rs ∧ (∀ r ∈ o.rs, r.ok)
theorem rdOut : Rd Tryd.prog 43 OutD.cs OutD.in_ OutD.sz :=
  (Rd.struct Tryd.underlying43 (by kernel_rfl) (RdFs.cons 1 (Rd.int Tryd.underlying3) rfl (by kernel_rfl) (RdFs.cons 1 (Rd.int Tryd.underlying3) rfl (by kernel_rfl) (RdFs.cons 1 (Rd.int Tryd.underlying3) rfl (by kernel_rfl)
    (RdFs.cons 2 (Rd.struct Tryd.underlying41 (by kernel_rfl) (RdFs.cons 1 rdMsgs rfl (by kernel_rfl) (RdFs.cons 1 rdReps rfl (by kernel_rfl) RdFs.nil))) rfl (by kernel_rfl) RdFs.nil))))).map
    (fun x => ⟨x.1, x.2.1, x.2.2.1, x.2.2.2.1.1.A, x.2.2.2.1.1.c, x.2.2.2.1.1.xs, x.2.2.2.1.2.1.A, x.2.2.2.1.2.1.c, x.2.2.2.1.2.1.xs⟩) (fun _ => rfl)
    (fun w x h => ⟨i64_of_wf h.1, i64_of_wf h.2.1, i64_of_wf h.2.2.1, h.2.2.2.1.1.1, h.2.2.2.1.1.2.1, h.2.2.2.1.2.1.1, h.2.2.2.1.2.1.2.1⟩)
    (fun x => by
      show (x.2.2.2.1.1.xs.map MsgD.sz).sum + (x.2.2.2.1.2.1.xs.map fun _ => 1).sum + 1 ≤ 1 + (1 + (1 + ((((x.2.2.2.1.1.xs.map MsgD.sz).sum + 1) + (((x.2.2.2.1.2.1.xs.map fun _ => 1).sum + 1) + 0) + 1) + 0))) + 1
      omega)
theorem rdOuts : Rd Tryd.prog 22 (fun s : Sl OutD => [s.v]) (SlAt OutD.cs 5 OutD.in_) (slSz OutD.sz) := Rd.slice (n := 5) rdOut Tryd.underlying22 (by kernel_rfl) (by decide)

structure AnsD where
  code : Int
  AO : Option Addr
  cO : Nat
  outs : List OutD
  AE : Option Addr
  cE : Nat
  evs : List EvD
  msg : Int
def AnsD.cs (a : AnsD) : List Value := [.int .i64 a.code, .slice a.AO a.outs.length a.cO, .slice a.AE a.evs.length a.cE, .int .i64 a.msg]
def AnsD.in_ (w : World) (a : AnsD) : Prop := I64 a.code ∧ RowsOf OutD.cs 5 w a.AO a.outs ∧ (∀ o ∈ a.outs, o.in_ w) ∧ RowsOf EvD.cs 3 w a.AE a.evs ∧ (∀ e ∈ a.evs, e.ok) ∧ I64 a.msg
def AnsD.sz (a : AnsD) : Nat := (a.outs.map OutD.sz).sum + (a.evs.map fun _ => 1).sum
theorem rdAns : Rd Tryd.prog 25 AnsD.cs AnsD.in_ AnsD.sz :=
  (Rd.struct Tryd.underlying25 (by kernel_rfl) (RdFs.cons 1 (Rd.int Tryd.underlying3) rfl (by kernel_rfl) (RdFs.cons 1 rdOuts rfl (by kernel_rfl) (RdFs.cons 1 rdEvs rfl (by kernel_rfl) (RdFs.cons 1 (Rd.int Tryd.underlying3) rfl (by kernel_rfl) RdFs.nil))))).map
    (fun x => ⟨x.1, x.2.1.A, x.2.1.c, x.2.1.xs, x.2.2.1.A, x.2.2.1.c, x.2.2.1.xs, x.2.2.2.1⟩) (fun _ => rfl)
    (fun w x h => ⟨i64_of_wf h.1, h.2.1.1, h.2.1.2.1, h.2.2.1.1, h.2.2.1.2.1, i64_of_wf h.2.2.2.1⟩)
    (fun x => by
      show (x.2.1.xs.map OutD.sz).sum + (x.2.2.1.xs.map fun _ => 1).sum ≤ 1 + (((x.2.1.xs.map OutD.sz).sum + 1) + (((x.2.2.1.xs.map fun _ => 1).sum + 1) + (1 + 0))) + 1
      omega)

/-! sizes -/
theorem le_sum {α : Type} (f : α → Nat) : ∀ {l : List α} {x : α}, x ∈ l → f x ≤ (l.map f).sum
  | y :: l, x, h => by
    rw [List.map_cons, List.sum_cons]
    rcases List.mem_cons.1 h with rfl | h
    · omega
    · have := le_sum f h; omega
theorem len_le_sum {α : Type} (f : α → Nat) (hf : ∀ x, 1 ≤ f x) : ∀ l : List α, l.length ≤ (l.map f).sum
  | [] => Nat.le_refl _
  | x :: l => by
    rw [List.map_cons, List.sum_cons, List.length_cons]
    have := len_le_sum f hf l
    have := hf x
    omega
theorem linesOf_le : ∀ l : List OutD, linesOf l ≤ (l.map OutD.sz).sum
  | [] => Nat.le_refl _
  | o :: l => by
    have h1 := linesOf_le l
    have h2 := len_le_sum MsgD.sz (fun m => by unfold MsgD.sz; omega) o.ms
    have h3 := len_le_sum (fun _ : RepD => 1) (fun _ => Nat.le_refl _) o.rs
    have e : linesOf (o :: l) = (o.ms.length + o.rs.length) + linesOf l := by simp [linesOf]
    rw [e, List.map_cons, List.sum_cons]
    unfold OutD.sz
    unfold OutD.sz at h1
    omega

/-- What the walk asks of an answer, out of its reading. -/
theorem AnsD.walk {w : World} {a : AnsD} (h : a.in_ w) (hz : a.sz ≤ 1048576) :
    (linesOf a.outs + a.evs.length + 2) * 33554432 ≤ 70368744177664 ∧ (∀ o ∈ a.outs, o.ok) ∧ (∀ e ∈ a.evs, e.ok) ∧ a.outs.length ≤ 1048576 ∧ a.evs.length ≤ 1048576 ∧
    (∀ o ∈ a.outs, o.ms.length ≤ 1048576 ∧ o.rs.length ≤ 1048576) ∧ RowsAt OutD.cs 5 w w.heap.size a.AO a.outs ∧ (∀ o ∈ a.outs, o.at_ w w.heap.size) ∧ RowsAt EvD.cs 3 w w.heap.size a.AE a.evs := by
  obtain ⟨h1, h2, h3, h4, h5, h6⟩ := h
  unfold AnsD.sz at hz
  have l1 := linesOf_le a.outs
  have l2 := len_le_sum (fun _ : EvD => 1) (fun _ => Nat.le_refl _) a.evs
  have l3 := len_le_sum OutD.sz (fun o => by unfold OutD.sz; omega) a.outs
  have lo : ∀ o ∈ a.outs, (o.ms.map MsgD.sz).sum ≤ 1048576 ∧ (o.rs.map fun _ => 1).sum ≤ 1048576 := fun o ho => by
    have := le_sum OutD.sz ho
    unfold OutD.sz at this hz
    constructor <;> omega
  refine ⟨?_, fun o ho => ?_, h5, by omega, by omega, fun o ho => ?_, h2, fun o ho => ⟨(h3 o ho).2.2.2.1, (h3 o ho).2.2.2.2.2.1⟩, h4⟩
  · have : linesOf a.outs + a.evs.length + 2 ≤ 2097152 := by omega
    exact Nat.le_trans (Nat.mul_le_mul_right _ this) (by decide)
  · obtain ⟨g1, g2, g3, _, g5, _, g7⟩ := h3 o ho
    refine ⟨g1, g2, g3, fun m hm => ⟨g5 m hm, ?_⟩, g7⟩
    have := le_sum MsgD.sz hm
    have := (lo o ho).1
    unfold MsgD.sz at *
    omega
  · have h7 := len_le_sum MsgD.sz (fun m => by unfold MsgD.sz; omega) o.ms
    have h8 := len_le_sum (fun _ : RepD => 1) (fun _ => Nat.le_refl _) o.rs
    have := lo o ho
    omega
end Go.Proofs.YtpknkifmjokhgaaDoor
