/- Comparing pieces and moves as values. -/
import Derived.Test.YtbcmpfdhpefdbaaLInsp
import Derived.DeepKeys
import Derived.Laws.StructEq
set_option linter.unusedVariables false
set_option linter.unusedSimpArgs false
namespace Go.Proofs.Ytbcmpfdhpefdbaa
open Go.RowKit

theorem wf_byte (x : UInt8) : (Lit.int .u8 (x.toNat : Int)).wf = true := by
  have := x.toNat_lt
  simp [Lit.wf, IntKind.min, IntKind.max, IntKind.signed, IntKind.bits]
  omega
theorem wf_I64 {n : Int} (h : I64 n) : (Lit.int .i64 n).wf = true := by
  have := h.1
  have := h.2
  simp [Lit.wf, IntKind.min, IntKind.max, IntKind.signed, IntKind.bits]
  omega
theorem wf_U64 {n : Nat} (h : U64 n) : (Lit.int .u64 (n : Int)).wf = true := by
  unfold U64 at h
  simp [Lit.wf, IntKind.min, IntKind.max, IntKind.signed, IntKind.bits]
  omega
def litB (x : UInt8) : Lit := .int .u8 (x.toNat : Int)
theorem keyLits_int {t : TypeId} {k : IntKind} {n : Int} (d : Nat) (ht : Try.prog.underlying t = some (.int k)) (hw : (Lit.int k n).wf = true) : Try.prog.keyLits (d + 1) t [.int k n] = some [.int k n] := by
  simp [Program.keyLits, ht, hw]
theorem keyLits_b8 (d : Nat) (b : B8) : Try.prog.keyLits (d + 2) 75 [B b.b0, B b.b1, B b.b2, B b.b3, B b.b4, B b.b5, B b.b6, B b.b7] = some (b.list.map litB) := by
  have hc8 : Try.prog.cellsOf 75 = 8 := by kernel_rfl
  have hc1 : Try.prog.cellsOf 5 = 1 := by kernel_rfl
  have e : ∀ x : UInt8, Try.prog.keyLits (d + 1) 5 [B x] = some [litB x] := fun x => keyLits_int d Try.underlying5 (wf_byte x)
  unfold Program.keyLits
  rw [Try.underlying75]
  simp [hc8, hc1, List.range_succ, e, B8.list]
theorem keyLits_pw {p : PW} (h : p.Ok) : Try.prog.keyLits 5 77 p.cells = some (.int .i64 p.group :: .int .i64 p.piece :: .int .u64 (p.version : Int) :: p.data.list.map litB) := by
  have hc : Try.prog.cellsOf 77 = 11 := by kernel_rfl
  have hci : Try.prog.cellsOf 3 = 1 := by kernel_rfl
  have hcu : Try.prog.cellsOf 22 = 1 := by kernel_rfl
  have hcb : Try.prog.cellsOf 75 = 8 := by kernel_rfl
  have e0 := keyLits_int 3 Try.underlying3 (wf_I64 h.g)
  have e1 := keyLits_int 3 Try.underlying3 (wf_I64 h.pc)
  have e2 := keyLits_int 3 Try.underlying22 (wf_U64 h.v)
  have e3 := keyLits_b8 2 p.data
  unfold Program.keyLits
  rw [Try.underlying77]
  simp [hc, hci, hcu, hcb, PW.cells, e0, e1, e2, e3]
theorem keyLits_mv {p : MV} (h : p.Ok) : Try.prog.keyLits 5 82 p.cells = some [.int .i64 p.group, .int .i64 p.piece, .int .i64 p.disk, .int .i64 p.block] := by
  have hc : Try.prog.cellsOf 82 = 4 := by kernel_rfl
  have hci : Try.prog.cellsOf 3 = 1 := by kernel_rfl
  have hcp : Try.prog.cellsOf 80 = 2 := by kernel_rfl
  have e0 := keyLits_int 3 Try.underlying3 (wf_I64 h.g)
  have e1 := keyLits_int 3 Try.underlying3 (wf_I64 h.pc)
  have e2 := keyLits_int 2 Try.underlying3 (wf_I64 h.d)
  have e3 := keyLits_int 2 Try.underlying3 (wf_I64 h.b)
  have e4 : Try.prog.keyLits 4 80 [.int .i64 p.disk, .int .i64 p.block] = some [.int .i64 p.disk, .int .i64 p.block] := by
    unfold Program.keyLits
    rw [Try.underlying80]
    simp [hcp, hci, e2, e3]
  unfold Program.keyLits
  rw [Try.underlying82]
  simp [hc, hci, hcp, MV.cells, e0, e1, e4]
theorem litB_inj {a b : List UInt8} (h : a.map litB = b.map litB) : a = b := by
  induction a generalizing b with
  | nil => cases b with
    | nil => rfl
    | cons y b => simp at h
  | cons x a ih =>
    cases b with
    | nil => simp at h
    | cons y b =>
      simp only [List.map_cons, List.cons.injEq] at h
      have : x = y := UInt8.toNat_inj.1 (by have := h.1; simp [litB] at this; omega)
      rw [this, ih h.2]
theorem B8.list_inj {a b : B8} (h : a.list = b.list) : a = b := by
  cases a; cases b
  simpa [B8.list] using h
set_option maxRecDepth 100000 in
theorem eq_pw {p q : PW} (hp : p.Ok) (hq : q.Ok) (w : World) : (Op.equalIn 10000 77 (.agg p.cells.toArray) (.agg q.cells.toArray)).run Try.prog w = .ok (decide (p = q)) w := by
  obtain ⟨r, hr, hi⟩ := run_equalIn_deep (P := Try.prog) 9990 10 77 (by kernel_rfl) w 5 5 (.agg p.cells.toArray) (.agg q.cells.toArray) _ _ (by kernel_rfl) (by kernel_rfl) (by simpa [Value.cells] using keyLits_pw hp) (by simpa [Value.cells] using keyLits_pw hq)
  refine Eq.trans (show _ = Result.ok r w from hr) ?_
  congr 1
  rw [Bool.eq_iff_iff, hi, decide_eq_true_eq]
  constructor
  · intro h
    simp only [List.cons.injEq, Lit.int.injEq, true_and] at h
    obtain ⟨h0, h1, h2, h3⟩ := h
    have h4 := B8.list_inj (litB_inj h3)
    cases p; cases q
    simp_all
    omega
  · rintro rfl; rfl
set_option maxRecDepth 100000 in
theorem eq_mv {p q : MV} (hp : p.Ok) (hq : q.Ok) (w : World) : (Op.equalIn 10000 82 (.agg p.cells.toArray) (.agg q.cells.toArray)).run Try.prog w = .ok (decide (p = q)) w := by
  obtain ⟨r, hr, hi⟩ := run_equalIn_deep (P := Try.prog) 9990 10 82 (by kernel_rfl) w 5 5 (.agg p.cells.toArray) (.agg q.cells.toArray) _ _ (by kernel_rfl) (by kernel_rfl) (by simpa [Value.cells] using keyLits_mv hp) (by simpa [Value.cells] using keyLits_mv hq)
  refine Eq.trans (show _ = Result.ok r w from hr) ?_
  congr 1
  rw [Bool.eq_iff_iff, hi, decide_eq_true_eq]
  constructor
  · intro h
    simp only [List.cons.injEq, Lit.int.injEq, true_and] at h
    cases p; cases q
    simp_all
  · rintro rfl; rfl

end Go.Proofs.Ytbcmpfdhpefdbaa
