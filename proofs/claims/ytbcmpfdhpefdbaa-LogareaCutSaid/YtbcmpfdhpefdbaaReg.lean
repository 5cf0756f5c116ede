/- A region that draws its order, walked in one order: each operation but the calls yields its value in every world that meets a condition. -/
import Derived.Test.YtbcmpfdhpefdbaaKA
import Derived.Deep.RegionHeld3
set_option linter.unusedVariables false
set_option linter.unusedSimpArgs false
namespace Go.Proofs.Ytbcmpfdhpefdbaa
open Go.RowKit

section
variable {P : Program} {l : List Oper} {Q : Exit → Act → World → Prop} {md : Region.Mode} {S : World → Prop} {i : Nat} {oi : Oper} {v : Value} {fuel : Nat} {listed : Array Bool} {a : Act} {w : World}
/-- what the kernel shows of an operation that is taken first -/
def tkOk (md : Region.Mode) (ops : Array Oper) (listed : Array Bool) (i : Nat) : Bool := Region.noSelect ops && (Region.free md ops listed i && (Region.ready md ops listed).contains i)
theorem wpAnyH_tk (hi : l[i]? = some oi) (hc : tkOk md l.toArray listed i = true) (hQ : ∀ c a w, Q (.panic c) (a.put oi.dst v) w → Q (.panic c) a w)
    (hw : Region.wanted oi (yielded l.toArray a.tmps) = true) (hy : ∀ w, S w → (execOp a.eval oi).run P w = .ok (.value v) w) (hS : S w)
    (h : wpAnyH P md l.toArray Q S fuel (listed.setIfInBounds i true) (a.put oi.dst v) w) : wpAnyH P md l.toArray Q S (fuel + 1) listed a w := by
  unfold tkOk at hc
  rw [Bool.and_eq_true, Bool.and_eq_true] at hc
  exact wpAnyH_take (by simpa using hi) hc.1 hc.2.1 hc.2.2 hQ (.inl ⟨hw, hy⟩) hS h
theorem wpAnyH_sk (hi : l[i]? = some oi) (hc : tkOk md l.toArray listed i = true) (hQ : ∀ c a w, Q (.panic c) (a.put oi.dst undef) w → Q (.panic c) a w)
    (hw : Region.wanted oi (yielded l.toArray a.tmps) = false) (hS : S w)
    (h : wpAnyH P md l.toArray Q S fuel (listed.setIfInBounds i true) (a.put oi.dst undef) w) : wpAnyH P md l.toArray Q S (fuel + 1) listed a w := by
  unfold tkOk at hc
  rw [Bool.and_eq_true, Bool.and_eq_true] at hc
  exact wpAnyH_take (by simpa using hi) hc.1 hc.2.1 hc.2.2 hQ (.inr ⟨hw, rfl⟩) hS h
theorem wpAnyH_cl (hi : l[i]? = some oi) (hr : Region.ready md l.toArray listed = [i])
    (h : ∀ K' : Act → World → Prop, Shut (∀ a w, S w → (S w → wpAnyH P md l.toArray Q S fuel (listed.setIfInBounds i true) a w) → K' a w) → if Region.wanted oi (yielded l.toArray a.tmps) = true then Oper.wp P oi a w K' Q else K' (a.put oi.dst undef) w) :
    wpAnyH P md l.toArray Q S (fuel + 1) listed a w :=
  wpAnyH_ready hr (by simp) (.cons (by simpa using hi) h .nil)
end

theorem exec_ldAt {P : Program} {o : Oper} {a : Act} {w : World} (ty : TypeId) (x : Operand) (ho : o.op = .load ty x) (b off : Nat) (cs : List Value) (d : TypeDesc)
    (hx : a.eval x = .pointer (some ⟨b, off, none⟩)) (hc : ∀ j v, cs[j]? = some v → w.cell? ⟨b, off + j, none⟩ = some v) (hu : P.underlying ty = some d) (hd : isRow d = true) (hi : (P.info? ty).map (·.size) = some cs.length) :
    (execOp a.eval o).run P w = .ok (.value (.agg cs.toArray)) w := by
  unfold execOp
  simp only [ho, hx, Instr.loadAt, Instr.sureAddr, Sem.run_bind, Sem.run_pure, Result.andThen_ok, run_loadVar_at w b off ty cs d hc hu hd hi]

end Go.Proofs.Ytbcmpfdhpefdbaa
