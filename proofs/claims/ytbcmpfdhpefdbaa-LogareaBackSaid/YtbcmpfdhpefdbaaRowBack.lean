/- The law tegulalaw28.LogareaBack holds: for every input it returns true and each argument reads as before; no conditions. -/
import Derived.Test.YtbcmpfdhpefdbaaKV
import Derived.Test.YtbcmpfdhpefdbaaLBack
set_option linter.unusedVariables false
set_option linter.unusedSimpArgs false
namespace Go.Proofs.Ytbcmpfdhpefdbaa
open Go.ChangeShapes Go.WideShapes Go.ChangeAt Go.RowKit

set_option maxRecDepth 100000 in
theorem logareaBack_lifted (os : Os) (started : os.Started) (H : Type) (enc : TypeId × Value → H) :
    ReturnsInHanded {} Try.checked os 15 .any (Rows.logareaBackSpec.pre6 enc Try.prog Try.f15 Rows.logareaBackRow.domain false) (Rows.logareaBackSpec.post enc Try.prog Try.f15 false true false false) := by
  refine returnsInHanded_of_change (C := Try.checked) Try.own_ started (by kernel_rfl) Try.func15
    (ChangeSpec.witness6 (enc := enc) (C := Try.checked) false ⟨#[], #[.slice none 0 0, .slice none 0 0], []⟩ 8 (by kernel_rfl) (by kernel_rfl) (by kernel_rfl) (by kernel_rfl)) ?_
  intro W base args ds gs before hval0 hW hcnd _
  have hval : ∀ (j : Nat) t v, Try.f15.params[j]? = some t → args[j]? = some v → Value.okWide Try.prog W .any base t v := hval0
  have hW' := hW
  have hlt : ∀ x ∈ before, x.block < W.heap.size := fun x hx => hW.lt x hx
  obtain ⟨p, q, hA0, hV, rfl, hfz, hnd⟩ := hW
  have hA : DataW.TrodAll enc Try.prog W 0 (fun _ => true) true Try.f15.params.toList args.toList ds p := hA0
  rw [Try.params15] at hA hval
  obtain ⟨v0, v1, d0, d1, p0, p1, rfl, rfl, rfl, t0, t1⟩ := trodAll_two hA
  obtain ⟨rfl, rfl⟩ := trodVars_none hV
  clear hA0 hval0
  simp only [List.append_nil] at hW' hlt
  have t0' := t0
  obtain ⟨fuel0, f0⟩ := t0
  obtain ⟨A0, n0, c0, hv0⟩ := okWide_slice Try.underlying53 (hval 0 53 v0 rfl rfl)
  subst hv0
  obtain ⟨A0', n0', c0', b0, e0, hnc0, hcm0, hr0⟩ := open_recs f0
  simp only [Value.cells, List.cons.injEq, Value.slice.injEq, and_true] at e0
  obtain ⟨rfl, rfl, rfl⟩ := e0
  have t1' := t1
  obtain ⟨fuel1, f1⟩ := t1
  obtain ⟨A1, n1, c1, hv1⟩ := okWide_slice Try.underlying30 (hval 1 30 v1 rfl rfl)
  subst hv1
  obtain ⟨A1', n1', c1', b1, e1, hnc1, hcm1, hr1⟩ := open_strs_ f1
  simp only [Value.cells, List.cons.injEq, Value.slice.injEq, and_true] at e1
  obtain ⟨rfl, rfl, rfl⟩ := e1
  refine (lawBack_any A0 n0 c0 b0 A1 n1 c1 b1 W hr0 hnc0 hcm0 hr1 hnc1 hcm1).mono fun e W' ⟨he, hb⟩ => ?_
  subst he
  exact ⟨_, rfl, post_of_below (pa := p0 ++ p1) (pv := []) hW' (fun _ _ _ => trodAll_mk1 (shut_bool Try.underlying4 _))
    (fun sp hsp => trodAll_mk2 (WideElems.Trod_stays Try.laidOut_ (by kernel_rfl) (of_decide_eq_true (by kernel_rfl)) t0' (fun x hx => hb.same (hlt x (by simp [hx]))) (fun x hx => hsp x (by simp [hx]))) (WideElems.Trod_stays Try.laidOut_ (by kernel_rfl) (of_decide_eq_true (by kernel_rfl)) t1' (fun x hx => hb.same (hlt x (by simp [hx]))) (fun x hx => hsp x (by simp [hx]))))
    (fun _ _ => rfl) (by simp) hb (ok_one (by kernel_rfl) rfl (okWide_bool_mk Try.underlying4 _))⟩

theorem logareaBack_holds : Rows.LogareaBackSaid :=
  OpenClaim.holds_of_wide 15 Try.f15 rfl rfl rfl rfl rfl rfl rfl ⟨rfl, rfl, rfl, rfl, rfl⟩ rfl rfl rfl rfl rfl (by kernel_rfl) Try.func15 (by kernel_rfl)
    (of_decide_eq_true (by kernel_rfl)) (by unfold Func.isWrapper; first | (rw [if_pos (by decide +kernel)]; kernel_rfl) | (rw [if_neg (by decide +kernel)]; exact ⟨rfl, rfl⟩))
    (fun os started H enc _ => logareaBack_lifted os started H enc)

#print axioms logareaBack_holds

end Go.Proofs.Ytbcmpfdhpefdbaa
