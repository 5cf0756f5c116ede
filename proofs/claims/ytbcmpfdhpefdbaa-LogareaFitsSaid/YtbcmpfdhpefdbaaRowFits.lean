/- The law tegulalaw28.LogareaFits holds: for every input it returns true and each argument reads as before; no conditions. -/
import Derived.Test.YtbcmpfdhpefdbaaKV
import Derived.Test.YtbcmpfdhpefdbaaLLog
set_option linter.unusedVariables false
set_option linter.unusedSimpArgs false
namespace Go.Proofs.Ytbcmpfdhpefdbaa
open Go.ChangeShapes Go.WideShapes Go.ChangeAt Go.RowKit

set_option maxRecDepth 100000 in
theorem logareaFits_lifted (os : Os) (started : os.Started) (H : Type) (enc : TypeId × Value → H) :
    ReturnsInHanded {} Try.checked os 12 .any (Rows.logareaFitsSpec.pre6 enc Try.prog Try.f12 Rows.logareaFitsRow.domain false) (Rows.logareaFitsSpec.post enc Try.prog Try.f12 false true false false) := by
  refine returnsInHanded_of_change (C := Try.checked) Try.own_ started (by kernel_rfl) Try.func12
    (ChangeSpec.witness6 (enc := enc) (C := Try.checked) false ⟨#[], #[.int .i64 0, .int .i64 0, .agg #[.int .u64 0, .int .u64 0, .slice none 0 0, .slice none 0 0, .slice none 0 0]], []⟩ 8 (by kernel_rfl) (by kernel_rfl) (by kernel_rfl) (by kernel_rfl)) ?_
  intro W base args ds gs before hval0 hW hcnd _
  have hval : ∀ (j : Nat) t v, Try.f12.params[j]? = some t → args[j]? = some v → Value.okWide Try.prog W .any base t v := hval0
  have hW' := hW
  have hlt : ∀ x ∈ before, x.block < W.heap.size := fun x hx => hW.lt x hx
  obtain ⟨p, q, hA0, hV, rfl, hfz, hnd⟩ := hW
  have hA : DataW.TrodAll enc Try.prog W 0 (fun _ => true) true Try.f12.params.toList args.toList ds p := hA0
  rw [Try.params12] at hA hval
  obtain ⟨v0, v1, v2, d0, d1, d2, p0, p1, p2, rfl, rfl, rfl, t0, t1, t2⟩ := trodAll_three hA
  obtain ⟨rfl, rfl⟩ := trodVars_none hV
  clear hA0 hval0
  simp only [List.append_nil] at hW' hlt
  have t0' := t0
  obtain ⟨fuel0, f0⟩ := t0
  obtain ⟨z0, hv0, _, _, zw0⟩ := open_int Try.underlying3 (hval 0 3 v0 rfl rfl) t0'
  subst hv0
  have t1' := t1
  obtain ⟨fuel1, f1⟩ := t1
  obtain ⟨z1, hv1, _, _, zw1⟩ := open_int Try.underlying3 (hval 1 3 v1 rfl rfl) t1'
  subst hv1
  have t2' := t2
  obtain ⟨fuel2, f2⟩ := t2
  obtain ⟨cs2, hv2, _⟩ := okWide_struct Try.underlying27 (hval 2 27 v2 rfl rfl)
  subst hv2
  obtain ⟨r2, Aw2, nw2, cw2, Am2, nm2, cm2, An2, nn2, cn2, e2, hr2⟩ := open_rec_cells f2
  have e2' : cs2 = recCells r2 Aw2 nw2 cw2 Am2 nm2 cm2 An2 nn2 cn2 := Array.toList_inj.1 e2
  subst e2'
  refine (lawFits_any z0 z1 r2 Aw2 nw2 cw2 Am2 nm2 cm2 An2 nn2 cn2 W (wf_i64 zw0) (wf_i64 zw1) hr2).mono fun e W' ⟨he, hb⟩ => ?_
  subst he
  exact ⟨_, rfl, post_of_below (pa := p0 ++ (p1 ++ p2)) (pv := []) hW' (fun _ _ _ => trodAll_mk1 (shut_bool Try.underlying4 _))
    (fun sp hsp => trodAll_mk3 (WideElems.Trod_stays Try.laidOut_ (by kernel_rfl) (of_decide_eq_true (by kernel_rfl)) t0' (fun x hx => hb.same (hlt x (by simp [hx]))) (fun x hx => hsp x (by simp [hx]))) (WideElems.Trod_stays Try.laidOut_ (by kernel_rfl) (of_decide_eq_true (by kernel_rfl)) t1' (fun x hx => hb.same (hlt x (by simp [hx]))) (fun x hx => hsp x (by simp [hx]))) (WideElems.Trod_stays Try.laidOut_ (by kernel_rfl) (of_decide_eq_true (by kernel_rfl)) t2' (fun x hx => hb.same (hlt x (by simp [hx]))) (fun x hx => hsp x (by simp [hx]))))
    (fun _ _ => rfl) (by simp) hb (ok_one (by kernel_rfl) rfl (okWide_bool_mk Try.underlying4 _))⟩

theorem logareaFits_holds : Rows.LogareaFitsSaid :=
  OpenClaim.holds_of_wide 12 Try.f12 rfl rfl rfl rfl rfl rfl rfl ⟨rfl, rfl, rfl, rfl, rfl⟩ rfl rfl rfl rfl rfl (by kernel_rfl) Try.func12 (by kernel_rfl)
    (of_decide_eq_true (by kernel_rfl)) (by unfold Func.isWrapper; first | (rw [if_pos (by decide +kernel)]; kernel_rfl) | (rw [if_neg (by decide +kernel)]; exact ⟨rfl, rfl⟩))
    (fun os started H enc _ => logareaFits_lifted os started H enc)

#print axioms logareaFits_holds

end Go.Proofs.Ytbcmpfdhpefdbaa
