/- The law tegulalaw28.LogareaCut holds: for every input it returns true and each argument reads as before; no conditions. -/
import Derived.Test.YtbcmpfdhpefdbaaKV
import Derived.Test.YtbcmpfdhpefdbaaLCut
set_option linter.unusedVariables false
set_option linter.unusedSimpArgs false
namespace Go.Proofs.Ytbcmpfdhpefdbaa
open Go.ChangeShapes Go.WideShapes Go.ChangeAt Go.RowKit

set_option maxRecDepth 100000 in
theorem logareaCut_lifted (os : Os) (started : os.Started) (H : Type) (enc : TypeId × Value → H) :
    ReturnsInHanded {} Try.checked os 11 .any (Rows.logareaCutSpec.pre6 enc Try.prog Try.f11 Rows.logareaCutRow.domain false) (Rows.logareaCutSpec.post enc Try.prog Try.f11 false true false false) := by
  refine returnsInHanded_of_change (C := Try.checked) Try.own_ started (by kernel_rfl) Try.func11
    (ChangeSpec.witness6 (enc := enc) (C := Try.checked) false ⟨#[], #[.slice none 0 0, .int .u16 0, .bool false], []⟩ 8 (by kernel_rfl) (by kernel_rfl) (by kernel_rfl) (by kernel_rfl)) ?_
  intro W base args ds gs before hval0 hW hcnd _
  have hval : ∀ (j : Nat) t v, Try.f11.params[j]? = some t → args[j]? = some v → Value.okWide Try.prog W .any base t v := hval0
  have hW' := hW
  have hlt : ∀ x ∈ before, x.block < W.heap.size := fun x hx => hW.lt x hx
  obtain ⟨p, q, hA0, hV, rfl, hfz, hnd⟩ := hW
  have hA : DataW.TrodAll enc Try.prog W 0 (fun _ => true) true Try.f11.params.toList args.toList ds p := hA0
  rw [Try.params11] at hA hval
  obtain ⟨v0, v1, v2, d0, d1, d2, p0, p1, p2, rfl, rfl, rfl, t0, t1, t2⟩ := trodAll_three hA
  obtain ⟨rfl, rfl⟩ := trodVars_none hV
  clear hA0 hval0
  simp only [List.append_nil] at hW' hlt
  have t0' := t0
  obtain ⟨fuel0, f0⟩ := t0
  obtain ⟨A0, n0, c0, hv0⟩ := okWide_slice Try.underlying53 (hval 0 53 v0 rfl rfl)
  subst hv0
  obtain ⟨A0', n0', c0', b0, e0, hnc0, hcm0, hr0⟩ := open_recs f0
  simp only [Value.cells, List.cons.injEq, Value.slice.injEq, and_true] at e0
  obtain ⟨rfl, rfl, rfl⟩ := e0
  have t1' := t1
  obtain ⟨fuel1, f1⟩ := t1
  obtain ⟨z1, hv1, _, _, zw1⟩ := open_int Try.underlying58 (hval 1 58 v1 rfl rfl) t1'
  subst hv1
  obtain ⟨za1, zb1⟩ := wf_u16 zw1
  obtain ⟨m1, rfl⟩ : ∃ m : Nat, z1 = (m : Int) := ⟨z1.toNat, by omega⟩
  have t2' := t2
  obtain ⟨fuel2, f2⟩ := t2
  obtain ⟨z2, hv2, _⟩ := open_bool Try.underlying4 (hval 2 4 v2 rfl rfl) t2'
  subst hv2
  refine (lawCut_any A0 n0 c0 b0 m1 z2 W hr0 hnc0 hcm0 (by omega) ).mono fun e W' ⟨he, hb⟩ => ?_
  subst he
  exact ⟨_, rfl, post_of_below (pa := p0 ++ (p1 ++ p2)) (pv := []) hW' (fun _ _ _ => trodAll_mk1 (shut_bool Try.underlying4 _))
    (fun sp hsp => trodAll_mk3 (WideElems.Trod_stays Try.laidOut_ (by kernel_rfl) (of_decide_eq_true (by kernel_rfl)) t0' (fun x hx => hb.same (hlt x (by simp [hx]))) (fun x hx => hsp x (by simp [hx]))) (WideElems.Trod_stays Try.laidOut_ (by kernel_rfl) (of_decide_eq_true (by kernel_rfl)) t1' (fun x hx => hb.same (hlt x (by simp [hx]))) (fun x hx => hsp x (by simp [hx]))) (WideElems.Trod_stays Try.laidOut_ (by kernel_rfl) (of_decide_eq_true (by kernel_rfl)) t2' (fun x hx => hb.same (hlt x (by simp [hx]))) (fun x hx => hsp x (by simp [hx]))))
    (fun _ _ => rfl) (by simp) hb (ok_one (by kernel_rfl) rfl (okWide_bool_mk Try.underlying4 _))⟩

theorem logareaCut_holds : Rows.LogareaCutSaid :=
  OpenClaim.holds_of_wide 11 Try.f11 rfl rfl rfl rfl rfl rfl rfl ⟨rfl, rfl, rfl, rfl, rfl⟩ rfl rfl rfl rfl rfl (by kernel_rfl) Try.func11 (by kernel_rfl)
    (of_decide_eq_true (by kernel_rfl)) (by unfold Func.isWrapper; first | (rw [if_pos (by decide +kernel)]; kernel_rfl) | (rw [if_neg (by decide +kernel)]; exact ⟨rfl, rfl⟩))
    (fun os started H enc _ => logareaCut_lifted os started H enc)

#print axioms logareaCut_holds

end Go.Proofs.Ytbcmpfdhpefdbaa
