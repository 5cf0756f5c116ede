/- The law tegulalaw27.RecordMissing holds: for every input it returns true and each argument reads as before; no conditions. -/
import Derived.Test.YtbcmpfdhpefdbaaLawP
import Derived.Test.YtbcmpfdhpefdbaaLMiss
set_option linter.unusedVariables false
set_option linter.unusedSimpArgs false
namespace Go.Proofs.Ytbcmpfdhpefdbaa
open Go.ChangeShapes Go.WideShapes Go.ChangeAt Go.RowKit

set_option maxRecDepth 100000 in
theorem recordMissing_lifted (os : Os) (started : os.Started) (H : Type) (enc : TypeId × Value → H) :
    ReturnsInHanded {} Try.checked os 9 .any (Rows.recordMissingSpec.pre6 enc Try.prog Try.f9 Rows.recordMissingRow.domain false) (Rows.recordMissingSpec.post enc Try.prog Try.f9 false true false false) := by
  refine returnsInHanded_of_change (C := Try.checked) Try.own_ started (by kernel_rfl) Try.func9
    (ChangeSpec.witness6 (enc := enc) (C := Try.checked) false ⟨#[], #[.agg #[.int .u64 0, .int .u64 0, .slice none 0 0, .slice none 0 0, .slice none 0 0], .agg #[.int .u64 0, .int .u64 0, .slice none 0 0, .slice none 0 0, .slice none 0 0], .int .u8 0, .int .u8 0], []⟩ 8 (by kernel_rfl) (by kernel_rfl) (by kernel_rfl) (by kernel_rfl)) ?_
  intro W base args ds gs before hval0 hW hcnd _
  have hval : ∀ (j : Nat) t v, Try.f9.params[j]? = some t → args[j]? = some v → Value.okWide Try.prog W .any base t v := hval0
  have hW' := hW
  have hlt : ∀ x ∈ before, x.block < W.heap.size := fun x hx => hW.lt x hx
  obtain ⟨p, q, hA0, hV, rfl, hfz, hnd⟩ := hW
  have hA : DataW.TrodAll enc Try.prog W 0 (fun _ => true) true Try.f9.params.toList args.toList ds p := hA0
  rw [Try.params9] at hA hval
  obtain ⟨v0, v1, v2, v3, d0, d1, d2, d3, p0, p1, p2, p3, rfl, rfl, rfl, t0, t1, t2, t3⟩ := trodAll_four hA
  obtain ⟨rfl, rfl⟩ := trodVars_none hV
  clear hA0 hval0
  simp only [List.append_nil] at hW' hlt
  have t0' := t0
  obtain ⟨fuel0, f0⟩ := t0
  obtain ⟨cs0, hv0, _⟩ := okWide_struct Try.underlying27 (hval 0 27 v0 rfl rfl)
  subst hv0
  obtain ⟨r0, Aw0, nw0, cw0, Am0, nm0, cm0, An0, nn0, cn0, e0, hr0⟩ := open_rec_cells f0
  have e0' : cs0 = recCells r0 Aw0 nw0 cw0 Am0 nm0 cm0 An0 nn0 cn0 := Array.toList_inj.1 e0
  subst e0'
  have t1' := t1
  obtain ⟨fuel1, f1⟩ := t1
  obtain ⟨cs1, hv1, _⟩ := okWide_struct Try.underlying27 (hval 1 27 v1 rfl rfl)
  subst hv1
  obtain ⟨r1, Aw1, nw1, cw1, Am1, nm1, cm1, An1, nn1, cn1, e1, hr1⟩ := open_rec_cells f1
  have e1' : cs1 = recCells r1 Aw1 nw1 cw1 Am1 nm1 cm1 An1 nn1 cn1 := Array.toList_inj.1 e1
  subst e1'
  have t2' := t2
  obtain ⟨fuel2, f2⟩ := t2
  obtain ⟨z2, hv2, _, _, zw2⟩ := open_int Try.underlying5 (hval 2 5 v2 rfl rfl) t2'
  subst hv2
  obtain ⟨za2, zb2⟩ := wf_u8 zw2
  obtain ⟨m2, rfl⟩ : ∃ m : Nat, z2 = (m : Int) := ⟨z2.toNat, by omega⟩
  have t3' := t3
  obtain ⟨fuel3, f3⟩ := t3
  obtain ⟨z3, hv3, _, _, zw3⟩ := open_int Try.underlying5 (hval 3 5 v3 rfl rfl) t3'
  subst hv3
  obtain ⟨za3, zb3⟩ := wf_u8 zw3
  obtain ⟨m3, rfl⟩ : ∃ m : Nat, z3 = (m : Int) := ⟨z3.toNat, by omega⟩
  refine (lawMissing_any r0 Aw0 nw0 cw0 Am0 nm0 cm0 An0 nn0 cn0 r1 Aw1 nw1 cw1 Am1 nm1 cm1 An1 nn1 cn1 m2 m3 W hr0 hr1 (by omega) (by omega)).mono fun e W' ⟨he, hb⟩ => ?_
  subst he
  exact ⟨_, rfl, post_of_below (pa := p0 ++ (p1 ++ (p2 ++ p3))) (pv := []) hW' (fun _ _ _ => trodAll_mk1 (shut_bool Try.underlying4 _))
    (fun sp hsp => trodAll_mk4 (WideElems.Trod_stays Try.laidOut_ (by kernel_rfl) (of_decide_eq_true (by kernel_rfl)) t0' (fun x hx => hb.same (hlt x (by simp [hx]))) (fun x hx => hsp x (by simp [hx]))) (WideElems.Trod_stays Try.laidOut_ (by kernel_rfl) (of_decide_eq_true (by kernel_rfl)) t1' (fun x hx => hb.same (hlt x (by simp [hx]))) (fun x hx => hsp x (by simp [hx]))) (WideElems.Trod_stays Try.laidOut_ (by kernel_rfl) (of_decide_eq_true (by kernel_rfl)) t2' (fun x hx => hb.same (hlt x (by simp [hx]))) (fun x hx => hsp x (by simp [hx]))) (WideElems.Trod_stays Try.laidOut_ (by kernel_rfl) (of_decide_eq_true (by kernel_rfl)) t3' (fun x hx => hb.same (hlt x (by simp [hx]))) (fun x hx => hsp x (by simp [hx]))))
    (fun _ _ => rfl) (by simp) hb (ok_one (by kernel_rfl) rfl (okWide_bool_mk Try.underlying4 _))⟩

theorem recordMissing_holds : Rows.RecordMissingSaid :=
  OpenClaim.holds_of_wide 9 Try.f9 rfl rfl rfl rfl rfl rfl rfl ⟨rfl, rfl, rfl, rfl, rfl⟩ rfl rfl rfl rfl rfl (by kernel_rfl) Try.func9 (by kernel_rfl)
    (of_decide_eq_true (by kernel_rfl)) (by unfold Func.isWrapper; first | (rw [if_pos (by decide +kernel)]; kernel_rfl) | (rw [if_neg (by decide +kernel)]; exact ⟨rfl, rfl⟩))
    (fun os started H enc _ => recordMissing_lifted os started H enc)

#print axioms recordMissing_holds

end Go.Proofs.Ytbcmpfdhpefdbaa
