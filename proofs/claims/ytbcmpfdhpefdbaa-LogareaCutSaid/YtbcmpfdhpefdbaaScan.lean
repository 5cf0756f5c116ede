/- The contract of logarea's Scan. -/
import Derived.Test.YtbcmpfdhpefdbaaKX
import Derived.Test.YtbcmpfdhpefdbaaKN
set_option linter.unusedVariables false
set_option linter.unusedSimpArgs false
namespace Go.Proofs.Ytbcmpfdhpefdbaa
open Go.RowKit
attribute [local irreducible] Go.Calls

/-- what both Scans answer -/
def ScanPost (w : World) (ss : List (List UInt8)) (gen : Nat) (e : Ending) (w' : World) : Prop :=
  ∃ v, e = .returned (.tuple #[v, .int .i64 ((scan ss gen).2 : Nat)]) ∧ OwnR w.heap.size (fun _ => False) w' v (scan ss gen).1 ∧ Below w.heap.size w w'
/-- the loop's relation -/
def ScanIn (ss : List (List UInt8)) (gen t : Nat) (rs : List Rec) : Prop :=
  scan ss gen = (rs ++ (scanG (ss.drop t) gen rs.length).1, t + (scanG (ss.drop t) gen rs.length).2) ∧ t ≤ ss.length ∧ rs.length ≤ t
theorem ScanIn.start (ss : List (List UInt8)) (gen : Nat) : ScanIn ss gen 0 [] := ⟨by simp [scan], by omega, by simp⟩
theorem ScanIn.stop {ss : List (List UInt8)} {gen t : Nat} {rs : List Rec} (h : ScanIn ss gen t rs) (hk : scanOk (ss.drop t) gen rs.length = false) : scan ss gen = (rs, t) := by
  rw [h.1, scanG_stop hk]
  simp
theorem ScanIn.go {ss : List (List UInt8)} {gen t : Nat} {rs : List Rec} (h : ScanIn ss gen t rs) (hk : scanOk (ss.drop t) gen rs.length = true) : ScanIn ss gen (t + (decode (ss.drop t)).2.1) (rs ++ [(decode (ss.drop t)).1]) := by
  have hn := scanOk_n hk
  have h1 := h.2.1
  have h2 := h.2.2
  rw [List.length_drop] at hn
  refine ⟨?_, by omega, by simp; omega⟩
  rw [h.1, scanG_go hk, List.drop_drop]
  simp [Nat.add_assoc]

set_option maxRecDepth 100000 in
set_option maxHeartbeats 1000000 in
theorem scan_any (F : Nat → Prop) (A : Option Addr) (n c : Nat) (ss : List (List UInt8)) (gen : Nat) (w : World) (h : RdS w F A n ss) (hnc : n ≤ c) (hcm : c ≤ maxLen) (hls : ∀ s ∈ ss, s.length ≤ 1000000) (hll : ss.length ≤ 1000000) (hF : ∀ k, F k → k < w.heap.size) :
    Calls Try.prog 34 #[.slice A n c, .int .u64 (gen : Int)] w (ScanPost w ss gen) := by
  have hn := hid h.1
  go_enter Try.func34, Try.ntmps34
  go_wp2_with fail
  go_step3
  go_wp2_with fail
  go_step3
  go_wp2_with fail
  go_loopw [6, 7] (fun v i wr => ∃ (t : Nat) (rs : List Rec), i = .int .i64 (t : Int) ∧ Hid (ScanIn ss gen t rs) ∧ t ≤ n ∧ OwnR w.heap.size (fun _ => False) wr v rs ∧ Below w.heap.size w wr) (fun _ i _ => n - (intOf i).toNat)
  case atStart => exact ⟨0, [], rfl, ScanIn.start ss gen, by omega, OwnR.nil_, Below.refl _ _⟩
  case round =>
    obtain ⟨t, rs, rfl, hin, htn, hown, hbel⟩ := hrel
    have hzr := hbel.size
    obtain ⟨Av, cv, rfl, hcv, hmv⟩ := hown.form
    obtain ⟨m, hm⟩ : ∃ m, m = rs.length := ⟨_, rfl⟩
    have hmt : m ≤ t := by rw [hm]; exact hin.out.2.2
    rw [← hm] at hown hcv ⊢
    have hm' := hid hm
    clear hm
    by_cases ht : t < n
    · obtain ⟨s0, hs0⟩ : ∃ s0, ss[t]? = some s0 := ⟨ss[t]'(by rw [← hn.out]; exact ht), List.getElem?_eq_getElem _⟩
      obtain ⟨b, o, _, _, rfl, hFb, _⟩ := h.at_ hs0
      clear hs0
      have hct : ¬ c = t := by omega
      have k1 : (t : Int) ≤ (n : Int) := by omega
      have k2 : (t : Int) ≤ (c : Int) := by omega
      have k3 : t ≤ c := by omega
      have hcut := (h.keep (Kp.of_below hbel hF)).cut (n := t) (c := c) (by omega) hnc
      unfold cutA at hcut
      rw [if_neg hct] at hcut
      simp only [Option.map_some, addr_add, Nat.mul_one] at hcut
      have hnl : n ≤ 1000000 := by rw [hn.out]; exact hll
      have ewm : IntKind.u64.wrap (m : Int) = (m : Int) := by rw [IntKind.wrap_u64]; omega
      have ewm1 : IntKind.u64.wrap ((m : Int) + 1) = (m : Int) + 1 := by rw [IntKind.wrap_u64]; omega
      go_wp2_with fail
      refine (decode_any F (some ⟨b, o + t, none⟩) (n - t) (c - t) (ss.drop t) _ hcut (by omega) (by omega) (fun s hs => hls s (List.mem_of_mem_drop hs)) (by rw [List.length_drop]; omega) (fun k hk => by have := hF k hk; omega)).mono ?_
      rintro e w2 ⟨Aw, nw, cw, Am, nm, cm, An, nn, cn, rfl, hrec, hb2⟩
      have hkk := @decode_n (ss.drop t)
      have hgo := hin.out.go
      have hstop := hin.out.stop
      rw [← hm'.out] at hgo hstop
      unfold scanOk at hgo hstop
      obtain ⟨d, hd⟩ : ∃ d, d = decode (ss.drop t) := ⟨_, rfl⟩
      rw [← hd] at hrec hkk hgo hstop ⊢
      clear hd
      obtain ⟨r, kk, cc⟩ := d
      simp only [List.length_drop] at hrec hkk hgo hstop ⊢
      have hgo' := hid hgo
      have hstop' := hid hstop
      have hkk' := hid hkk
      clear hgo hstop hkk
      have hs2 := hb2.size
      have hZ := Blk.new w2 27 #[.int .u64 0, .int .u64 0, .slice none 0 0, .slice none 0 0, .slice none 0 0]
      go_wp2_with ((with_reducible refine at_wl ?_); (refine wpList_stBlk rfl 27 _ _ rfl w2.heap.size 27 _ (recCells r Aw nw cw Am nm cm An nn cn) hZ rfl rfl info_rec rfl rfl ?_; intro w3 hb3 hg3; refine mk_stop ?_))
      have hbl3 : Below w2.heap.size w2 w3 := below_of_only ((World.grownBy_alloc w2 _ _).trans hg3) (Nat.le_refl _) (Nat.le_refl _)
      have hs3 := hbl3.size
      have hz3 := hb3.lt
      have hb3l : Blk w3 w2.heap.size 27 #[.int .u64 (r.gen : Int), .int .u64 (r.seq : Int), .slice Aw nw cw, .slice Am nm cm, .slice An nn cn] := hb3
      have hb3' := hid hb3l
      clear hb3l
      obtain ⟨x0, x1, x2, x3, x4⟩ := hb3.rec5
      have hbr3 := hb2.trans (hbl3.mono hs2)
      have hbel3 := hbel.trans (hbr3.mono hzr)
      have hown3 := hown.below hbr3
      have hownlt := hown.lt
      unfold Mk
      by_cases hc0 : cc = 0
      · by_cases hg0 : r.gen = gen
        · by_cases hq0 : r.seq = m + 1
          · have hgo := hgo'.out (by rw [decide_eq_true ⟨hc0, hg0, hq0⟩])
            have hkn := hkk'.out hc0
            have hgo2 := hid hgo
            subst hc0
            rw [hg0] at x0
            have hq0i : (r.seq : Int) = (m : Int) + 1 := by omega
            rw [hq0i] at x1
            have hrec3 := (hrec.keep (Kp.of_below hbl3 (fun k hk => hk.1))).more' (G := fun k => k < w3.heap.size ∧ (False ∨ w.heap.size ≤ k) ∧ (Value.slice Av m cv).ownBlock ≠ some k) (fun k hk => ⟨by have := hk.1; omega, .inr (by have := hk.2; omega), fun e => by have := (hownlt k e).2; have := hk.2; omega⟩)
            clear hgo hg0 hq0 hq0i
            go_wp2_with (first | ((with_reducible refine at_wl ?_); (refine wpList_ldBlk rfl 27 _ rfl w2.heap.size 27 #[.int .u64 (r.gen : Int), .int .u64 (r.seq : Int), .slice Aw nw cw, .slice Am nm cm, .slice An nn cn] hb3'.out _ rfl Try.underlying27 rfl info_rec ?_)) | (at_builtin; refine mk_stop ?_))
            refine wpList_apR rfl _ _ rfl w.heap.size (fun _ => False) (.slice Av m cv) rs rfl hown3 r Aw nw cw Am nm cm An nn cn _ rfl hrec3 (by rw [← hm'.out]; omega) (by omega) ?_
            intro v4 w4 hown4 hg4 hat4
            go_wp2
            go_roundw
            case rel => exact ⟨t + kk, rs ++ [r], by go_num, hgo2.out, by have := hn.out; omega, hown4, hbel3.grown hg4 hbel3.size (fun k hk => (hownlt k hk).1)⟩
            case measure => have := hn.out; simp [intOf]; omega
          · have hq0i : ¬ (r.seq : Int) = (m : Int) + 1 := by omega
            rw [hg0] at x0
            subst hc0
            have hst := hstop'.out (by rw [decide_eq_false (fun e => hq0 e.2.2)])
            have hst' := hid hst
            clear hst
            go_wp2_with fail
            try rw [Exit.noGoto_ret]
            go_ret2
            refine ⟨_, by rw [hst'.out]; rfl, ?_, hbel3⟩
            rw [hst'.out]
            exact hown3
        · have hg0i : ¬ (r.gen : Int) = (gen : Int) := by omega
          subst hc0
          have hst := hstop'.out (by rw [decide_eq_false (fun e => hg0 e.2.1)])
          have hst' := hid hst
          clear hst
          go_wp2_with fail
          try rw [Exit.noGoto_ret]
          go_ret2
          refine ⟨_, by rw [hst'.out]; rfl, ?_, hbel3⟩
          rw [hst'.out]
          exact hown3
      · have hst := hstop'.out (by rw [decide_eq_false (fun e => hc0 e.1)])
        have hst' := hid hst
        clear hst
        go_wp2_with fail
        try rw [Exit.noGoto_ret]
        go_ret2
        refine ⟨_, by rw [hst'.out]; rfl, ?_, hbel3⟩
        rw [hst'.out]
        exact hown3
    · have htn' : t = n := by omega
      subst htn'
      have hst := hin.out.stop (by rw [List.drop_of_length_le (by rw [← hn.out]; omega)]; exact scanOk_nil _ _)
      have hst' := hid hst
      clear hst
      go_wp2_with fail
      try rw [Exit.noGoto_ret]
      go_ret2
      refine ⟨_, by rw [hst'.out]; rfl, ?_, hbel⟩
      rw [hst'.out]
      exact hown

end Go.Proofs.Ytbcmpfdhpefdbaa
