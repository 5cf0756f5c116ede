/- The contract of the reference's Inspect. The contract of the reference's Inspect: the numbers are read. -/
import Derived.Test.YtbcmpfdhpefdbaaKJ
import Derived.Test.YtbcmpfdhpefdbaaKI
import Derived.Test.YtbcmpfdhpefdbaaKC
set_option linter.unusedVariables false
set_option linter.unusedSimpArgs false
namespace Go.Proofs.Ytbcmpfdhpefdbaa
open Go.RowKit
attribute [local irreducible] Go.Calls

theorem info_head9 : (Try.prog.info? 39).map (·.size) = some 4 := by kernel_rfl

set_option maxRecDepth 100000 in
set_option maxHeartbeats 400000 in
theorem insp9_form (F : Nat → Prop) (A : Option Addr) (n c : Nat) (b : List UInt8) (w : World) (h : RdB w F A n b) (hnc : n ≤ c) (hl : b.length ≤ 1000000) (hF : ∀ k, F k → k < w.heap.size) (hbad : b.length < 8 ∨ b[0]? ≠ some 82) :
    Calls Try.prog 24 #[.slice A n c] w (InspPost F w (insp b)) := by
  have hfin := hid (show insp b = Ins.bad 5 by rw [insp, if_pos hbad])
  have hn := h.1
  have hbox : Blk (w.alloc (.cells #[.int .u64 0, .int .u64 0, .int .i64 0, .int .i64 0] 39)) w.heap.size 39 #[.int .u64 0, .int .u64 0, .int .i64 0, .int .i64 0] := Blk.new _ _ _
  have hbel0 : Below w.heap.size w (w.alloc (.cells #[.int .u64 0, .int .u64 0, .int .i64 0, .int .i64 0] 39)) := (Below.refl _ _).alloc (Nat.le_refl _) _
  have hnl : n ≤ 1000000 := by omega
  by_cases h8 : b.length < 8
  · have h8' : n < 8 := by omega
    have hn' := hid hn
    clear hn hbad h8
    go_enter Try.func24, Try.ntmps24
    go_wp2_with (refine wpList_stBlk rfl 39 _ _ rfl w.heap.size 39 _ #[.int .u64 0, .int .u64 0, .int .i64 0, .int .i64 0] hbox rfl rfl info_head9 rfl rfl ?_; intro w2 hb3 hg3)
    refine bodyPost_ret (results_ctt rfl rfl hb3 Try.underlying39 rfl info_head9) rfl ?_
    rw [hfin.out]
    exact inspPost_bad (hbel0.grown hg3 (by simp) (by intro k hk; injection hk with hk; omega))
  · have h8' : 8 ≤ n := by omega
    have h82 : b[0]? ≠ some 82 := hbad.resolve_left h8
    obtain ⟨x, hx⟩ : ∃ x, b[0]? = some x := ⟨b[0]'(by omega), List.getElem?_eq_getElem _⟩
    obtain ⟨bb, o, rfl, hFb, hc⟩ := h.at_ hx
    have hc' : (w.alloc (.cells #[.int .u64 0, .int .u64 0, .int .i64 0, .int .i64 0] 39)).cell? ⟨bb, o, none⟩ = some (.int .u8 (x.toNat : Int)) := (World.cell?_alloc_lt _ _ _ (hF bb hFb)).trans (by simpa using hc)
    have hx82 : ¬ (x.toNat : Int) = 82 := fun e => h82 (by rw [hx]; congr 1; exact UInt8.toNat_inj.1 (by rw [show (82 : UInt8).toNat = 82 from rfl]; omega))
    have hxb : ((x.toNat : Int) != 82) = true := by rw [bne_iff_ne]; exact hx82
    have hn' := hid hn
    clear hn hbad h8 h82 hx hc
    go_enter Try.func24, Try.ntmps24
    go_wp2_with (refine wpList_stBlk rfl 39 _ _ rfl w.heap.size 39 _ #[.int .u64 0, .int .u64 0, .int .i64 0, .int .i64 0] hbox rfl rfl info_head9 rfl rfl ?_; intro w2 hb3 hg3)
    refine bodyPost_ret (results_ctt rfl rfl hb3 Try.underlying39 rfl info_head9) rfl ?_
    rw [hfin.out]
    exact inspPost_bad (hbel0.grown hg3 (by simp) (by intro k hk; injection hk with hk; omega))

set_option maxRecDepth 100000 in
set_option maxHeartbeats 400000 in
theorem insp9_sum (F : Nat → Prop) (bb o n c : Nat) (b : List UInt8) (w : World) (h : RdB w F (some ⟨bb, o, none⟩) n b) (hnc : n ≤ c) (hcm : c ≤ maxLen) (hl : b.length ≤ 1000000) (hF : ∀ k, F k → k < w.heap.size) (h8 : 8 ≤ b.length) (h82 : b[0]? = some 82)
    (hbad : sealB (b.take (b.length - 8)) ≠ b) :
    Calls Try.prog 24 #[.slice (some ⟨bb, o, none⟩) n c] w (InspPost F w (insp b)) := by
  have hfin := hid (show insp b = Ins.bad 6 by rw [insp, if_neg (by rintro (e | e); omega; exact e h82), if_pos hbad])
  have hn := h.1
  have hbox : Blk (w.alloc (.cells #[.int .u64 0, .int .u64 0, .int .i64 0, .int .i64 0] 39)) w.heap.size 39 #[.int .u64 0, .int .u64 0, .int .i64 0, .int .i64 0] := Blk.new _ _ _
  have hbel0 : Below w.heap.size w (w.alloc (.cells #[.int .u64 0, .int .u64 0, .int .i64 0, .int .i64 0] 39)) := (Below.refl _ _).alloc (Nat.le_refl _) _
  have hnl : n ≤ 1000000 := by omega
  have h8' : 8 ≤ n := by omega
  obtain ⟨_, _, e, hFb, hc⟩ := h.at_ h82
  injection e with e
  injection e with e1 e2
  subst e1
  subst e2
  have hc' : (w.alloc (.cells #[.int .u64 0, .int .u64 0, .int .i64 0, .int .i64 0] 39)).cell? ⟨bb, o, none⟩ = some (.int .u8 82) := (World.cell?_alloc_lt _ _ _ (hF _ hFb)).trans (by simpa using hc)
  have hr0 := h.keep (Kp.of_below hbel0 hF)
  have hrt := RdB.mk_take hr0 (n := n - 8) (by omega)
  have e3 : b.take (n - 8) = b.take (b.length - 8) := by rw [hn]
  rw [e3] at hrt
  have hsl := sealB_len (b.take (b.length - 8))
  have hcv := hr0.conv c
  have hi1 : (0 : Int) ≤ ((n - 8 : Nat) : Int) := by omega
  have hi2 : ((n - 8 : Nat) : Int) ≤ (c : Int) := by omega
  have hi3 : n - 8 ≤ c := by omega
  have hi4 : (n : Int) - 8 = ((n - 8 : Nat) : Int) := by omega
  have hi5 : IntKind.i64.wrap ((n - 8 : Nat) : Int) = ((n - 8 : Nat) : Int) := by rw [IntKind.wrap_i64]; omega
  have hbad' := hid hbad
  have hn' := hid hn
  clear hn h8 h82 hc hbad e3
  go_enter Try.func24, Try.ntmps24
  go_wp2_with fail
  have hcv0 := hr0.drew.conv c
  go_region_with (first | (go_at_call 25; refine (sealed27_any F _ _ _ _ _ hrt.drew (by omega) (by rw [List.length_take]; omega) (fun k hk => by have := hF k hk; simp; omega)).mono ?_; intro e w1 hret1; obtain ⟨A1, c1, d1, rfl, hown1, hbel1, hc1, hm1, hd1⟩ := hret1.opened; have hcv1 := hown1.rd.conv c1; have hcvb := (hr0.drew.keep (Kp.of_below hbel1 (fun k hk => by have := hF k hk; simp; omega))).conv c; have hne := strB_ne (a := d1) (b := b) (fun e => hbad'.out (by rw [← hd1.out]; exact e))))
  all_goals (
    have hbx1 := hbox.drew.below hbel1 (by simp)
    have hbelw1 : Below w.heap.size w w1 := hbel0.drew.trans (hbel1.mono (by simp))
    go_wp2_with (refine wpList_stBlk rfl 39 _ _ rfl w.heap.size 39 _ #[.int .u64 0, .int .u64 0, .int .i64 0, .int .i64 0] hbx1 rfl rfl info_head9 rfl rfl ?_; intro w4 hb3 hg3)
    refine bodyPost_ret (results_ctt rfl rfl hb3 Try.underlying39 rfl info_head9) rfl ?_
    rw [hfin.out]
    exact inspPost_bad (hbelw1.grown hg3 hbelw1.size (by intro k hk; injection hk with hk; omega)))


end Go.Proofs.Ytbcmpfdhpefdbaa

namespace Go.Proofs.Ytbcmpfdhpefdbaa
open Go.RowKit
attribute [local irreducible] Go.Calls

set_option maxRecDepth 100000 in
set_option maxHeartbeats 4000000 in
theorem insp9_read (F : Nat → Prop) (bb o n c : Nat) (b : List UInt8) (w : World) (h : RdB w F (some ⟨bb, o, none⟩) n b) (hnc : n ≤ c) (hcm : c ≤ maxLen) (hl : b.length ≤ 1000000) (hF : ∀ k, F k → k < w.heap.size) (h8 : 8 ≤ b.length) (h82 : b[0]? = some 82)
    (hgood : sealB (b.take (b.length - 8)) = b) :
    Calls Try.prog 24 #[.slice (some ⟨bb, o, none⟩) n c] w (InspPost F w (insp b)) := by
  have hfin : insp b = if b.length = 8 then Ins.bad 5 else insR (some ((b.take (b.length - 8)).drop 1)) := by rw [insp, if_neg (by rintro (e | e); omega; exact e h82), if_neg (fun e => e hgood)]
  have hn := h.1
  have hbox : Blk (w.alloc (.cells #[.int .u64 0, .int .u64 0, .int .i64 0, .int .i64 0] 39)) w.heap.size 39 #[.int .u64 0, .int .u64 0, .int .i64 0, .int .i64 0] := Blk.new _ _ _
  have hbel0 : Below w.heap.size w (w.alloc (.cells #[.int .u64 0, .int .u64 0, .int .i64 0, .int .i64 0] 39)) := (Below.refl _ _).alloc (Nat.le_refl _) _
  have hnl : n ≤ 1000000 := by omega
  have h8' : 8 ≤ n := by omega
  obtain ⟨_, _, e, hFb, hc⟩ := h.at_ h82
  injection e with e
  injection e with e1 e2
  subst e1
  subst e2
  have hc' : (w.alloc (.cells #[.int .u64 0, .int .u64 0, .int .i64 0, .int .i64 0] 39)).cell? ⟨bb, o, none⟩ = some (.int .u8 82) := (World.cell?_alloc_lt _ _ _ (hF _ hFb)).trans (by simpa using hc)
  have hr0 := h.keep (Kp.of_below hbel0 hF)
  have hrt := RdB.mk_take hr0 (n := n - 8) (by omega)
  have e3 : b.take (n - 8) = b.take (b.length - 8) := by rw [hn]
  rw [e3] at hrt
  have hsl := sealB_len (b.take (b.length - 8))
  have hcv := hr0.conv c
  have hi1 : (0 : Int) ≤ ((n - 8 : Nat) : Int) := by omega
  have hi2 : ((n - 8 : Nat) : Int) ≤ (c : Int) := by omega
  have hi3 : n - 8 ≤ c := by omega
  have hi4 : (n : Int) - 8 = ((n - 8 : Nat) : Int) := by omega
  have hi5 : IntKind.i64.wrap ((n - 8 : Nat) : Int) = ((n - 8 : Nat) : Int) := by rw [IntKind.wrap_i64]; omega
  have hgood' := hid hgood
  have hfin' := hid hfin
  have hn' := hid hn
  clear hn h8 h82 hc hgood e3 hfin
  go_enter Try.func24, Try.ntmps24
  go_wp2_with fail
  have hcv0 := hr0.drew.conv c
  go_region_with (first | (go_at_call 25; refine (sealed27_any F _ _ _ _ _ hrt.drew (by omega) (by rw [List.length_take]; omega) (fun k hk => by have := hF k hk; simp; omega)).mono ?_; intro e w1 hret1; obtain ⟨A1, c1, d1, rfl, hown1, hbel1, hc1, hm1, hd1⟩ := hret1.opened; have hcv1 := hown1.rd.conv c1; have hcvb := (hr0.drew.keep (Kp.of_below hbel1 (fun k hk => by have := hF k hk; simp; omega))).conv c; have hne := strB_eq (a := d1) (b := b) (by rw [hd1.out]; exact hgood'.out)))
  all_goals (
    have hbx1 := hbox.drew.below hbel1 (by simp)
    have hbelw1 : Below w.heap.size w w1 := hbel0.drew.trans (hbel1.mono (by simp))
    by_cases hlen8 : n = 8
    · subst hlen8
      go_wp2_with (refine wpList_stBlk rfl 39 _ _ rfl w.heap.size 39 _ #[.int .u64 0, .int .u64 0, .int .i64 0, .int .i64 0] hbx1 rfl rfl info_head9 rfl rfl ?_; intro w4 hb3 hg3)
      refine bodyPost_ret (results_ctt rfl rfl hb3 Try.underlying39 rfl info_head9) rfl ?_
      rw [hfin'.out, if_pos hn'.out.symm]
      exact inspPost_bad (hbelw1.grown hg3 hbelw1.size (by intro k hk; injection hk with hk; omega))
    · have h9 : 9 ≤ n := by omega
      have h9' : ¬ n < 9 := by omega
      have h9i : ¬ (n : Int) < 9 := by omega
      have h9j : (9 : Int) ≤ n := by omega
      have hcz : ¬ c = 1 := by omega
      have h1n : (1 : Int) ≤ ((n - 8 : Nat) : Int) := by omega
      have h1n' : 1 ≤ n - 8 := by omega
      have hz1 := hbelw1.size
      have hz1' := hbx1.lt
      have hr3 := RdB.mk_take (h.keep (Kp.of_below hbelw1 hF)) (n := n - 8) (by omega)
      have hcut := hr3.cut (n := 1) (c := c) (by omega) (by omega)
      unfold cutA at hcut
      rw [if_neg hcz] at hcut
      simp only [Option.map_some, addr_add, Nat.mul_one] at hcut
      clear hne hcv hcv1 hrt hr0
      go_wp2_with fail
      refine (new9_any F _ _ _ _ _ hcut (by rw [List.length_drop, List.length_take]; omega) (fun k hk => by have := hF k hk; omega)).mono ?_
      rintro e w2 ⟨g, rfl, hrdr, hbel4, hgl, hgs⟩
      have hbx2 := hbx1.below hbel4 hbx1.lt
      have hbelw2 := hbelw1.trans (hbel4.mono hz1)
      obtain ⟨st, hst⟩ : ∃ st : RS, st = some ((b.take (n - 8)).drop 1) := ⟨_, rfl⟩
      rw [← hst] at hrdr
      have hstl : rLeft st ≤ 1000000 := by rw [hst]; simp only [rLeft]; rw [List.length_drop, List.length_take]; omega
      have hst' := hid hst
      clear hst hcut hr3 hbel4 hbx1 hbelw1
      go_wp2_with fail
      refine (uint9_any _ g (stAt st 0) w2 hrdr (by have := stAt_left st 0; omega) (fun k hk => ⟨by have := hgs; omega, by omega⟩)).mono ?_
      rintro e wu0 ⟨rfl, hr0', hg0⟩
      have bx0 := hbx2.grown hg0 (by intro e; injection e; omega)
      have bl0 := hbelw2.grown hg0 hbelw2.size (by intro k hk; injection hk with hk; omega)
      have gs0 : g < wu0.heap.size := Nat.lt_of_lt_of_le hgs hg0.size
      go_wp2_with fail
      refine (uint9_any _ g (stAt st 1) wu0 hr0' (by have := stAt_left st 1; omega) (fun k hk => ⟨by have := gs0; omega, by omega⟩)).mono ?_
      rintro e wu1 ⟨rfl, hr1', hg1⟩
      have bx1 := bx0.grown hg1 (by intro e; injection e; omega)
      have bl1 := bl0.grown hg1 bl0.size (by intro k hk; injection hk with hk; omega)
      have gs1 : g < wu1.heap.size := Nat.lt_of_lt_of_le gs0 hg1.size
      go_wp2_with fail
      refine (uint9_any _ g (stAt st 2) wu1 hr1' (by have := stAt_left st 2; omega) (fun k hk => ⟨by have := gs1; omega, by omega⟩)).mono ?_
      rintro e wu2 ⟨rfl, hr2', hg2⟩
      have bx2 := bx1.grown hg2 (by intro e; injection e; omega)
      have bl2 := bl1.grown hg2 bl1.size (by intro k hk; injection hk with hk; omega)
      have gs2 : g < wu2.heap.size := Nat.lt_of_lt_of_le gs1 hg2.size
      go_wp2_with fail
      refine (uint9_any _ g (stAt st 3) wu2 hr2' (by have := stAt_left st 3; omega) (fun k hk => ⟨by have := gs2; omega, by omega⟩)).mono ?_
      rintro e wu3 ⟨rfl, hr3', hg3⟩
      have bx3 := bx2.grown hg3 (by intro e; injection e; omega)
      have bl3 := bl2.grown hg3 bl2.size (by intro k hk; injection hk with hk; omega)
      have gs3 : g < wu3.heap.size := Nat.lt_of_lt_of_le gs2 hg3.size
      go_wp2_with fail
      refine (bytes9_any _ g (stAt st 4) wu3 hr3' (by have := stAt_left st 4; omega) (fun k hk => ⟨by omega, by omega⟩)).mono ?_
      rintro e w5 ⟨v5, rfl, hown5, hrdr5, hg5⟩
      have hbx5 := bx3.grown hg5 (by intro e; injection e; omega)
      have hbel5 := bl3.grown hg5 bl3.size (by intro k hk; injection hk with hk; omega)
      have hz5 := bl3.size
      obtain ⟨A5, c5, rfl, hnc5, hcm5⟩ := hown5.form
      have hrd5 := hown5.rd
      obtain ⟨n5, hn5⟩ : ∃ n5, n5 = (rBytes (stAt st 4)).1.length := ⟨_, rfl⟩
      rw [← hn5] at hrd5 hnc5 ⊢
      obtain ⟨ch, hch⟩ : ∃ ch, ch = (rBytes (stAt st 4)).1 := ⟨_, rfl⟩
      obtain ⟨s5, hs5⟩ : ∃ s5, s5 = (rBytes (stAt st 4)).2 := ⟨_, rfl⟩
      have hbl := rBytes_len (stAt st 4)
      have hsl4 := stAt_left st 4
      rw [← hch] at hrd5 hbl
      rw [← hs5] at hrdr5 ⊢
      have hs5l : rLeft s5 ≤ 1000000 := by rw [hs5]; exact Nat.le_trans rBytes_left (by omega)
      have hch' := hid hch
      have hs5' := hid hs5
      have hlch := hrd5.1
      obtain ⟨v0, hv0⟩ : ∃ v, v = vAt st 0 := ⟨_, rfl⟩
      obtain ⟨v1, hv1⟩ : ∃ v, v = vAt st 1 := ⟨_, rfl⟩
      obtain ⟨v2, hv2⟩ : ∃ v, v = vAt st 2 := ⟨_, rfl⟩
      obtain ⟨v3, hv3⟩ : ∃ v, v = vAt st 3 := ⟨_, rfl⟩
      have hans' := hid (show insp b = insV (rDone s5) v0 v1 v2 v3 ch by
        rw [hfin'.out, if_neg (by have := hn'.out; omega), insR_eq, hs5, hv0, hv1, hv2, hv3, hch, hst'.out, ← hn'.out])
      have hlch' := hid hlch
      have w0 : (rUint (stAt st 0)).1 = v0 := hv0.symm
      have w1' : (rUint (stAt st 1)).1 = v1 := hv1.symm
      have w2' : (rUint (stAt st 2)).1 = v2 := hv2.symm
      have w3' : (rUint (stAt st 3)).1 = v3 := hv3.symm
      rw [w0, w1', w2', w3']
      have hv0b : v0 < 18446744073709551616 := by rw [hv0]; exact rUint_bd _
      clear hch hs5 hn5 hlch w0 w1' w2' w3' hv0 hv1 hv2 hv3 hown5
      have hbadF : Hid (insp b = Ins.bad 5 → ∀ w', Below w.heap.size w w' → InspPost F w (insp b) (.returned (.tuple #[.agg #[.int .u64 0, .int .u64 0, .int .i64 0, .int .i64 0], .slice none 0 0, .int .i64 5])) w') := fun e w' hb => by rw [e]; exact inspPost_bad hb
      cases s5 with
      | none =>
        have er : rErr none = 5 := rfl
        have dr : rDone none ≠ 0 := by decide
        go_wp2_with (refine wpList_stBlk rfl 39 _ _ rfl w.heap.size 39 _ #[.int .u64 0, .int .u64 0, .int .i64 0, .int .i64 0] hbx5 rfl rfl info_head9 rfl rfl ?_; intro w7 hb7 hg7)
        refine bodyPost_ret (results_ctt rfl rfl hb7 Try.underlying39 rfl info_head9) rfl ?_
        exact hbadF.out (by rw [hans'.out, insV, if_pos (.inl dr)]) _ (hbel5.grown hg7 hbel5.size (by intro k hk; injection hk with hk; omega))
      | some r5 =>
        have er : rErr (some r5) = 0 := rfl
        go_wp2_with fail
        refine (done9_any _ g (some r5) w5 hrdr5 (by omega)).mono ?_
        rintro e w6 ⟨rfl, rfl⟩
        obtain ⟨d, hd⟩ : ∃ d, d = rDone (some r5) := ⟨_, rfl⟩
        rw [← hd] at hans' ⊢
        clear hd er
        by_cases k0 : d = 0
        · subst k0
          by_cases k1 : v1 < 1
          · have x1 : v1 = 0 := by omega
            have x2 : (v1 : Int) = 0 := by omega
            go_wp2_with (refine wpList_stBlk rfl 39 _ _ rfl w.heap.size 39 _ #[.int .u64 0, .int .u64 0, .int .i64 0, .int .i64 0] hbx5 rfl rfl info_head9 rfl rfl ?_; intro w7 hb7 hg7)
            refine bodyPost_ret (results_ctt rfl rfl hb7 Try.underlying39 rfl info_head9) rfl ?_
            exact hbadF.out (by rw [hans'.out, insV, if_pos (.inr (.inl (by omega)))]) _ (hbel5.grown hg7 hbel5.size (by intro k hk; injection hk with hk; omega))
          · have x1 : ¬ v1 = 0 := by omega
            have x2 : ¬ (v1 : Int) = 0 := by omega
            have x3 : ¬ (v1 : Int) < 1 := by omega
            have x4 : (1 : Int) ≤ v1 := by omega
            have x5 : 1 ≤ v1 := by omega
            have x6 : 0 < v1 := by omega
            by_cases k2 : v3 ≤ v2
            · have z1 : (v3 : Int) ≤ v2 := by omega
              go_wp2_with (refine wpList_stBlk rfl 39 _ _ rfl w.heap.size 39 _ #[.int .u64 0, .int .u64 0, .int .i64 0, .int .i64 0] hbx5 rfl rfl info_head9 rfl rfl ?_; intro w7 hb7 hg7)
              refine bodyPost_ret (results_ctt rfl rfl hb7 Try.underlying39 rfl info_head9) rfl ?_
              exact hbadF.out (by rw [hans'.out, insV, if_pos (.inr (.inr (.inr (.inl (by omega)))))]) _ (hbel5.grown hg7 hbel5.size (by intro k hk; injection hk with hk; omega))
            · have z1 : ¬ (v3 : Int) ≤ v2 := by omega
              have z2 : (v2 : Int) < v3 := by omega
              have z3 : v2 < v3 := by omega
              by_cases k3 : 4096 < v3
              · have y1 : (4096 : Int) < v3 := by omega
                go_wp2_with (refine wpList_stBlk rfl 39 _ _ rfl w.heap.size 39 _ #[.int .u64 0, .int .u64 0, .int .i64 0, .int .i64 0] hbx5 rfl rfl info_head9 rfl rfl ?_; intro w7 hb7 hg7)
                refine bodyPost_ret (results_ctt rfl rfl hb7 Try.underlying39 rfl info_head9) rfl ?_
                exact hbadF.out (by rw [hans'.out, insV, if_pos (.inr (.inr (.inl (by omega))))]) _ (hbel5.grown hg7 hbel5.size (by intro k hk; injection hk with hk; omega))
              · have y1 : ¬ (4096 : Int) < v3 := by omega
                have y2 : (v3 : Int) ≤ 4096 := by omega
                have y3 : v3 ≤ 4096 := by omega
                by_cases k4 : n5 < 1
                · have t1 : n5 = 0 := by omega
                  have t2 : (n5 : Int) = 0 := by omega
                  go_wp2_with (refine wpList_stBlk rfl 39 _ _ rfl w.heap.size 39 _ #[.int .u64 0, .int .u64 0, .int .i64 0, .int .i64 0] hbx5 rfl rfl info_head9 rfl rfl ?_; intro w7 hb7 hg7)
                  refine bodyPost_ret (results_ctt rfl rfl hb7 Try.underlying39 rfl info_head9) rfl ?_
                  exact hbadF.out (by rw [hans'.out, insV, if_pos (.inr (.inr (.inr (.inr (.inl (by rw [← hlch'.out]; omega))))))]) _ (hbel5.grown hg7 hbel5.size (by intro k hk; injection hk with hk; omega))
                · have t1 : ¬ n5 = 0 := by omega
                  have t2 : ¬ (n5 : Int) = 0 := by omega
                  have t3 : ¬ (n5 : Int) < 1 := by omega
                  have t4 : (1 : Int) ≤ n5 := by omega
                  have t5 : 1 ≤ n5 := by omega
                  have t6 : 0 < n5 := by omega
                  by_cases k5 : 28 < n5
                  · have s1 : (28 : Int) < n5 := by omega
                    go_wp2_with (refine wpList_stBlk rfl 39 _ _ rfl w.heap.size 39 _ #[.int .u64 0, .int .u64 0, .int .i64 0, .int .i64 0] hbx5 rfl rfl info_head9 rfl rfl ?_; intro w7 hb7 hg7)
                    refine bodyPost_ret (results_ctt rfl rfl hb7 Try.underlying39 rfl info_head9) rfl ?_
                    exact hbadF.out (by rw [hans'.out, insV, if_pos (.inr (.inr (.inr (.inr (.inr (by rw [← hlch'.out]; omega))))))]) _ (hbel5.grown hg7 hbel5.size (by intro k hk; injection hk with hk; omega))
                  · have s1 : ¬ (28 : Int) < n5 := by omega
                    have s2 : (n5 : Int) ≤ 28 := by omega
                    have s3 : n5 ≤ 28 := by omega
                    have e1 : IntKind.i64.wrap (v2 : Int) = (v2 : Int) := by rw [IntKind.wrap_i64]; omega
                    have e2 : IntKind.i64.wrap (v3 : Int) = (v3 : Int) := by rw [IntKind.wrap_i64]; omega
                    go_wp2_with (refine wpList_stBlk rfl 39 _ _ rfl w.heap.size 39 _ #[.int .u64 (v0 : Int), .int .u64 (v1 : Int), .int .i64 (v2 : Int), .int .i64 (v3 : Int)] hbx5 rfl rfl info_head9 rfl rfl ?_; intro w7 hb7 hg7)
                    refine bodyPost_ret (results_ctt rfl rfl hb7 Try.underlying39 rfl info_head9) rfl ?_
                    have hgd : insp b = ⟨v0, v1, v2, v3, ch, 0⟩ := by rw [hans'.out, insV, if_neg (by rw [← hlch'.out]; omega)]
                    rw [hgd]
                    refine ⟨A5, n5, c5, rfl, hnc5, hcm5, (hrd5.keep (Kp.of_grown hg7 (fun k hk => ⟨hk.1, by intro e; injection e; have := hk.2; omega⟩))).more (fun k hk => ⟨by have := hk.1; have := hg7.size; omega, .inr (by have := hk.2; omega)⟩), hbel5.grown hg7 hbel5.size (by intro k hk; injection hk with hk; omega)⟩
        · go_wp2_with (refine wpList_stBlk rfl 39 _ _ rfl w.heap.size 39 _ #[.int .u64 0, .int .u64 0, .int .i64 0, .int .i64 0] hbx5 rfl rfl info_head9 rfl rfl ?_; intro w7 hb7 hg7)
          refine bodyPost_ret (results_ctt rfl rfl hb7 Try.underlying39 rfl info_head9) rfl ?_
          exact hbadF.out (by rw [hans'.out, insV, if_pos (.inl k0)]) _ (hbel5.grown hg7 hbel5.size (by intro k hk; injection hk with hk; omega)))


theorem insp9_any (F : Nat → Prop) (A : Option Addr) (n c : Nat) (b : List UInt8) (w : World) (h : RdB w F A n b) (hnc : n ≤ c) (hcm : c ≤ maxLen) (hl : b.length ≤ 1000000) (hF : ∀ k, F k → k < w.heap.size) :
    Calls Try.prog 24 #[.slice A n c] w (InspPost F w (insp b)) := by
  by_cases hbad : b.length < 8 ∨ b[0]? ≠ some 82
  · exact insp9_form F A n c b w h hnc hl hF hbad
  · have h8 : 8 ≤ b.length := by omega
    have h82 : b[0]? = some 82 := Classical.not_not.1 (fun e => hbad (.inr e))
    obtain ⟨bb, o, rfl, hFb, hc⟩ := h.at_ h82
    by_cases hs : sealB (b.take (b.length - 8)) = b
    · exact insp9_read F bb o n c b w h hnc hcm hl hF h8 h82 hs
    · exact insp9_sum F bb o n c b w h hnc hcm hl hF h8 h82 hs

end Go.Proofs.Ytbcmpfdhpefdbaa
