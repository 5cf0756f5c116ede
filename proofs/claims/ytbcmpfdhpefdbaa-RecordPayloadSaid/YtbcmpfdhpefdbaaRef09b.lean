/- The contracts of the reference's encodings (tegularef09), second part: the reader. -/
import Derived.Test.YtbcmpfdhpefdbaaRef09
set_option linter.unusedVariables false
set_option linter.unusedSimpArgs false
namespace Go.Proofs.Ytbcmpfdhpefdbaa
open Go.RowKit

theorem uint9_any (F : Nat → Prop) (g : Nat) (st : RS) (w : World) (h : Rdr 110 w F g st) (hl : rLeft st ≤ 1099511627776) (hF : ∀ k, F k → k < w.heap.size ∧ k ≠ g) :
    Calls Try.prog 64 #[.pointer (some ⟨g, 0, none⟩)] w (UintPost 110 F w g st) := by
  cases st with
  | none => exact uint9_none F g w h
  | some bs => exact uint9_some F g bs w h hl hF

/-- what the reference's 'Bytes' answers: a slice of its own -/
def BytesPost9 (T : TypeId) (F : Nat → Prop) (w : World) (g : Nat) (st : RS) (e : Ending) (w' : World) : Prop :=
  ∃ v, e = .returned (.tuple #[v, .int .i64 (rErr (rBytes st).2)]) ∧ OwnB w.heap.size w' v (rBytes st).1 ∧ Rdr T w' F g (rBytes st).2 ∧ w.grownBy w' (some g)

set_option maxRecDepth 100000 in
set_option maxHeartbeats 400000 in
theorem bytes9_any (F : Nat → Prop) (g : Nat) (st : RS) (w : World) (h : Rdr 110 w F g st) (hl : rLeft st ≤ 1000000000) (hF : ∀ k, F k → k < w.heap.size ∧ k ≠ g) :
    Calls Try.prog 65 #[.pointer (some ⟨g, 0, none⟩)] w (BytesPost9 110 F w g st) := by
  have hd : Hid ((rUint st).2 = none → rBytes st = ([], none)) := fun e => by unfold rBytes; split <;> simp_all
  have hd2 : Hid (∀ bs, (rUint st).2 = some bs → rBytes st = rTake (rUint st).1 (some bs)) := fun bs e => by unfold rBytes; split <;> simp_all
  have hbd := rUint_bd st
  have hlf := rUint_left (st := st)
  have hgl : g < w.heap.size := by obtain ⟨_, _, _, _, hb, _⟩ := h; exact hb.lt
  go_enter Try.func65, Try.ntmps65
  go_wp2_with fail
  refine (uint9_any F g st _ h (by omega) hF).mono ?_
  rintro e w1 ⟨rfl, hr1, hg1⟩
  generalize (rUint st).1 = n at *
  generalize (rUint st).2 = s at *
  cases s with
  | none =>
    have hd' := hid (hd.out rfl)
    clear hd hd2
    simp only [rErr]
    go_wp2
    go_ret2
    exact ⟨_, by rw [hd'.out]; rfl, by rw [hd'.out]; exact OwnB.nil_, by rw [hd'.out]; exact hr1, hg1⟩
  | some bs =>
    have hd' := hid (hd2.out bs rfl)
    clear hd hd2
    simp only [rErr]
    have hF1 : ∀ k, F k → k < w1.heap.size ∧ k ≠ g := fun k hk => ⟨Nat.lt_of_lt_of_le (hF k hk).1 hg1.size, (hF k hk).2⟩
    have hbl : bs.length ≤ 1000000000 := Nat.le_trans hlf hl
    obtain ⟨A, k, c, b, hb1, hkc, hcm, rfl, hrd⟩ := hr1
    have h0 := hb1.cell 0
    have f0 := hb1.frozen 0
    have hk := hid hrd.1
    have hkl : k ≤ 1000000000 := by rw [hk.out]; exact hbl
    by_cases hn : n ≤ bs.length
    · have hnk : n ≤ k := by rw [hk.out]; exact hn
      have e1 := hid (show rBytes st = (bs.take n, some (bs.drop n)) by rw [hd'.out, rTake, if_pos hn])
      have htk := hrd.take_ hnk
      have hcut := hrd.cut hnk hkc
      have h0' : (w1.alloc (.cells #[] 5)).cell? ⟨g, 0, none⟩ = some (.slice A k c) := by rw [World.cell?_alloc_lt _ _ _ hb1.lt]; exact h0
      go_wp2_with (at_builtin; refine mk_stop ?_)
      refine wpList_apB rfl _ _ rfl w1.heap.size (.slice (some ⟨w1.heap.size, 0, none⟩) 0 0) [] (by rfl) (OwnB.made (Nat.le_refl _)) F A n c (bs.take n) rfl (htk.keep (fun k hk => Below.heap_alloc w1 _ _ (hF1 k hk).1)) (by simp; omega) (by simp) ?_
      intro v2 w2 hown hg2 hat
      have hbel : Below w1.heap.size w1 w2 := ((Below.refl _ _).alloc (Nat.le_refl _) _).grown hg2 (by simp) (by simp [Value.ownBlock])
      clear hg2 hat h0'
      have hb2 := hb1.below hbel hb1.lt
      have h02 := hb2.cell 0
      have f02 := hb2.frozen 0
      have hkp : ∀ u, Kp F w1 (w2.setCell ⟨g, 0, none⟩ u) := fun u j hj => (Below.heap_setCell w2 _ u j (hF1 j hj).2).trans (hbel.block j (hF1 j hj).1)
      have hfin : ∀ u, w.grownBy (w2.setCell ⟨g, 0, none⟩ u) (some g) := fun u => (hg1.trans (only_of_below hbel _)).trans (only_set (only_refl _ _) 0 u)
      have hown2 : ∀ u, OwnB w.heap.size (w2.setCell ⟨g, 0, none⟩ u) v2 (bs.take n) := fun u => by
        rw [List.nil_append] at hown
        exact (hown.grown (only_set (only_refl _ _) 0 u) (by
          rcases hv : v2.ownBlock with _ | j
          · exact .inl rfl
          · refine .inr (fun e => ?_)
            injection e with e
            have := (hown.lt j hv).1
            have := hb1.lt
            omega)).lower hg1.size
      have hkp := hid hkp
      have hfin' := hid hfin
      have hown2' := hid hown2
      clear hfin hown2 hown h0 f0
      by_cases hcn : c = n
      · have hca := hid (show A = cutA A c n 1 by unfold cutA; rw [if_pos hcn])
        go_wp2
        go_ret2
        refine ⟨v2, by rw [e1.out]; rfl, by rw [e1.out]; exact hown2'.out _, ?_, hfin'.out _⟩
        rw [e1.out]
        exact ⟨_, _, _, _, hb2.set2_0 _, by omega, by omega, rfl, by have := hcut.keep (hkp.out (.slice A (k - n) 0)); rw [← hca.out] at this; exact this⟩
      · have hca := hid (show A.map (fun x => x.add n) = cutA A c n 1 by unfold cutA; rw [if_neg hcn, Nat.mul_one])
        go_wp2
        go_ret2
        refine ⟨v2, by rw [e1.out]; rfl, by rw [e1.out]; exact hown2'.out _, ?_, hfin'.out _⟩
        rw [e1.out]
        exact ⟨_, _, _, _, hb2.set2_0 _, by omega, by omega, rfl, by have := hcut.keep (hkp.out (.slice (A.map (fun x => x.add n)) (k - n) (c - n))); rw [← hca.out] at this; exact this⟩
    · have hkn : k < n := by rw [hk.out]; omega
      have e1 := hid (show rBytes st = ([], none) by rw [hd'.out, rTake, if_neg hn])
      go_wp2_with (go_at_call 84; refine (fail9_any g _ _ _ hb1).mono ?_; rintro e w2 ⟨rfl, hb2, hg2⟩)
      go_ret2
      exact ⟨_, by rw [e1.out]; rfl, by rw [e1.out]; exact OwnB.nil_, by rw [e1.out]; exact ⟨_, _, _, _, hb2, Nat.le_refl _, Nat.zero_le _, rfl, rfl, rfl, rfl⟩, hg1.trans hg2⟩

set_option maxRecDepth 100000 in
set_option maxHeartbeats 400000 in
theorem int9_any (F : Nat → Prop) (g : Nat) (st : RS) (w : World) (h : Rdr 110 w F g st) (hl : rLeft st ≤ 1099511627776) (hF : ∀ k, F k → k < w.heap.size ∧ k ≠ g) :
    Calls Try.prog 91 #[.pointer (some ⟨g, 0, none⟩)] w (IntPost 110 F w g st) := by
  have hd : Hid ((rUint st).2 = none → rInt st = (0, none)) := fun e => by unfold rInt; split <;> simp_all
  have hd2 : Hid (∀ bs, (rUint st).2 = some bs → rInt st = (zag (rUint st).1, some bs)) := fun bs e => by unfold rInt; split <;> simp_all
  have hbd := rUint_bd st
  go_enter Try.func91, Try.ntmps91
  go_wp2_with fail
  refine (uint9_any F g st _ h hl hF).mono ?_
  rintro e w1 ⟨rfl, hr1, hg1⟩
  generalize (rUint st).1 = n at *
  generalize (rUint st).2 = s at *
  cases s with
  | none =>
    have hd' := hid (hd.out rfl)
    clear hd hd2
    simp only [rErr]
    go_wp2
    go_ret2
    exact ⟨by rw [hd'.out]; rfl, by rw [hd'.out]; exact hr1, hg1⟩
  | some bs =>
    have hd' := hid (hd2.out bs rfl)
    clear hd hd2
    simp only [rErr]
    by_cases h2 : n % 2 = 0
    · have hz := hid (show (n : Int) / 2 = zag n by unfold zag; rw [if_pos h2]; omega)
      go_wp2
      go_ret2
      exact ⟨by rw [hd'.out, ← hz.out]; rfl, by rw [hd'.out]; exact hr1, hg1⟩
    · have hz := hid (show -((n : Int) / 2) - 1 = zag n by unfold zag; rw [if_neg h2]; omega)
      go_wp2
      go_ret2
      exact ⟨by rw [hd'.out, ← hz.out]; rfl, by rw [hd'.out]; exact hr1, hg1⟩

theorem Blk.z8 {w : World} {g : Nat} {t : TypeId} {v0 v1 v2 v3 v4 v5 v6 v7 : Value} (h : Blk w g t #[v0, v1, v2, v3, v4, v5, v6, v7]) (u0 u1 u2 u3 u4 u5 u6 u7 : Value) :
    Blk ((((((((w.setCell ⟨g, 0, none⟩ u0).setCell ⟨g, 1, none⟩ u1).setCell ⟨g, 2, none⟩ u2).setCell ⟨g, 3, none⟩ u3).setCell ⟨g, 4, none⟩ u4).setCell ⟨g, 5, none⟩ u5).setCell ⟨g, 6, none⟩ u6).setCell ⟨g, 7, none⟩ u7) g t #[u0, u1, u2, u3, u4, u5, u6, u7] := by
  have h0 : Blk (w.setCell ⟨g, 0, none⟩ u0) g t #[u0, v1, v2, v3, v4, v5, v6, v7] := h.set_ 0 u0
  have h1 : Blk ((w.setCell ⟨g, 0, none⟩ u0).setCell ⟨g, 1, none⟩ u1) g t #[u0, u1, v2, v3, v4, v5, v6, v7] := h0.set_ 1 u1
  have h2 : Blk (((w.setCell ⟨g, 0, none⟩ u0).setCell ⟨g, 1, none⟩ u1).setCell ⟨g, 2, none⟩ u2) g t #[u0, u1, u2, v3, v4, v5, v6, v7] := h1.set_ 2 u2
  have h3 : Blk ((((w.setCell ⟨g, 0, none⟩ u0).setCell ⟨g, 1, none⟩ u1).setCell ⟨g, 2, none⟩ u2).setCell ⟨g, 3, none⟩ u3) g t #[u0, u1, u2, u3, v4, v5, v6, v7] := h2.set_ 3 u3
  have h4 : Blk (((((w.setCell ⟨g, 0, none⟩ u0).setCell ⟨g, 1, none⟩ u1).setCell ⟨g, 2, none⟩ u2).setCell ⟨g, 3, none⟩ u3).setCell ⟨g, 4, none⟩ u4) g t #[u0, u1, u2, u3, u4, v5, v6, v7] := h3.set_ 4 u4
  have h5 : Blk ((((((w.setCell ⟨g, 0, none⟩ u0).setCell ⟨g, 1, none⟩ u1).setCell ⟨g, 2, none⟩ u2).setCell ⟨g, 3, none⟩ u3).setCell ⟨g, 4, none⟩ u4).setCell ⟨g, 5, none⟩ u5) g t #[u0, u1, u2, u3, u4, u5, v6, v7] := h4.set_ 5 u5
  have h6 : Blk (((((((w.setCell ⟨g, 0, none⟩ u0).setCell ⟨g, 1, none⟩ u1).setCell ⟨g, 2, none⟩ u2).setCell ⟨g, 3, none⟩ u3).setCell ⟨g, 4, none⟩ u4).setCell ⟨g, 5, none⟩ u5).setCell ⟨g, 6, none⟩ u6) g t #[u0, u1, u2, u3, u4, u5, u6, v7] := h5.set_ 6 u6
  have h7 : Blk ((((((((w.setCell ⟨g, 0, none⟩ u0).setCell ⟨g, 1, none⟩ u1).setCell ⟨g, 2, none⟩ u2).setCell ⟨g, 3, none⟩ u3).setCell ⟨g, 4, none⟩ u4).setCell ⟨g, 5, none⟩ u5).setCell ⟨g, 6, none⟩ u6).setCell ⟨g, 7, none⟩ u7) g t #[u0, u1, u2, u3, u4, u5, u6, u7] := h6.set_ 7 u7
  exact h7

/-- two zero blocks -/
def Z2 (g : Nat) (w : World) : Prop := Blk w g 75 #[.int .u8 0, .int .u8 0, .int .u8 0, .int .u8 0, .int .u8 0, .int .u8 0, .int .u8 0, .int .u8 0] ∧ Blk w (g + 1) 75 #[.int .u8 0, .int .u8 0, .int .u8 0, .int .u8 0, .int .u8 0, .int .u8 0, .int .u8 0, .int .u8 0]
def zset (w : World) (g : Nat) : World := (((((((w.setCell ⟨g, 0, none⟩ (.int .u8 0)).setCell ⟨g, 1, none⟩ (.int .u8 0)).setCell ⟨g, 2, none⟩ (.int .u8 0)).setCell ⟨g, 3, none⟩ (.int .u8 0)).setCell ⟨g, 4, none⟩ (.int .u8 0)).setCell ⟨g, 5, none⟩ (.int .u8 0)).setCell ⟨g, 6, none⟩ (.int .u8 0)).setCell ⟨g, 7, none⟩ (.int .u8 0)
theorem Blk.farSet {w : World} {g g' j : Nat} {t : TypeId} {cs : Array Value} {u : Value} (h : Blk w g t cs) (hne : g ≠ g') : Blk (w.setCell ⟨g', j, none⟩ u) g t cs := h.far hne u
theorem Z2.zset {g : Nat} {w : World} (h : Z2 g w) : Z2 g (zset w g) :=
  ⟨Blk.z8 h.1 _ _ _ _ _ _ _ _, (((((((Blk.farSet h.2 (by omega)).farSet (by omega)).farSet (by omega)).farSet (by omega)).farSet (by omega)).farSet (by omega)).farSet (by omega)).farSet (by omega)⟩
theorem zset_only (w : World) (g : Nat) : w.grownBy (zset w g) (some g) :=
  only_set (only_set (only_set (only_set (only_set (only_set (only_set (only_set (only_refl _ _) 0 _) 1 _) 2 _) 3 _) 4 _) 5 _) 6 _) 7 _

set_option maxRecDepth 100000 in
set_option maxHeartbeats 1000000 in
theorem block9_bad (F : Nat → Prop) (g : Nat) (st : RS) (w : World) (h : Rdr 110 w F g st) (hl : rLeft st < 8) :
    Calls Try.prog 90 #[.pointer (some ⟨g, 0, none⟩)] w (BlockPost 110 F w g st) := by
  obtain ⟨A, k, c, b, hb, hkc, hcm, hm⟩ := h
  have hgl := hb.lt
  have hk : k = rLeft st := by
    cases st with
    | none => exact hm.2.2.1
    | some bs => exact hm.2.1
  have hk8 : k < 8 := by omega
  clear hk
  have e1 := hid (show rBlock st = (B8.zero, none) by unfold rBlock; cases st with | none => rfl | some bs => simp only [rLeft] at hl; simp; omega)
  have hrow := hid (show Try.prog.underlying 75 = some (.array 8 5) by kernel_rfl)
  have hinf := hid (show (Try.prog.info? 75).map (·.size) = some 8 by kernel_rfl)
  have h0 := hb.cell 0
  have h0' : ((w.alloc (.cells B8.zero.cells 75)).alloc (.cells B8.zero.cells 75)).cell? ⟨g, 0, none⟩ = some (.slice A k c) := by
    rw [World.cell?_alloc_lt _ _ _ (by simp; omega), World.cell?_alloc_lt _ _ _ hgl]; exact h0
  have hb' : Blk ((w.alloc (.cells B8.zero.cells 75)).alloc (.cells B8.zero.cells 75)).drew g 110 #[.slice A k c, .bool b] := (hb.alloc _).alloc _
  have hz : Z2 w.heap.size ((w.alloc (.cells B8.zero.cells 75)).alloc (.cells B8.zero.cells 75)).drew := by
    refine ⟨(Blk.new w _ _).alloc _, ?_⟩
    have := Blk.new (w.alloc (.cells B8.zero.cells 75)) 75 B8.zero.cells
    rwa [show (w.alloc (.cells B8.zero.cells 75)).heap.size = w.heap.size + 1 by simp] at this
  have hgr := hid (show ∀ w2, ((w.alloc (.cells B8.zero.cells 75)).alloc (.cells B8.zero.cells 75)).drew.grownBy w2 (some g) → w.grownBy w2 (some g) ∧ Z2 w.heap.size w2 from fun w2 hg2 =>
    ⟨(only_drew (only_alloc (only_alloc (only_refl w _) _) _)).trans hg2, hz.1.grown hg2 (by intro e; injection e; omega), hz.2.grown hg2 (by intro e; injection e; omega)⟩)
  rw [show B8.zero.cells = #[.int .u8 0, .int .u8 0, .int .u8 0, .int .u8 0, .int .u8 0, .int .u8 0, .int .u8 0, .int .u8 0] from rfl] at h0' hb' hz hgr
  go_enter Try.func90, Try.ntmps90
  go_wp2_with fail
  refine wp_region_held_drew (S := fun w' => Blk w' (w.heap.size + 1) 75 #[.int .u8 0, .int .u8 0, .int .u8 0, .int .u8 0, .int .u8 0, .int .u8 0, .int .u8 0, .int .u8 0]) (by kernel_rfl) hz.2 (fun hHeld => ?_)
  refine wpAnyH_take (i := 0) (v := .agg #[.int .u8 0, .int .u8 0, .int .u8 0, .int .u8 0, .int .u8 0, .int .u8 0, .int .u8 0, .int .u8 0]) rfl (by kernel_rfl) (by kernel_rfl) (by kernel_rfl) (fun _ _ _ h => h) (Or.inl ⟨by rfl, fun w' hw' => exec_ldBlk 75 _ rfl (w.heap.size + 1) 75 _ hw' _ rfl hrow.out rfl hinf.out⟩) hHeld ?_
  refine wpAnyH_take (i := 1) (v := .pointer (some ⟨g, 0, none⟩)) rfl (by kernel_rfl) (by kernel_rfl) (by kernel_rfl) (fun _ _ _ h => h) (Or.inl ⟨by rfl, fun w' hw' => rfl⟩) hHeld ?_
  try simp only [Act.put, List.setIfInBounds_toArray, List.set_cons_zero, List.set_cons_succ]
  refine wpAnyH_ready (rs := [2]) (by kernel_rfl) (by simp) ?_
  refine AllReadyH.cons rfl (fun K hK => ?_) AllReadyH.nil
  go_simp
  refine (fail9_any g _ _ _ hb').mono ?_
  rintro e w2 ⟨rfl, hb2, hg2⟩
  obtain ⟨hgr1, hz2⟩ := hgr.out w2 hg2
  refine hK.out _ _ hz2.2 (fun _ => ?_)
  try simp only [Act.put, List.setIfInBounds_toArray, List.set_cons_zero, List.set_cons_succ]
  refine wpAnyH_ready (rs := [3]) (by kernel_rfl) (by simp) ?_
  refine AllReadyH.cons rfl (fun K hK => ?_) AllReadyH.nil
  rw [if_pos (by rfl)]
  refine wp_stBlk 75 _ _ rfl w.heap.size 75 _ #[.int .u8 0, .int .u8 0, .int .u8 0, .int .u8 0, .int .u8 0, .int .u8 0, .int .u8 0, .int .u8 0] hz2.1 rfl rfl hinf.out rfl rfl ?_
  intro w3 hb3 hg3
  refine hK.out _ _ (hz2.2.grown hg3 (by intro e; injection e; omega)) (fun _ => ?_)
  try simp only [Act.put, List.setIfInBounds_toArray, List.set_cons_zero, List.set_cons_succ]
  refine wpAnyH_ready (rs := [4]) (by kernel_rfl) (by simp) ?_
  refine AllReadyH.cons rfl (fun K hK => ?_) AllReadyH.nil
  go_simp
  refine hK.out _ _ (hz2.2.grown hg3 (by intro e; injection e; omega)) (fun _ => ?_)
  try simp only [Act.put, List.setIfInBounds_toArray, List.set_cons_zero, List.set_cons_succ]
  refine wpAnyH_done (by kernel_rfl) ?_ _
  go_wp2
  refine bodyPost_ret (results_ct rfl rfl hb3 hrow.out rfl hinf.out) rfl ?_
  refine ⟨by rw [e1.out]; rfl, ?_, grown_trans_new hgr1 hg3 (Nat.le_refl _)⟩
  rw [e1.out]
  exact ⟨_, _, _, _, hb2.grown hg3 (by intro e; injection e; omega), Nat.le_refl _, Nat.zero_le _, rfl, rfl, rfl, rfl⟩

/-- the block that is being filled -/
def part8 (bs : List UInt8) (j : Nat) : Array Value := ((bs.take j).map B ++ List.replicate (8 - j) (Value.int .u8 0)).toArray
theorem part8_size {bs : List UInt8} {j : Nat} (hb : 8 ≤ bs.length) (hj : j ≤ 8) : (part8 bs j).size = 8 := by simp [part8]; omega
theorem part8_set {bs : List UInt8} {j : Nat} {x : UInt8} (hj : j < 8) (hx : bs[j]? = some x) : (part8 bs j).setIfInBounds j (B x) = part8 bs (j + 1) := by
  have hl : j < bs.length := (List.getElem?_eq_some_iff.1 hx).1
  have e : bs[j] = x := (List.getElem?_eq_some_iff.1 hx).2
  unfold part8
  have h1 : List.replicate (8 - j) (Value.int .u8 0) = .int .u8 0 :: List.replicate (8 - (j + 1)) (.int .u8 0) := by
    rw [show 8 - j = (8 - (j + 1)) + 1 by omega, List.replicate_succ]
  rw [h1, List.setIfInBounds_toArray]
  congr 1
  have hlen : ((bs.take j).map B).length = j := by simp; omega
  rw [List.set_append, if_neg (by omega), hlen, Nat.sub_self, List.set_cons_zero, List.take_add_one, List.map_append, hx]
  simp
theorem part8_end {bs : List UInt8} (hb : 8 ≤ bs.length) : part8 bs 8 = (B8.of bs).cells := by
  match bs, hb with
  | a0 :: a1 :: a2 :: a3 :: a4 :: a5 :: a6 :: a7 :: r, _ => rfl

set_option maxRecDepth 100000 in
set_option maxHeartbeats 1000000 in
theorem block9_ok (F : Nat → Prop) (g : Nat) (bs : List UInt8) (w : World) (h : Rdr 110 w F g (some bs)) (hl : 8 ≤ bs.length) (hl2 : bs.length ≤ 1099511627776) (hF : ∀ k, F k → k < w.heap.size ∧ k ≠ g) :
    Calls Try.prog 90 #[.pointer (some ⟨g, 0, none⟩)] w (BlockPost 110 F w g (some bs)) := by
  obtain ⟨A, k, c, b, hb, hkc, hcm, rfl, hr⟩ := h
  have hgl := hb.lt
  have hk8 : 8 ≤ k := by rw [hr.1]; exact hl
  have hkl : k ≤ 1099511627776 := by rw [hr.1]; exact hl2
  obtain ⟨bb, o, rfl, hFb, hc⟩ := hr.2.2 (by omega)
  have e1 := hid (show rBlock (some bs) = (B8.of bs, some (bs.drop 8)) by simp [rBlock, hl])
  have hrow := hid (show Try.prog.underlying 75 = some (.array 8 5) by kernel_rfl)
  have hinf := hid (show (Try.prog.info? 75).map (·.size) = some 8 by kernel_rfl)
  have hcut := hr.cut (n := 8) hk8 hkc
  have hz1 : Blk ((w.alloc (.cells #[.int .u8 0, .int .u8 0, .int .u8 0, .int .u8 0, .int .u8 0, .int .u8 0, .int .u8 0, .int .u8 0] 75)).alloc (.cells #[.int .u8 0, .int .u8 0, .int .u8 0, .int .u8 0, .int .u8 0, .int .u8 0, .int .u8 0, .int .u8 0] 75)) w.heap.size 75 #[.int .u8 0, .int .u8 0, .int .u8 0, .int .u8 0, .int .u8 0, .int .u8 0, .int .u8 0, .int .u8 0] := (Blk.new w _ _).alloc _
  have hz2 : Blk ((w.alloc (.cells #[.int .u8 0, .int .u8 0, .int .u8 0, .int .u8 0, .int .u8 0, .int .u8 0, .int .u8 0, .int .u8 0] 75)).alloc (.cells #[.int .u8 0, .int .u8 0, .int .u8 0, .int .u8 0, .int .u8 0, .int .u8 0, .int .u8 0, .int .u8 0] 75)) (w.heap.size + 1) 75 (part8 bs 0) := by
    have := Blk.new (w.alloc (.cells #[.int .u8 0, .int .u8 0, .int .u8 0, .int .u8 0, .int .u8 0, .int .u8 0, .int .u8 0, .int .u8 0] 75)) 75 #[.int .u8 0, .int .u8 0, .int .u8 0, .int .u8 0, .int .u8 0, .int .u8 0, .int .u8 0, .int .u8 0]
    rw [show (w.alloc (.cells #[.int .u8 0, .int .u8 0, .int .u8 0, .int .u8 0, .int .u8 0, .int .u8 0, .int .u8 0, .int .u8 0] 75)).heap.size = w.heap.size + 1 by simp] at this
    exact this
  have hg0 : w.grownBy ((w.alloc (.cells #[.int .u8 0, .int .u8 0, .int .u8 0, .int .u8 0, .int .u8 0, .int .u8 0, .int .u8 0, .int .u8 0] 75)).alloc (.cells #[.int .u8 0, .int .u8 0, .int .u8 0, .int .u8 0, .int .u8 0, .int .u8 0, .int .u8 0, .int .u8 0] 75)) (some g) := only_alloc (only_alloc (only_refl w _) _) _
  have hbelow : Below w.heap.size w ((w.alloc (.cells #[.int .u8 0, .int .u8 0, .int .u8 0, .int .u8 0, .int .u8 0, .int .u8 0, .int .u8 0, .int .u8 0] 75)).alloc (.cells #[.int .u8 0, .int .u8 0, .int .u8 0, .int .u8 0, .int .u8 0, .int .u8 0, .int .u8 0, .int .u8 0] 75)) := ((Below.refl _ _).alloc (Nat.le_refl _) _).alloc (by simp) _
  have h0' : ((w.alloc (.cells #[.int .u8 0, .int .u8 0, .int .u8 0, .int .u8 0, .int .u8 0, .int .u8 0, .int .u8 0, .int .u8 0] 75)).alloc (.cells #[.int .u8 0, .int .u8 0, .int .u8 0, .int .u8 0, .int .u8 0, .int .u8 0, .int .u8 0, .int .u8 0] 75)).cell? ⟨g, 0, none⟩ = some (.slice (some ⟨bb, o, none⟩) k c) := by
    rw [World.cell?_alloc_lt _ _ _ (by simp; omega), World.cell?_alloc_lt _ _ _ hgl]; exact hb.cell 0
  have hc := hid hc
  go_enter Try.func90, Try.ntmps90
  go_wp2_with fail
  go_loopw [5] (fun i wr => ∃ j : Nat, i = .int .i64 (j : Int) ∧ j ≤ 8 ∧ Blk wr w.heap.size 75 #[.int .u8 0, .int .u8 0, .int .u8 0, .int .u8 0, .int .u8 0, .int .u8 0, .int .u8 0, .int .u8 0] ∧ Blk wr (w.heap.size + 1) 75 (part8 bs j) ∧ Below w.heap.size w wr) (fun i _ => 8 - (intOf i).toNat)
  case atStart => exact ⟨0, rfl, by omega, hz1, hz2, hbelow⟩
  case round =>
    obtain ⟨j, rfl, hj, hb1, hb2, hbel⟩ := hrel
    clear hz1 hz2 hg0 hbelow h0'
    have hbr := hb.below hbel hgl
    have h0 := hbr.cell 0
    have f0 := hbr.frozen 0
    by_cases hj8 : j < 8
    · obtain ⟨x, hx⟩ : ∃ x, bs[j]? = some x := ⟨bs[j], List.getElem?_eq_getElem _⟩
      have hcell : wr.cell? ⟨bb, o + j, none⟩ = some (.int .u8 (x.toNat : Int)) := by
        rw [hbel.cell (hF bb hFb).1]
        exact hc.out j _ (by rw [List.getElem?_map, hx]; rfl)
      have hcx : wr.cell? ⟨w.heap.size + 1, j, none⟩ = some ((part8 bs j)[j]'(by rw [part8_size hl hj]; exact hj8)) := by rw [hb2.cell, Array.getElem?_eq_getElem]
      have hfx := hb2.frozen j
      have hx := hid hx
      go_wp2
      refine ⟨⟨j + 1, by go_num, by omega, hb1.farSet (by omega), ?_, hbel.setCell (by simp) _⟩, by simp [intOf]; omega⟩
      have := hb2.set_ j (B x)
      rw [part8_set hj8 hx.out] at this
      exact this
    · have hj9 : j = 8 := by omega
      subst hj9
      have hgr := hid (show ∀ u, w.grownBy (wr.setCell ⟨g, 0, none⟩ u) (some g) from fun u => (only_of_below hbel (some g)).trans (only_set (only_refl _ _) 0 u))
      clear hc
      by_cases hc8 : c = 8
      · have hca := hid (show some ⟨bb, o, none⟩ = cutA (some ⟨bb, o, none⟩) c 8 1 by unfold cutA; rw [if_pos hc8])
        have hb1' := hb1.farSet (g' := g) (j := 0) (u := .slice (some ⟨bb, o, none⟩) (k - 8) 0) (by omega)
        have hb2' := hb2.farSet (g' := g) (j := 0) (u := .slice (some ⟨bb, o, none⟩) (k - 8) 0) (by omega)
        rw [part8_end hl] at hb2'
        go_wp2_with (first | (refine wpList_ldBlk rfl 75 _ rfl (w.heap.size + 1) 75 _ hb2' _ rfl hrow.out rfl hinf.out ?_) | (refine wpList_stBlk rfl 75 _ _ rfl w.heap.size 75 _ (B8.of bs).cells hb1' rfl rfl hinf.out rfl rfl ?_; intro w2 hb3 hg3))
        refine bodyPost_ret (results_ct rfl rfl hb3 hrow.out rfl hinf.out) rfl ?_
        refine ⟨by rw [e1.out]; rfl, ?_, grown_trans_new (hgr.out _) hg3 (Nat.le_refl _)⟩
        rw [e1.out]
        refine ⟨_, _, _, _, (hbr.set2_0 (.slice (some ⟨bb, o, none⟩) (k - 8) 0)).grown hg3 (by intro e; injection e; omega), by omega, by omega, rfl, ?_⟩
        have hkp : Kp F w w2 := fun i hi => (hg3.block i (by have := (hF i hi).1; have := (hgr.out (.slice (some ⟨bb, o, none⟩) (k - 8) 0)).size; omega) (by intro e; injection e; have := (hF i hi).1; omega)).trans ((hgr.out (.slice (some ⟨bb, o, none⟩) (k - 8) 0)).block i (hF i hi).1 (by intro e; injection e; exact (hF i hi).2 (by assumption)))
        have := hcut.keep hkp
        rw [← hca.out] at this
        exact this
      · have hca := hid (show some ⟨bb, o + 8, none⟩ = cutA (some ⟨bb, o, none⟩) c 8 1 by unfold cutA; rw [if_neg hc8]; simp [Addr.add])
        have hb1' := hb1.farSet (g' := g) (j := 0) (u := .slice (some ⟨bb, o + 8, none⟩) (k - 8) (c - 8)) (by omega)
        have hb2' := hb2.farSet (g' := g) (j := 0) (u := .slice (some ⟨bb, o + 8, none⟩) (k - 8) (c - 8)) (by omega)
        rw [part8_end hl] at hb2'
        go_wp2_with (first | (refine wpList_ldBlk rfl 75 _ rfl (w.heap.size + 1) 75 _ hb2' _ rfl hrow.out rfl hinf.out ?_) | (refine wpList_stBlk rfl 75 _ _ rfl w.heap.size 75 _ (B8.of bs).cells hb1' rfl rfl hinf.out rfl rfl ?_; intro w2 hb3 hg3))
        refine bodyPost_ret (results_ct rfl rfl hb3 hrow.out rfl hinf.out) rfl ?_
        refine ⟨by rw [e1.out]; rfl, ?_, grown_trans_new (hgr.out _) hg3 (Nat.le_refl _)⟩
        rw [e1.out]
        refine ⟨_, _, _, _, (hbr.set2_0 (.slice (some ⟨bb, o + 8, none⟩) (k - 8) (c - 8))).grown hg3 (by intro e; injection e; omega), by omega, by omega, rfl, ?_⟩
        have hkp : Kp F w w2 := fun i hi => (hg3.block i (by have := (hF i hi).1; have := (hgr.out (.slice (some ⟨bb, o + 8, none⟩) (k - 8) (c - 8))).size; omega) (by intro e; injection e; have := (hF i hi).1; omega)).trans ((hgr.out (.slice (some ⟨bb, o + 8, none⟩) (k - 8) (c - 8))).block i (hF i hi).1 (by intro e; injection e; exact (hF i hi).2 (by assumption)))
        have := hcut.keep hkp
        rw [← hca.out] at this
        exact this

theorem block9_any (F : Nat → Prop) (g : Nat) (st : RS) (w : World) (h : Rdr 110 w F g st) (hl : rLeft st ≤ 1099511627776) (hF : ∀ k, F k → k < w.heap.size ∧ k ≠ g) :
    Calls Try.prog 90 #[.pointer (some ⟨g, 0, none⟩)] w (BlockPost 110 F w g st) := by
  by_cases h8 : rLeft st < 8
  · exact block9_bad F g st w h h8
  · cases st with
    | none => simp [rLeft] at h8
    | some bs => exact block9_ok F g bs w h (by simp only [rLeft] at h8; omega) hl hF

end Go.Proofs.Ytbcmpfdhpefdbaa
