/- The contract of record's Decode. -/
import Derived.Test.YtbcmpfdhpefdbaaParse
import Derived.Test.YtbcmpfdhpefdbaaKM
import Derived.Test.YtbcmpfdhpefdbaaKI
import Derived.Test.YtbcmpfdhpefdbaaKH
import Derived.Test.YtbcmpfdhpefdbaaPar9
set_option linter.unusedVariables false
set_option linter.unusedSimpArgs false
namespace Go.Proofs.Ytbcmpfdhpefdbaa
open Go.RowKit
attribute [local irreducible] Go.Calls

/-- what both Decodes answer -/
def DecPost (w : World) (ss : List (List UInt8)) (e : Ending) (w' : World) : Prop :=
  ∃ (Aw : Option Addr) (nw cw : Nat) (Am : Option Addr) (nm cm : Nat) (An : Option Addr) (nn cn : Nat),
    e = .returned (.tuple #[.agg (recCells (decode ss).1 Aw nw cw Am nm cm An nn cn), .int .i64 ((decode ss).2.1 : Nat), .int .i64 (decode ss).2.2]) ∧
    RecIn w' (fun k => k < w'.heap.size ∧ w.heap.size ≤ k) (decode ss).1 Aw nw cw Am nm cm An nn cn ∧ Below w.heap.size w w'
theorem recIn_zero (w : World) (F : Nat → Prop) : RecIn w F Rec.zero none 0 0 none 0 0 none 0 0 :=
  { ok := ⟨by show 0 < _; decide, by show 0 < _; decide, fun p hp => by simp [Rec.zero] at hp, fun p hp => by simp [Rec.zero] at hp⟩
    wr := ⟨rfl, Rd.none_⟩, mv := ⟨rfl, Rd.none_⟩, nt := ⟨rfl, Rd.none_⟩
    lw := Nat.le_refl _, lm := Nat.le_refl _, ln := Nat.le_refl _, xw := Nat.zero_le _, xm := Nat.zero_le _, xn := Nat.zero_le _ }
theorem decPost_err {w w' : World} {ss : List (List UInt8)} {c : Int} (h : decode ss = (Rec.zero, 0, c)) (hb : Below w.heap.size w w') :
    DecPost w ss (.returned (.tuple #[.agg #[.int .u64 0, .int .u64 0, .slice none 0 0, .slice none 0 0, .slice none 0 0], .int .i64 0, .int .i64 c])) w' :=
  ⟨none, 0, 0, none, 0, 0, none, 0, 0, by rw [h]; rfl, by rw [h]; exact recIn_zero _ _, hb⟩

def zHd : Array Value := #[.int .u64 0, .int .u64 0, .int .i64 0, .int .i64 0]
def hdCells (x : Ins) : Array Value := #[.int .u64 (x.gen : Int), .int .u64 (x.seq : Int), .int .i64 0, .int .i64 (x.parts : Int)]
/-- at the loop's head -/
structure DIn (TH : TypeId) (ss : List (List UInt8)) (w0 : World) (j pr : Nat) (v : Value) (w : World) : Prop where
  (res : Blk w w0.heap.size 27 #[.int .u64 0, .int .u64 0, .slice none 0 0, .slice none 0 0, .slice none 0 0])
  (own : OwnB (w0.heap.size + 2) w v (decAll ss j)) (bel : Below w0.heap.size w0 w) (ok : ∀ i, i < j → decErr ss i = none)
  (hd : (j = 0 ∧ pr = 1 ∧ Blk w (w0.heap.size + 1) TH zHd) ∨ (0 < j ∧ pr = (decHd ss).parts ∧ Blk w (w0.heap.size + 1) TH (hdCells (decHd ss))))
section
variable {TH : TypeId} {ss : List (List UInt8)} {w0 w w' : World} {j pr : Nat} {v : Value}
theorem DIn.sz (h : DIn TH ss w0 j pr v w) : w0.heap.size + 1 < w.heap.size := by
  rcases h.hd with h1 | h1
  · exact h1.2.2.lt
  · exact h1.2.2.lt
theorem DIn.below (h : DIn TH ss w0 j pr v w) (hb : Below w.heap.size w w') : DIn TH ss w0 j pr v w' :=
  { h with
    res := h.res.below hb h.res.lt
    own := h.own.grown (row := none) ⟨hb.os, hb.tape, hb.output, hb.size, fun k hk _ => hb.block k hk⟩ (by
      cases hv : v.ownBlock with
      | none => exact .inl rfl
      | some k => exact .inr (by simp))
    bel := h.bel.trans (hb.mono h.bel.size)
    hd := by
      rcases h.hd with ⟨h1, h2, h3⟩ | ⟨h1, h2, h3⟩
      · exact .inl ⟨h1, h2, h3.below hb h3.lt⟩
      · exact .inr ⟨h1, h2, h3.below hb h3.lt⟩ }
theorem DIn.parts (h : DIn TH ss w0 j pr v w) : pr = decParts ss ∨ (j = 0 ∧ pr = 1) := by
  rcases h.hd with ⟨h1, h2, _⟩ | ⟨h1, h2, _⟩
  · exact .inr ⟨h1, h2⟩
  · left
    rw [h2, decParts, if_pos (h.ok 0 h1)]
theorem DIn.le (h : DIn TH ss w0 j pr v w) : pr ≤ 4096 := by
  rcases h.parts with h1 | h1
  · rw [h1]; exact (@decParts_le ss).1
  · omega
theorem DIn.lt_parts (h : DIn TH ss w0 j pr v w) (hj : j < pr) : j < decParts ss := by
  rcases h.parts with h1 | h1
  · omega
  · have := (@decParts_le ss).2; omega
theorem DIn.next {s : List UInt8} {v' : Value} (res : Blk w w0.heap.size 27 #[.int .u64 0, .int .u64 0, .slice none 0 0, .slice none 0 0, .slice none 0 0])
    (own : OwnB (w0.heap.size + 2) w v (decAll ss j)) (bel : Below w0.heap.size w0 w) (ok : ∀ i, i < j → decErr ss i = none) (hb : Blk w (w0.heap.size + 1) TH (hdCells (decHd ss))) (hs : ss[j]? = some s) (he : decErr ss j = none)
    (hown : OwnB (w0.heap.size + 2) w' v' (decAll ss j ++ (insp s).chunk)) (hg : w.grownBy w' v.ownBlock) : DIn TH ss w0 (j + 1) (decHd ss).parts v' w' :=
  have hv : ∀ k, v.ownBlock = some k → w0.heap.size + 2 ≤ k := fun k hk => (own.lt k hk).1
  { res := res.grown hg (fun e => by have := hv _ e.symm; omega)
    own := by rw [decAll_succ hs]; exact hown
    bel := bel.grown hg bel.size (fun k hk => by have := hv k hk; omega)
    ok := fun i hi => by
      rcases Nat.lt_succ_iff_lt_or_eq.1 hi with h | h
      · exact ok i h
      · rw [h]; exact he
    hd := .inr ⟨by omega, rfl, hb.grown hg (fun e => by have := hv _ e.symm; omega)⟩ }
theorem sec_len {r : Rec} (ho : r.Ok) (hv : r.vld = true) : ∀ s ∈ encP r, s.length ≤ 100 := by
  intro s hs
  have hl := payl_len ho (Rec.V.of hv)
  rw [encP, hv, if_pos rfl, sectors, secTo, List.mem_map] at hs
  obtain ⟨i, hi, rfl⟩ := hs
  have hi := List.mem_range.1 hi
  have h1 := enc_len10 ho.gen
  have h2 := enc_len10 ho.seq
  have h3 := enc_len10 (n := i) (by unfold nChunks at hi; omega)
  have h4 := enc_len10 (n := nChunks (payl r).length) (by unfold nChunks; omega)
  have h5 := (chunkAt_bd hi).2
  have h6 := enc_len10 (n := (chunkAt (payl r) i).length) (by omega)
  simp only [secAt, sectorB, sectorH, sealB_len, List.length_append, List.length_cons]
  omega
theorem encP_small {r : Rec} (ho : r.Ok) : (encP r).length ≤ 1000 ∧ ∀ s ∈ encP r, s.length ≤ 100 := by
  cases hv : r.vld with
  | false => rw [encP, hv]; simp
  | true =>
    refine ⟨?_, sec_len ho hv⟩
    have hl := payl_len ho (Rec.V.of hv)
    rw [encP, hv, if_pos rfl, sectors_len]
    unfold nChunks
    omega
theorem DIn.len (h : DIn TH ss w0 j pr v w) : (decAll ss j).length ≤ 28 * j := decAll_len j h.ok
end

set_option maxRecDepth 100000 in
set_option maxHeartbeats 1000000 in
theorem decode_any (F : Nat → Prop) (A : Option Addr) (n c : Nat) (ss : List (List UInt8)) (w : World) (h : RdS w F A n ss) (hnc : n ≤ c) (hcm : c ≤ maxLen) (hls : ∀ s ∈ ss, s.length ≤ 1000000) (hll : ss.length ≤ 1000000) (hF : ∀ k, F k → k < w.heap.size) :
    Calls Try.prog 27 #[.slice A n c] w (DecPost w ss) := by
  have hn := h.1
  have hres := Blk.new w 27 #[.int .u64 0, .int .u64 0, .slice none 0 0, .slice none 0 0, .slice none 0 0]
  have hD0 : DIn 36 ss w 0 1 (.slice none 0 0) ((w.alloc (.cells #[.int .u64 0, .int .u64 0, .slice none 0 0, .slice none 0 0, .slice none 0 0] 27)).alloc (.cells zHd 36)) :=
    { res := hres.alloc _
      own := OwnB.nil_
      bel := ((Below.refl _ _).alloc (Nat.le_refl _) _).alloc (by simp) _
      ok := fun i hi => by omega
      hd := .inl ⟨rfl, rfl, by have := Blk.new (w.alloc (.cells #[.int .u64 0, .int .u64 0, .slice none 0 0, .slice none 0 0, .slice none 0 0] 27)) 36 zHd; simpa using this⟩ }
  clear hres
  unfold zHd at hD0
  have hn' := hid hn
  clear hn
  go_enter Try.func27, Try.ntmps27
  go_wp2_with fail
  go_loopw [5, 6, 8] (fun v pt i wr => ∃ (j pr : Nat), pt = .int .i64 (pr : Int) ∧ i = .int .i64 (j : Int) ∧ j ≤ pr ∧ DIn 36 ss w j pr v wr) (fun _ _ i _ => 5000 - (intOf i).toNat)
  case atStart => exact ⟨0, 1, rfl, rfl, by omega, hD0⟩
  case round =>
    clear hD0
    obtain ⟨j, pr, rfl, rfl, hjp, hD⟩ := hrel
    have hpr := hD.le
    have hbx := hid hD.res
    by_cases hj : j < pr
    · by_cases hjn : j < n
      · obtain ⟨s, hs⟩ : ∃ s, ss[j]? = some s := ⟨ss[j]'(by rw [← hn'.out]; exact hjn), List.getElem?_eq_getElem _⟩
        obtain ⟨b, o, A1, c1, rfl, hFb, hc1, hlc1, hlm1, hr1⟩ := (h.keep (Kp.of_below hD.bel hF)).at_ hs
        have hsl := hls s (List.mem_of_getElem? hs)
        have hs' := hid hs
        clear hs
        go_wp2_with fail
        refine (insp_any F A1 s.length c1 s _ hr1 hlc1 hlm1 hsl (fun k hk => by have := hF k hk; have := hD.bel.size; omega)).mono ?_
        rintro e w1 ⟨A2, n2, c2, rfl, hnc2, hcm2, hrd2, hbel2⟩
        have hD1 := hD.below hbel2
        obtain ⟨x, hx⟩ : ∃ x, x = insp s := ⟨_, rfl⟩
        rw [← hx] at hrd2 ⊢
        have hx' := hid hx
        clear hx
        obtain ⟨xg, xs, xp, xq, xch, xc⟩ := x
        simp only [Ins.cells]
        have hZ := Blk.new w1 36 zHd
        unfold zHd at hZ
        by_cases hc0 : xc = 0
        · subst hc0
          go_wp2_with (refine wpList_stBlk rfl 36 _ _ rfl w1.heap.size 36 _ #[.int .u64 (xg : Int), .int .u64 (xs : Int), .int .i64 (xp : Int), .int .i64 (xq : Int)] hZ rfl rfl info_head rfl rfl ?_; intro w3 hb3 hg3; refine mk_stop ?_)
          have hbl3 : Below w1.heap.size w1 w3 := below_of_only ((World.grownBy_alloc w1 _ _).trans hg3) (Nat.le_refl _) (Nat.le_refl _)
          have hD3 := hD1.below hbl3
          have hrd3 := (hrd2.keep (Kp.of_below hbl3 (fun k hk => hk.1))).more (G := fun k => k < w3.heap.size ∧ k ≠ w.heap.size + 1) (fun k hk => by have := hbl3.size; have := hD.sz; refine ⟨by omega, ?_⟩; rcases hk.2 with h1 | h1; (have := hF k h1; omega); omega)
          have hz3 := hb3.lt
          have hz1 := hD1.sz
          clear hD1 hg3 hZ hrd2 hc1 hr1
          by_cases hj0 : j = 0
          · subst hj0
            have hpr1 : pr = 1 := by
              rcases hD.hd with ⟨_, h2, _⟩ | ⟨h1, _⟩
              · exact h2
              · omega
            subst hpr1
            have hhb : Blk w3 (w.heap.size + 1) 36 zHd := by
              rcases hD3.hd with ⟨_, _, h3⟩ | ⟨h1, _⟩
              · exact h3
              · omega
            have e0 : w3.cell? ⟨w.heap.size + 1, 0, none⟩ = some (.int .u64 0) := hhb.cell 0
            have e1 : w3.cell? ⟨w.heap.size + 1, 1, none⟩ = some (.int .u64 0) := hhb.cell 1
            have e2 : w3.cell? ⟨w.heap.size + 1, 2, none⟩ = some (.int .i64 0) := hhb.cell 2
            have e3 : w3.cell? ⟨w.heap.size + 1, 3, none⟩ = some (.int .i64 0) := hhb.cell 3
            have ef := fun i => hhb.frozen i
            have hne : ¬ w1.heap.size = w.heap.size + 1 := by omega
            have hne2 : ¬ w.heap.size + 1 = w1.heap.size := by omega
            have q0 := fun (w' : World) (hh : Blk w' w1.heap.size 36 #[.int .u64 (xg : Int), .int .u64 (xs : Int), .int .i64 (xp : Int), .int .i64 (xq : Int)]) => (show w'.cell? ⟨w1.heap.size, 0, none⟩ = some (.int .u64 (xg : Int)) from hh.cell 0)
            have q1 := fun (w' : World) (hh : Blk w' w1.heap.size 36 #[.int .u64 (xg : Int), .int .u64 (xs : Int), .int .i64 (xp : Int), .int .i64 (xq : Int)]) => (show w'.cell? ⟨w1.heap.size, 1, none⟩ = some (.int .u64 (xs : Int)) from hh.cell 1)
            have q2 := fun (w' : World) (hh : Blk w' w1.heap.size 36 #[.int .u64 (xg : Int), .int .u64 (xs : Int), .int .i64 (xp : Int), .int .i64 (xq : Int)]) => (show w'.cell? ⟨w1.heap.size, 2, none⟩ = some (.int .i64 (xp : Int)) from hh.cell 2)
            have q3 := fun (w' : World) (hh : Blk w' w1.heap.size 36 #[.int .u64 (xg : Int), .int .u64 (xs : Int), .int .i64 (xp : Int), .int .i64 (xq : Int)]) => (show w'.cell? ⟨w1.heap.size, 3, none⟩ = some (.int .i64 (xq : Int)) from hh.cell 3)
            unfold Mk
            go_wp2_with fail
            first | (go_region_held3 (fun w' => Blk w' w1.heap.size 36 #[.int .u64 (xg : Int), .int .u64 (xs : Int), .int .i64 (xp : Int), .int .i64 (xq : Int)]) (first | exact hb3.drew | exact ((((hb3.drew.far hne _).far hne _).far hne _).far hne _) | exact ((((hb3.far hne _).far hne _).far hne _).far hne _).drew) (fail)) | fail
            have hg4 : w3.grownBy ((((w3.setCell ⟨w.heap.size + 1, 0, none⟩ (.int .u64 (xg : Int))).setCell ⟨w.heap.size + 1, 1, none⟩ (.int .u64 (xs : Int))).setCell ⟨w.heap.size + 1, 2, none⟩ (.int .i64 (xp : Int))).setCell ⟨w.heap.size + 1, 3, none⟩ (.int .i64 (xq : Int))).drew (some (w.heap.size + 1)) := only_drew (only_set (only_set (only_set (only_set (only_refl _ _) 0 _) 1 _) 2 _) 3 _)
            have hh4 : Blk ((((w3.setCell ⟨w.heap.size + 1, 0, none⟩ (.int .u64 (xg : Int))).setCell ⟨w.heap.size + 1, 1, none⟩ (.int .u64 (xs : Int))).setCell ⟨w.heap.size + 1, 2, none⟩ (.int .i64 (xp : Int))).setCell ⟨w.heap.size + 1, 3, none⟩ (.int .i64 (xq : Int))).drew (w.heap.size + 1) 36 #[.int .u64 (xg : Int), .int .u64 (xs : Int), .int .i64 (xp : Int), .int .i64 (xq : Int)] := ((((hhb.set_ 0 _).set_ 1 _).set_ 2 _).set_ 3 _).drew
            obtain ⟨w4, hw4⟩ : ∃ w4, w4 = ((((w3.setCell ⟨w.heap.size + 1, 0, none⟩ (.int .u64 (xg : Int))).setCell ⟨w.heap.size + 1, 1, none⟩ (.int .u64 (xs : Int))).setCell ⟨w.heap.size + 1, 2, none⟩ (.int .i64 (xp : Int))).setCell ⟨w.heap.size + 1, 3, none⟩ (.int .i64 (xq : Int))).drew := ⟨_, rfl⟩
            rw [← hw4] at hg4 hh4
            rw [← hw4]
            clear hw4 e0 e1 e2 e3 ef q0 q1 q2 q3
            have hb4 := hb3.grown hg4 (by intro e; injection e; omega)
            have hg5 : w3.grownBy (w4.setCell ⟨w.heap.size + 1, 2, none⟩ (.int .i64 0)) (some (w.heap.size + 1)) := only_set hg4 2 _
            have hh5 : Blk (w4.setCell ⟨w.heap.size + 1, 2, none⟩ (.int .i64 0)) (w.heap.size + 1) 36 #[.int .u64 (xg : Int), .int .u64 (xs : Int), .int .i64 0, .int .i64 (xq : Int)] := hh4.set_ 2 _
            have hres5 := hid (hD3.res.grown hg5 (by intro e; injection e; omega))
            have hbel5 := hD3.bel.grown hg5 hD3.bel.size (by intro k hk; injection hk with hk; omega)
            have hown5 := hD3.own.grown hg5 (.inr (fun e => by have := (hD3.own.lt _ e).1; omega))
            have z0 : w4.cell? ⟨w1.heap.size, 0, none⟩ = some (.int .u64 (xg : Int)) := hb4.cell 0
            have z1 : w4.cell? ⟨w1.heap.size, 1, none⟩ = some (.int .u64 (xs : Int)) := hb4.cell 1
            have z2 : w4.cell? ⟨w1.heap.size, 2, none⟩ = some (.int .i64 (xp : Int)) := hb4.cell 2
            have z3 : w4.cell? ⟨w1.heap.size, 3, none⟩ = some (.int .i64 (xq : Int)) := hb4.cell 3
            have e0 : w4.cell? ⟨w.heap.size + 1, 0, none⟩ = some (.int .u64 (xg : Int)) := hh4.cell 0
            have e1 : w4.cell? ⟨w.heap.size + 1, 1, none⟩ = some (.int .u64 (xs : Int)) := hh4.cell 1
            have e2 : w4.cell? ⟨w.heap.size + 1, 2, none⟩ = some (.int .i64 (xp : Int)) := hh4.cell 2
            have e3 : w4.cell? ⟨w.heap.size + 1, 3, none⟩ = some (.int .i64 (xq : Int)) := hh4.cell 3
            have ef := fun i => hh4.frozen i
            by_cases hxp : xp = 0
            · subst hxp
              go_wp2_with (at_builtin; refine mk_stop ?_)
              obtain ⟨Av, cv, hvv, hcv, hmv⟩ := hD3.own.form
              have hck := hid (insp_ok (b := s) (by rw [← hx'.out]))
              rw [← hx'.out] at hck
              have hl0 := hid hD3.len
              refine wpList_apB rfl _ _ rfl (w.heap.size + 2) _ _ rfl hown5 (fun k => k < w3.heap.size ∧ k ≠ w.heap.size + 1) A2 n2 c2 xch rfl (hrd3.keep (fun k hk => hg5.block k hk.1 (by intro e; injection e with e; exact hk.2 e))) (by have h9 : xch.length ≤ 28 := hck.out.2.2.2.2.2.2; have := hl0.out; omega) (by have := hg5.size; omega) ?_
              intro v8 w8 hown8 hg8 hat8
              go_wp2
              go_roundw
              case rel =>
                have hdec : decHd ss = ⟨xg, xs, 0, xq, xch, 0⟩ := by rw [decHd, hs'.out, Option.getD_some, ← hx'.out]
                have hnx := DIn.next hres5.out hown5 hbel5 (fun i hi => by omega) (by rw [hdec]; exact hh5) hs'.out (decErr_fit hs'.out (by rw [← hx'.out]) (by rw [← hx'.out, hdec]; exact ⟨rfl, rfl, rfl, rfl⟩)) (by rw [← hx'.out]; exact hown8) hg8
                rw [hdec] at hnx
                have := hck.out.2.2.2.1
                exact ⟨1, xq, rfl, by go_num, by simp only at this; omega, hnx⟩
              case measure => simp [intOf]
            · have hxp2 : ¬ (xp : Int) = 0 := by omega
              go_wp2_with ((with_reducible refine at_wl ?_); (refine wpList_stBlk rfl 27 _ _ rfl w.heap.size 27 _ #[.int .u64 0, .int .u64 0, .slice none 0 0, .slice none 0 0, .slice none 0 0] hres5.out rfl rfl info_rec rfl rfl ?_; intro w10 hb10 hg10))
              refine bodyPost_ret (results_ctt (cs := #[.int .u64 0, .int .u64 0, .slice none 0 0, .slice none 0 0, .slice none 0 0]) rfl rfl hb10 Try.underlying27 rfl info_rec) rfl ?_
              refine decPost_err ?_ (hbel5.grown hg10 hbel5.size (by intro k hk; injection hk with hk; omega))
              exact decode_err0 (decErr_diff hs'.out (by rw [← hx'.out]) (by rw [← hx'.out]; intro hh; exact hxp hh.2.2.1))
          · have hhb : Blk w3 (w.heap.size + 1) 36 (hdCells (decHd ss)) := by
              rcases hD3.hd with ⟨h1, _⟩ | ⟨_, _, h3⟩
              · exact absurd h1 hj0
              · exact h3
            have hprd : pr = (decHd ss).parts := by
              rcases hD.hd with ⟨h1, _⟩ | ⟨_, h2, _⟩
              · exact absurd h1 hj0
              · exact h2
            obtain ⟨y, hy⟩ : ∃ y, y = decHd ss := ⟨_, rfl⟩
            rw [← hy] at hhb hprd
            have hy' := hid hy
            clear hy
            obtain ⟨yg, ys, yp, yq, ych, yc⟩ := y
            simp only at hprd
            subst hprd
            have hlp := hD.lt_parts hj
            have hj02 : ¬ (j : Int) = 0 := by omega
            have z0 : w3.cell? ⟨w1.heap.size, 0, none⟩ = some (.int .u64 (xg : Int)) := hb3.cell 0
            have z1 : w3.cell? ⟨w1.heap.size, 1, none⟩ = some (.int .u64 (xs : Int)) := hb3.cell 1
            have z2 : w3.cell? ⟨w1.heap.size, 2, none⟩ = some (.int .i64 (xp : Int)) := hb3.cell 2
            have z3 : w3.cell? ⟨w1.heap.size, 3, none⟩ = some (.int .i64 (xq : Int)) := hb3.cell 3
            have e0 : w3.cell? ⟨w.heap.size + 1, 0, none⟩ = some (.int .u64 (yg : Int)) := hhb.cell 0
            have e1 : w3.cell? ⟨w.heap.size + 1, 1, none⟩ = some (.int .u64 (ys : Int)) := hhb.cell 1
            have e3 : w3.cell? ⟨w.heap.size + 1, 3, none⟩ = some (.int .i64 (pr : Int)) := hhb.cell 3
            have hres3 := hid hD3.res
            by_cases hall : xg = yg ∧ xs = ys ∧ xp = j ∧ xq = pr
            · obtain ⟨rfl, rfl, rfl, rfl⟩ := hall
              unfold Mk
              go_wp2_with (at_builtin; refine mk_stop ?_)
              have hck := hid (insp_ok (b := s) (by rw [← hx'.out]))
              rw [← hx'.out] at hck
              have hl0 := hid hD3.len
              refine wpList_apB rfl _ _ rfl (w.heap.size + 2) _ _ rfl hD3.own (fun k => k < w3.heap.size ∧ k ≠ w.heap.size + 1) A2 n2 c2 xch rfl hrd3 (by have h9 : xch.length ≤ 28 := hck.out.2.2.2.2.2.2; have := hl0.out; omega) (by omega) ?_
              intro v8 w8 hown8 hg8 hat8
              go_wp2
              go_roundw
              case rel =>
                have hnx := DIn.next hD3.res hD3.own hD3.bel hD3.ok (by rw [← hy'.out]; exact hhb) hs'.out (decErr_fit hs'.out (by rw [← hx'.out]) (by rw [← hx'.out, ← hy'.out]; exact ⟨rfl, rfl, rfl, rfl⟩)) (by rw [← hx'.out]; exact hown8) hg8
                rw [← hy'.out] at hnx
                exact ⟨_, _, rfl, by go_num, by omega, hnx⟩
              case measure => simp [intOf]; omega
            · have hbad := hid (decErr_diff hs'.out (by rw [← hx'.out]) (by rw [← hx'.out, ← hy'.out]; exact hall))
              by_cases k0 : xg = yg
              · by_cases k1 : xs = ys
                · by_cases k2 : xp = j
                  · have k3 : ¬ xq = pr := fun e => hall ⟨k0, k1, k2, e⟩
                    subst k0 k1 k2
                    clear hall
                    unfold Mk
                    go_wp2_with ((with_reducible refine at_wl ?_); (refine wpList_stBlk rfl 27 _ _ rfl w.heap.size 27 _ #[.int .u64 0, .int .u64 0, .slice none 0 0, .slice none 0 0, .slice none 0 0] hres3.out rfl rfl info_rec rfl rfl ?_; intro w10 hb10 hg10))
                    refine bodyPost_ret (results_ctt (cs := #[.int .u64 0, .int .u64 0, .slice none 0 0, .slice none 0 0, .slice none 0 0]) rfl rfl hb10 Try.underlying27 rfl info_rec) rfl ?_
                    exact decPost_err (decode_err hlp hD3.ok hbad.out) (hD3.bel.grown hg10 hD3.bel.size (by intro k hk; injection hk with hk; omega))
                  · subst k0 k1
                    clear hall
                    unfold Mk
                    go_wp2_with ((with_reducible refine at_wl ?_); (refine wpList_stBlk rfl 27 _ _ rfl w.heap.size 27 _ #[.int .u64 0, .int .u64 0, .slice none 0 0, .slice none 0 0, .slice none 0 0] hres3.out rfl rfl info_rec rfl rfl ?_; intro w10 hb10 hg10))
                    refine bodyPost_ret (results_ctt (cs := #[.int .u64 0, .int .u64 0, .slice none 0 0, .slice none 0 0, .slice none 0 0]) rfl rfl hb10 Try.underlying27 rfl info_rec) rfl ?_
                    exact decPost_err (decode_err hlp hD3.ok hbad.out) (hD3.bel.grown hg10 hD3.bel.size (by intro k hk; injection hk with hk; omega))
                · subst k0
                  clear hall
                  unfold Mk
                  go_wp2_with ((with_reducible refine at_wl ?_); (refine wpList_stBlk rfl 27 _ _ rfl w.heap.size 27 _ #[.int .u64 0, .int .u64 0, .slice none 0 0, .slice none 0 0, .slice none 0 0] hres3.out rfl rfl info_rec rfl rfl ?_; intro w10 hb10 hg10))
                  refine bodyPost_ret (results_ctt (cs := #[.int .u64 0, .int .u64 0, .slice none 0 0, .slice none 0 0, .slice none 0 0]) rfl rfl hb10 Try.underlying27 rfl info_rec) rfl ?_
                  exact decPost_err (decode_err hlp hD3.ok hbad.out) (hD3.bel.grown hg10 hD3.bel.size (by intro k hk; injection hk with hk; omega))
              · clear hall
                unfold Mk
                go_wp2_with ((with_reducible refine at_wl ?_); (refine wpList_stBlk rfl 27 _ _ rfl w.heap.size 27 _ #[.int .u64 0, .int .u64 0, .slice none 0 0, .slice none 0 0, .slice none 0 0] hres3.out rfl rfl info_rec rfl rfl ?_; intro w10 hb10 hg10))
                refine bodyPost_ret (results_ctt (cs := #[.int .u64 0, .int .u64 0, .slice none 0 0, .slice none 0 0, .slice none 0 0]) rfl rfl hb10 Try.underlying27 rfl info_rec) rfl ?_
                exact decPost_err (decode_err hlp hD3.ok hbad.out) (hD3.bel.grown hg10 hD3.bel.size (by intro k hk; injection hk with hk; omega))
        · go_wp2_with (refine wpList_stBlk rfl 36 _ _ rfl w1.heap.size 36 _ #[.int .u64 (xg : Int), .int .u64 (xs : Int), .int .i64 (xp : Int), .int .i64 (xq : Int)] hZ rfl rfl info_head rfl rfl ?_; intro w3 hb3 hg3; refine mk_stop ?_)
          have hbl3 : Below w1.heap.size w1 w3 := below_of_only ((World.grownBy_alloc w1 _ _).trans hg3) (Nat.le_refl _) (Nat.le_refl _)
          have hD3 := hD1.below hbl3
          have hres3 := hid hD3.res
          have hlp := hD.lt_parts hj
          unfold Mk
          go_wp2_with ((with_reducible refine at_wl ?_); (refine wpList_stBlk rfl 27 _ _ rfl w.heap.size 27 _ #[.int .u64 0, .int .u64 0, .slice none 0 0, .slice none 0 0, .slice none 0 0] hres3.out rfl rfl info_rec rfl rfl ?_; intro w10 hb10 hg10))
          refine bodyPost_ret (results_ctt (cs := #[.int .u64 0, .int .u64 0, .slice none 0 0, .slice none 0 0, .slice none 0 0]) rfl rfl hb10 Try.underlying27 rfl info_rec) rfl ?_
          have hcc : (insp s).code = xc := by rw [← hx'.out]
          exact decPost_err (decode_err hlp hD3.ok (by rw [← hcc]; exact decErr_code hs'.out (by rw [hcc]; exact hc0))) (hD3.bel.grown hg10 hD3.bel.size (by intro k hk; injection hk with hk; omega))
      · have hlp := hD.lt_parts hj
        have hjn2 : n ≤ j := by omega
        have hjn3 : (n : Int) ≤ (j : Int) := by omega
        go_wp2_with ((with_reducible refine at_wl ?_); (refine wpList_stBlk rfl 27 _ _ rfl w.heap.size 27 _ #[.int .u64 0, .int .u64 0, .slice none 0 0, .slice none 0 0, .slice none 0 0] hbx.out rfl rfl info_rec rfl rfl ?_; intro w10 hb10 hg10))
        refine bodyPost_ret (results_ctt (cs := #[.int .u64 0, .int .u64 0, .slice none 0 0, .slice none 0 0, .slice none 0 0]) rfl rfl hb10 Try.underlying27 rfl info_rec) rfl ?_
        exact decPost_err (decode_err hlp hD.ok (decErr_absent (by rw [← hn'.out]; exact hjn2))) (hD.bel.grown hg10 hD.bel.size (by intro k hk; injection hk with hk; omega))
    · have hjpr : j = pr := by omega
      subst hjpr
      have hpd : j = decParts ss := by
        rcases hD.parts with h1 | ⟨h1, h2⟩
        · exact h1
        · omega
      have hall := decode_all (ss := ss) (fun i hi => hD.ok i (by omega))
      have hpl := decParts_len (ss := ss) (fun i hi => hD.ok i (by omega))
      rw [← hpd] at hall hpl
      have hjn : j ≤ n := by rw [hn'.out]; exact hpl
      have hlen := hD.len
      obtain ⟨Av, cv, rfl, hcv, hmv⟩ := hD.own.form
      have hall' := hid hall
      have hpd' := hid hpd
      clear hall hpd hpl
      obtain ⟨bs, hbs⟩ : ∃ bs, bs = decAll ss j := ⟨_, rfl⟩
      rw [← hbs] at hall' hlen hcv
      have hrdv := hD.own.rd
      rw [← hbs] at hrdv ⊢
      have hbs' := hid hbs
      clear hbs
      have hwz := hD.sz
      go_wp2_with fail
      refine (parse_any (fun k => k < wr.heap.size ∧ w.heap.size + 2 ≤ k) Av bs.length cv bs _ hrdv hcv (by omega) (fun k hk => hk.1)).mono ?_
      rintro e w1 ⟨gn, sq, Aw, nw, cw, Am, nm, cm, An, nn, cn, rfl, hrec, hbel1⟩
      have hD1 := hD.below hbel1
      have hZ := Blk.new w1 27 #[.int .u64 0, .int .u64 0, .slice none 0 0, .slice none 0 0, .slice none 0 0]
      go_wp2_with (refine wpList_stBlk rfl 27 _ _ rfl w1.heap.size 27 _ #[.int .u64 (gn : Int), .int .u64 (sq : Int), .slice Aw nw cw, .slice Am nm cm, .slice An nn cn] hZ rfl rfl info_rec rfl rfl ?_; intro w3 hb3 hg3; refine mk_stop ?_)
      have hbl3 : Below w1.heap.size w1 w3 := below_of_only ((World.grownBy_alloc w1 _ _).trans hg3) (Nat.le_refl _) (Nat.le_refl _)
      have hD3 := hD1.below hbl3
      have hres3 := hid hD3.res
      have hz1 := hD1.sz
      have hz3 := hb3.lt
      have hz13 := hbl3.size
      have hwr1 := hbel1.size
      cases hpo : parseOk bs with
      | false =>
        have hbad : decode ss = (Rec.zero, 0, 5) := by rw [hall'.out, hpo, if_neg (by rintro ⟨h, _⟩; cases h)]
        have hbad' := hid hbad
        clear hbad
        unfold Mk
        go_wp2_with ((with_reducible refine at_wl ?_); (refine wpList_stBlk rfl 27 _ _ rfl w.heap.size 27 _ #[.int .u64 0, .int .u64 0, .slice none 0 0, .slice none 0 0, .slice none 0 0] hres3.out rfl rfl info_rec rfl rfl ?_; intro w10 hb10 hg10))
        refine bodyPost_ret (results_ctt (cs := #[.int .u64 0, .int .u64 0, .slice none 0 0, .slice none 0 0, .slice none 0 0]) rfl rfl hb10 Try.underlying27 rfl info_rec) rfl ?_
        exact decPost_err hbad'.out (hD3.bel.grown hg10 hD3.bel.size (by intro k hk; injection hk with hk; omega))
      | true =>
        obtain ⟨rfl, rfl, hrec1⟩ := hrec hpo
        have hrec3 := (hrec1.keep (Kp.of_below hbl3 (fun k hk => hk.1)))
        have hok := hrec1.ok
        obtain ⟨r, hr⟩ : ∃ r, r = parseR bs := ⟨_, rfl⟩
        rw [← hr] at hrec3 hok hall' hb3 ⊢
        have hr' := hid hr
        clear hr hrec hrec1
        have hb3' := hid hb3
        have hpo' := hid hpo
        clear hpo
        unfold Mk
        go_wp2_with ((with_reducible refine at_wl ?_); (refine wpList_ldBlk rfl 27 _ rfl w1.heap.size 27 (recCells r Aw nw cw Am nm cm An nn cn) hb3'.out _ rfl Try.underlying27 rfl info_rec ?_))
        refine (encode_any (fun k => k < w1.heap.size ∧ wr.heap.size ≤ k) r Aw nw cw Am nm cm An nn cn _ hrec3 (fun k hk => by omega)).mono ?_
        rintro e w4 ⟨ve, rfl, hown4, hbel4⟩
        obtain ⟨Ae, ce, rfl, hce, hme⟩ := hown4.form
        have hD4 := hD3.below hbel4
        have hz4 := hbel4.size
        obtain ⟨hes, hess⟩ := encP_small hok
        have hjc : (j : Int) ≤ (c : Int) := by omega
        have hjc2 : j ≤ c := by omega
        have hrd4 := (h.keep (Kp.of_below hD4.bel hF)).take_ (n := j) hjn
        have hlt4 : (ss.take j).length = j := by rw [← hrd4.1]
        go_wp2_with fail
        refine (equalFunc_any _ F Ae A (encP r).length ce j c (encP r) (ss.take j) _ hown4.rd hrd4 hce hjc2 (by omega) (by omega) (fun s hs => by have := hess s hs; omega) (fun s hs => by have := hls s (List.mem_of_mem_take hs); omega) (fun k hk => hk.1) (fun k hk => by have := hF k hk; have := hD4.bel.size; omega)).mono ?_
        rintro e w5 ⟨rfl, hbel5⟩
        have hD5 := hD4.below hbel5
        have hres5 := hid hD5.res
        have hz5 := hbel5.size
        by_cases heq : encP r = ss.take j
        · have hgood : decode ss = (r, j, 0) := by rw [hall'.out, if_pos ⟨hpo'.out, heq⟩]
          have hgood' := hid hgood
          clear hgood
          have hdt : decide (encP r = ss.take j) = true := by simp [heq]
          rw [hdt]
          clear hdt
          have hb5 := hid ((hb3'.out.below hbel4 hz3).below hbel5 (by omega))
          clear heq
          go_wp2_with (first | ((with_reducible refine at_wl ?_); (refine wpList_ldBlk rfl 27 _ rfl w1.heap.size 27 (recCells r Aw nw cw Am nm cm An nn cn) hb5.out _ rfl Try.underlying27 rfl info_rec ?_)) | ((with_reducible refine at_wl ?_); (refine wpList_stBlk rfl 27 _ _ rfl w.heap.size 27 _ (recCells r Aw nw cw Am nm cm An nn cn) hres5.out rfl rfl info_rec rfl rfl ?_; intro w10 hb10 hg10)))
          refine bodyPost_ret (results_ctt (cs := recCells r Aw nw cw Am nm cm An nn cn) rfl rfl hb10 Try.underlying27 rfl info_rec) rfl ?_
          refine ⟨Aw, nw, cw, Am, nm, cm, An, nn, cn, by rw [hgood'.out]; rfl, ?_, hD5.bel.grown hg10 hD5.bel.size (by intro k hk; injection hk with hk; omega)⟩
          rw [hgood'.out]
          have hz10 := hg10.size
          have hwr := hD.bel.size
          exact (((hrec3.keep (Kp.of_below hbel4 (fun k hk => by omega))).keep (Kp.of_below hbel5 (fun k hk => by omega))).keep (fun k hk => hg10.block k (by omega) (by intro e; injection e; omega))).more' (fun k hk => by omega)
        · have hbad : decode ss = (Rec.zero, 0, 5) := by rw [hall'.out, if_neg (by rintro ⟨_, h⟩; exact heq h)]
          have hbad' := hid hbad
          clear hbad
          have hdt : decide (encP r = ss.take j) = false := by simp [heq]
          rw [hdt]
          clear hdt heq
          go_wp2_with ((with_reducible refine at_wl ?_); (refine wpList_stBlk rfl 27 _ _ rfl w.heap.size 27 _ #[.int .u64 0, .int .u64 0, .slice none 0 0, .slice none 0 0, .slice none 0 0] hres5.out rfl rfl info_rec rfl rfl ?_; intro w10 hb10 hg10))
          refine bodyPost_ret (results_ctt (cs := #[.int .u64 0, .int .u64 0, .slice none 0 0, .slice none 0 0, .slice none 0 0]) rfl rfl hb10 Try.underlying27 rfl info_rec) rfl ?_
          exact decPost_err hbad'.out (hD5.bel.grown hg10 hD5.bel.size (by intro k hk; injection hk with hk; omega))

end Go.Proofs.Ytbcmpfdhpefdbaa
