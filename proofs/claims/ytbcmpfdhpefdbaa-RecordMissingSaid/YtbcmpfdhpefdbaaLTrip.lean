/- The walk of the law RecordRoundTrip: it returns true. -/
import Derived.Test.YtbcmpfdhpefdbaaLDec
set_option linter.unusedVariables false
set_option linter.unusedSimpArgs false
namespace Go.Proofs.Ytbcmpfdhpefdbaa
open Go.RowKit
attribute [local irreducible] Go.Calls

theorem Elems.append {w : World} {F : Nat → Prop} {xs ys : List Value} {ss ts : List (List UInt8)} (h : Elems w F xs ss) (k : Elems w F ys ts) : Elems w F (xs ++ ys) (ss ++ ts) := by
  refine ⟨by simp [h.1, k.1], fun j s hs => ?_⟩
  rcases Nat.lt_or_ge j ss.length with hj | hj
  · rw [List.getElem?_append_left hj] at hs
    obtain ⟨A, c, e, r⟩ := h.2 j s hs
    exact ⟨A, c, by rw [List.getElem?_append_left (by rw [h.1]; exact hj)]; exact e, r⟩
  · rw [List.getElem?_append_right hj] at hs
    obtain ⟨A, c, e, r⟩ := k.2 _ s hs
    exact ⟨A, c, by rw [List.getElem?_append_right (by rw [h.1]; exact hj), h.1]; exact e, r⟩
theorem Elems.one {w : World} {F : Nat → Prop} {xs : List Value} {ss : List (List UInt8)} (h : Elems w F xs ss) : ∀ u ∈ xs, u.oneCell' = true := by
  intro u hu
  obtain ⟨j, hj, rfl⟩ := List.mem_iff_getElem.1 hu
  have hs : ss[j]? = some (ss[j]'(by rw [← h.1]; exact hj)) := List.getElem?_eq_getElem _
  obtain ⟨A, c, e, _⟩ := h.2 j _ hs
  rw [List.getElem?_eq_getElem hj] at e
  injection e with e
  rw [e]
  rfl

/-- append(out, l...) -/
theorem wpList_apSs {ops : Array Oper} {rest : List Oper} {o : Oper} {a : Act} {w : World} {Q : Exit → Act → World → Prop} (hgd : o.guard = none) (s x : Operand)
    (ho : o.op = .call { callee := .builtin .append, args := #[s, x], argTypes := #[30, 30] })
    (base : Nat) (F : Nat → Prop) (v : Value) (ss : List (List UInt8)) (hs : a.eval s = v) (hown : OwnS base F w v ss) (G : Nat → Prop) (A : Option Addr) (m c : Nat) (ts : List (List UInt8))
    (hx : a.eval x = .slice A m c) (hr : RdS w G A m ts) (hG : ∀ k, G k → k < w.heap.size ∧ (F k ∨ base ≤ k) ∧ v.ownBlock ≠ some k)
    (hlen : ss.length + ts.length ≤ 1000000000) (hbase : base ≤ w.heap.size)
    (h : ∀ v' w', OwnS base F w' v' (ss ++ ts) → w.grownBy w' v.ownBlock → (v'.ownBlock = v.ownBlock ∨ v'.ownBlock = some w.heap.size) → wpList Try.prog ops Q rest (a.put o.dst v') w') :
    wpList Try.prog ops Q (o :: rest) a w := by
  obtain ⟨i0, hi, hz0, hz1, hz2⟩ := info_parts info_s8
  obtain ⟨xs, h1, h2⟩ := hown
  obtain ⟨hm, ys, h3, h4⟩ := hr
  refine wpList_append_any w hgd s x 30 ho base 25 i0 _ 1 24 Try.underlying30 hi hz0 hz1 hz2 rfl (by decide) v ss.length xs hs h1 G A m c ys hx h3 h4.one
    (by simp only [maxLen]; omega) (by omega) hbase ?_
  intro v' w' e1 e2 e3
  refine h v' w' ⟨xs ++ ys, by rw [List.length_append, ← hm]; exact e1, ?_⟩ e2 e3
  have hkp : Kp (fun k => k < w.heap.size ∧ (F k ∨ base ≤ k) ∧ v.ownBlock ≠ some k) w w' := fun k hk => e2.block k hk.1 (fun e => hk.2.2 e.symm)
  refine ((h2.append (h4.more hG)).keep hkp).more (fun k hk => ⟨by have := e2.size; have := hk.1; omega, hk.2.1, ?_⟩)
  rcases e3 with e | e
  · rw [e]; exact hk.2.2
  · rw [e]; intro e'; injection e' with e'; have := hk.1; omega

/-- an empty row made -/
theorem OwnS.made {w : World} {base : Nat} {F : Nat → Prop} (hb : base ≤ w.heap.size) : OwnS base F (w.alloc (.cells #[] 25)) (.slice (some ⟨w.heap.size, 0, none⟩) 0 0) [] :=
  ⟨[], World.ownsRow_made w #[] 0 hb (by decide) rfl, rfl, fun j s hs => by simp at hs⟩

/-- the element k is stored anew -/
theorem OwnS.set_ {w : World} {base : Nat} {F : Nat → Prop} {b o n c : Nat} {ss : List (List UInt8)} (h : OwnS base F w (.slice (some ⟨b, o, none⟩) n c) ss) {k : Nat} (hk : k < ss.length) {A' : Option Addr} {c' : Nat} {s' : List UInt8}
    (hr : RdB w (fun q => q < w.heap.size ∧ q ≠ b) A' s'.length s') (hc : s'.length ≤ c') (hm : c' ≤ maxLen) :
    RdS (w.setCell ⟨b, o + k, none⟩ (.slice A' s'.length c')) (fun q => q < w.heap.size) (some ⟨b, o, none⟩) n (ss.set k s') ∧ w.frozen? ⟨b, o + k, none⟩ = false := by
  obtain ⟨A0, c0, hv, _, _⟩ := h.form
  injection hv with hv1 hv2 hv3
  subst hv2
  have hlt := h.lt b rfl
  obtain ⟨xs, h1, h2⟩ := h
  rcases h1.2 with ⟨hn, _⟩ | ⟨g, cap, cur, hg, hb, hgg, rest⟩
  · cases hn
  · injection hg with hg1 hg2 hg3
    injection hg1 with hg1
    injection hg1 with hgb hgo
    subst hgb
    subst hgo
    have hcell : ∀ j u, xs[j]? = some u → w.cell? ⟨b, 0 + j, none⟩ = some u := by
      intro j u hu
      obtain ⟨b', o', e, _, hc⟩ := (Rd.of_own h1).2 (by omega)
      injection e with e
      injection e with e1 e2
      subst e1
      subst e2
      exact hc j u hu
    have hxl : xs.length = ss.length := h2.1
    refine ⟨⟨by simp, xs.set k (.slice A' s'.length c'), ⟨by simp [hxl], fun _ => ⟨b, 0, rfl, hlt.2, fun j u hu => ?_⟩⟩, by simp [h2.1], fun j s hs => ?_⟩, ?_⟩
    · rcases Nat.decEq j k with hjk | hjk
      · rw [List.getElem?_set_ne (fun e => hjk e.symm)] at hu
        rw [World.cell?_setCell_other _ _ _ _ (by intro e; injection e with _ e; exact hjk (by omega))]
        exact hcell j u hu
      · subst hjk
        rw [List.getElem?_set_self (by omega)] at hu
        injection hu with hu
        subst hu
        exact World.cell?_setCell_same _ _ _ (hcell j _ (List.getElem?_eq_getElem (by omega)))
    · rcases Nat.decEq j k with hjk | hjk
      · rw [List.getElem?_set_ne (fun e => hjk e.symm)] at hs
        obtain ⟨A1, c1, e1, e2, e3, e4⟩ := h2.2 j s hs
        refine ⟨A1, c1, by rw [List.getElem?_set_ne (fun e => hjk e.symm)]; exact e1, e2, e3, ?_⟩
        exact (e4.keep (fun q hq => Below.heap_setCell _ _ _ _ (by simp only; intro e; exact hq.2.2 (by rw [e]; rfl)))).more (fun q hq => hq.1)
      · subst hjk
        rw [List.getElem?_set_self (by omega)] at hs
        injection hs with hs
        subst hs
        refine ⟨A', c', by rw [List.getElem?_set_self (by omega)], hc, hm, ?_⟩
        exact (hr.keep (fun q hq => Below.heap_setCell _ _ _ _ (by simp only; exact hq.2))).more (fun q hq => hq.1)
    · simp [World.frozen?, hgg]

theorem sec_len64 {r : Rec} (ho : r.Ok) (hv : r.vld = true) : ∀ s ∈ encP r, s.length ≤ 64 := by
  intro s hs
  have hl := payl_len ho (Rec.V.of hv)
  rw [encP, hv, if_pos rfl, sectors, secTo, List.mem_map] at hs
  obtain ⟨i, hi, rfl⟩ := hs
  have hi := List.mem_range.1 hi
  have hn : nChunks (payl r).length ≤ 200 := by unfold nChunks; omega
  have h1 := enc_len10 ho.gen
  have h2 := enc_len10 ho.seq
  have h3 := enc_len 1 i (by omega)
  have h4 := enc_len 1 (nChunks (payl r).length) (by omega)
  have h5 := (chunkAt_bd hi).2
  have h6 := enc_len 0 (chunkAt (payl r) i).length (by omega)
  simp only [secAt, sectorB, sectorH, sealB_len, List.length_append, List.length_cons]
  omega
theorem sectors_at {r : Rec} {j : Nat} (h : j < nChunks (payl r).length) : (sectors r)[j]? = some (sectorB r.gen r.seq j (nChunks (payl r).length) (chunkAt (payl r) j)) := by
  have := secsP_at (gen := r.gen) (seq := r.seq) (p := payl r) (tail := []) h
  rw [List.append_nil] at this
  exact this

set_option maxRecDepth 100000 in
set_option maxHeartbeats 1000000 in
theorem lawTrip_any (r : Rec) (Aw : Option Addr) (nw cw : Nat) (Am : Option Addr) (nm cm : Nat) (An : Option Addr) (nn cn : Nat) (A : Option Addr) (n c : Nat) (tail : List (List UInt8)) (w : World)
    (h : RecIn w (fun k => k < w.heap.size) r Aw nw cw Am nm cm An nn cn) (ht : RdS w (fun k => k < w.heap.size) A n tail) (hnc : n ≤ c) (hcm : c ≤ maxLen) :
    Calls Try.prog 8 #[.agg (recCells r Aw nw cw Am nm cm An nn cn), .slice A n c] w (LawPost w) := by
  have hnm : n ≤ maxLen := Nat.le_trans hnc hcm
  have hbox := Blk.new w 27 (recCells r Aw nw cw Am nm cm An nn cn)
  have hbel0 : Below w.heap.size w (w.alloc (.cells (recCells r Aw nw cw Am nm cm An nn cn) 27)) := (Below.refl _ _).alloc (Nat.le_refl _) _
  go_enter Try.func8, Try.ntmps8
  go_wp2_with fail
  refine (awake27_any _).mono ?_
  rintro e w1 ⟨rfl, hb1⟩
  have hbx1 := hid (hbox.below hb1 hbox.lt)
  have hbw1 := hbel0.trans (hb1.mono hbel0.size)
  have hz1 := hbw1.size
  have hx1 := hbx1.out.lt
  clear hbox hbel0 hb1
  go_wp2_with ((with_reducible refine at_wl ?_); (refine wpList_ldBlk rfl 27 _ rfl w.heap.size 27 _ hbx1.out _ rfl Try.underlying27 rfl info_rec ?_))
  refine (short_any (fun k => k < w.heap.size) r Aw nw cw Am nm cm An nn cn _ (h.keep (Kp.of_below hbw1 (fun k hk => hk)))).mono ?_
  rintro e w2 ⟨rfl, hb2⟩
  have hbw2 := hbw1.trans (hb2.mono hz1)
  have hbx2 := hbx1.out.below hb2 hx1
  have hz2 := hb2.size
  clear hb2 hbx1
  cases hsh : r.short with
  | false =>
    go_wp2_with fail
    go_ret
    exact ⟨rfl, hbw2⟩
  | true =>
    obtain ⟨x0, x1, x2, x3, x4⟩ := hbx2.rec5
    go_wp2_with fail
    refine (valid27_any (fun k => k < w.heap.size) r Aw nw cw Am nm cm An nn cn _ (h.keep (Kp.of_below hbw2 (fun k hk => hk))) (fun k hk => by omega)).mono ?_
    rintro e w3 ⟨rfl, hb3⟩
    have hbw3 := hbw2.trans (hb3.mono (by omega))
    have hbx3 := hid (hbx2.below hb3 (by omega))
    have hz3 := hb3.size
    clear hb3 hbx2 x0 x1 x2 x3 x4
    cases hv : r.vld with
    | false =>
      go_wp2_with fail
      go_ret
      exact ⟨rfl, hbw3⟩
    | true =>
      have hv' := hid hv
      have ht3 := ht.keep (Kp.of_below hbw3 (fun k hk => hk))
      go_wp2_with fail
      refine (long_any (fun k => k < w.heap.size) A n c tail _ ht3 hnm).mono ?_
      rintro e w' ⟨rfl, hww⟩
      rw [hww]
      clear hww
      cases hlg : longB tail with
      | true =>
        go_wp2_with fail
        go_ret
        exact ⟨rfl, hbw3⟩
      | false =>
        obtain ⟨hl1, hl2⟩ := longB_false hlg
        have hE : encE r = 0 := by rw [encE, hv]; rfl
        have hP : encP r = sectors r := by rw [encP, hv, if_pos rfl]
        have h64 := sec_len64 h.ok hv
        obtain ⟨hes, _⟩ := encP_small h.ok
        have hsec := SecsOf.rec_ h.ok hv
        rw [hP] at h64 hes
        have hlen := sectors_len r
        clear hv
        go_wp2_with ((with_reducible refine at_wl ?_); (refine wpList_ldBlk rfl 27 _ rfl w.heap.size 27 _ hbx3.out _ rfl Try.underlying27 rfl info_rec ?_))
        refine (encode_any (fun k => k < w.heap.size) r Aw nw cw Am nm cm An nn cn _ (h.keep (Kp.of_below hbw3 (fun k hk => hk))) (fun k hk => by omega)).mono ?_
        rintro e w4 ⟨v4, rfl, hown4, hb4⟩
        have hbw4 := hbw3.trans (hb4.mono (by omega))
        have hbx4 := hid (hbx3.out.below hb4 (by omega))
        have hz4 := hb4.size
        rw [hP] at hown4
        rw [hE]
        clear hE hP hb4 hbx3
        obtain ⟨A4, c4, rfl, hc4, hm4⟩ := hown4.form
        obtain ⟨m, hm⟩ : ∃ m, m = (sectors r).length := ⟨_, rfl⟩
        have hm0 : 0 < m := by rw [hm, hlen]; have := hsec.p0; unfold nChunks; omega
        have hrd4 := hown4.rd
        rw [← hm] at hown4 hc4 hes hrd4 ⊢
        have hmn : m = nChunks (payl r).length := by rw [hm, hlen]
        have hm' := hid hm
        have hmn' := hid hmn
        clear hm hmn hlen
        have hmne : ¬ (m : Int) = 0 := by omega
        have hmne2 : ¬ m = 0 := by omega
        have hmbq : ((m : Int) == 0) = false := beq_eq_false_iff_ne.2 hmne
        go_wp2_with fail
        go_loopw [42] (fun i wr => ∃ (j : Nat), i = .int .i64 (j : Int) ∧ j ≤ m ∧ Below w4.heap.size w4 wr) (fun i _ => m - (intOf i).toNat)
        case atStart => exact ⟨0, rfl, by omega, Below.refl _ _⟩
        case round =>
          obtain ⟨j, rfl, hj, hbel⟩ := hrel
          have hzr := hbel.size
          by_cases hjm : j < m
          · have hat := sectors_at (r := r) (j := j) (by rw [← hmn'.out]; exact hjm)
            obtain ⟨s, hs⟩ : ∃ s, s = sectorB r.gen r.seq j (nChunks (payl r).length) (chunkAt (payl r) j) := ⟨_, rfl⟩
            rw [← hs] at hat
            have hins : insp s = ⟨r.gen, r.seq, j, m, chunkAt (payl r) j, 0⟩ := by rw [hs, secsP_insp hsec (by rw [← hmn'.out]; exact hjm), ← hmn'.out]
            have hsl := h64 s (List.mem_of_getElem? hat)
            have hck := (chunkAt_bd (p := payl r) (i := j) (by rw [← hmn'.out]; exact hjm)).1
            have hrdr := hrd4.keep (Kp.of_below hbel (fun k hk => hk.1))
            obtain ⟨b, o, A5, c5, rfl, hFb, hc5, hlc5, hlm5, hr5⟩ := hrdr.at_ hat
            have hat' := hid hat
            have hs' := hid hs
            have hins' := hid hins
            clear hat hs hins
            obtain ⟨sl, hsl2⟩ : ∃ sl, sl = s.length := ⟨_, rfl⟩
            rw [← hsl2] at hc5 hlc5 hr5 hsl
            have hsl' := hid hsl2
            clear hsl2
            have hsn : ¬ (64 : Int) < (sl : Int) := by omega
            go_wp2_with fail
            refine (insp_any _ A5 sl c5 s _ hr5 hlc5 hlm5 (by rw [← hsl'.out]; omega) (fun k hk => by have := hk.1; omega)).mono ?_
            rintro e w5 ⟨A6, n6, c6, rfl, hnc6, hcm6, hrd6, hb6⟩
            rw [hins'.out] at hrd6 ⊢
            simp only [Ins.cells] at hrd6 ⊢
            have hn6 : 1 ≤ n6 := by rw [hrd6.1]; exact hck
            have hn6' : ¬ (n6 : Int) = 0 := by omega
            have hn6b : ((n6 : Int) == 0) = false := beq_eq_false_iff_ne.2 hn6'
            have hsnb : (decide ((64 : Int) < (sl : Int))) = false := decide_eq_false (by omega)
            have hs6 := hb6.size
            have hZ := Blk.new w5 36 zHd
            go_wp2_with ((with_reducible refine at_wl ?_); (refine wpList_stBlk rfl 36 _ _ rfl w5.heap.size 36 _ #[.int .u64 (r.gen : Int), .int .u64 (r.seq : Int), .int .i64 (j : Int), .int .i64 (m : Int)] hZ rfl rfl info_head rfl rfl ?_; intro w7 hb7 hg7; refine mk_stop ?_))
            have hbl7 : Below w5.heap.size w5 w7 := below_of_only ((World.grownBy_alloc w5 _ _).trans hg7) (Nat.le_refl _) (Nat.le_refl _)
            have hs7 := hbl7.size
            have hbel7 := hbel.trans ((hb6.trans (hbl7.mono hs6)).mono hzr)
            obtain ⟨x0, x1, x2, x3, x4⟩ := (hbx4.out.below hbel7 hbx4.out.lt).rec5
            have z0 : w7.cell? ⟨w5.heap.size, 0, none⟩ = some (.int .u64 (r.gen : Int)) := hb7.cell 0
            have z1 : w7.cell? ⟨w5.heap.size, 1, none⟩ = some (.int .u64 (r.seq : Int)) := hb7.cell 1
            have z2 : w7.cell? ⟨w5.heap.size, 2, none⟩ = some (.int .i64 (j : Int)) := hb7.cell 2
            have z3 : w7.cell? ⟨w5.heap.size, 3, none⟩ = some (.int .i64 (m : Int)) := hb7.cell 3
            have hc7 : w7.cell? ⟨b, o + j, none⟩ = some (.slice A5 sl c5) := (World.cell?_of_block ((hb6.trans (hbl7.mono hs6)).block b (by have := hFb.1; omega))).trans hc5
            unfold Mk
            go_wp2_with fail
            go_roundw
            case rel => exact ⟨j + 1, by go_num, by omega, hbel7⟩
            case measure => simp [intOf]; omega
          · have hjm' : j = m := by omega
            subst hjm'
            have htr := (ht.keep (Kp.of_below hbw4 (fun k hk => hk))).keep (Kp.of_below hbel (fun k hk => by have := hbw4.size; omega))
            have hrdr := hrd4.keep (Kp.of_below hbel (fun k hk => hk.1))
            go_wp2_with (at_builtin; refine mk_stop ?_)
            refine wpList_apSs rfl _ _ rfl wr.heap.size (fun k => k < wr.heap.size) _ [] rfl (OwnS.made (Nat.le_refl _)) _ A4 j c4 (sectors r) rfl (hrdr.keep (fun k hk => Below.heap_alloc wr _ _ (by have := hk.1; omega))) (fun k hk => ⟨by have := hk.1; simp; omega, .inl (by have := hk.1; omega), by have := hk.1; intro e; injection e with e; simp only at e; omega⟩) (by rw [← hm'.out]; simp; omega) (by simp) ?_
            intro v5 w5 hown5 hg5 hat5
            go_wp2_with (at_builtin; refine mk_stop ?_)
            have hz5 : wr.heap.size + 1 ≤ w5.heap.size := by simpa using hg5.size
            have hkp5 : ∀ k, k < wr.heap.size → w5.heap[k]? = wr.heap[k]? := fun k hk => (hg5.block k (by simp; omega) (by intro e; injection e with e; simp only at e; omega)).trans (Below.heap_alloc wr _ _ hk)
            have hbel5 : Below wr.heap.size wr w5 := ((Below.refl _ wr).alloc (Nat.le_refl _) _).grown hg5 (by simp) (by intro k hk; injection hk with hk; simp only at hk; omega)
            have hwr := hbw4.size
            refine wpList_apSs rfl _ _ rfl wr.heap.size (fun k => k < wr.heap.size) v5 _ rfl hown5 (fun k => k < w.heap.size) A n c tail rfl (htr.keep (fun k hk => hkp5 k (by omega))) (fun k hk => ⟨by omega, .inl (by omega), fun e => by have := (hown5.lt _ e).1; omega⟩) (by simp; rw [← hm'.out]; omega) (by omega) ?_
            intro v6 w6 hown6 hg6 hat6
            have hbel6 : Below wr.heap.size wr w6 := hbel5.grown hg6 (by omega) (fun k hk => (hown5.lt k hk).1)
            have hz6 := hg6.size
            obtain ⟨A6, c6, rfl, hc6, hm6⟩ := hown6.form
            rw [List.nil_append] at hown6 hc6 ⊢
            have hrd6 := hown6.rd
            have hdl : (sectors r ++ tail).length = j + tail.length := by rw [List.length_append, ← hm'.out]
            obtain ⟨N, hN⟩ : ∃ N, N = (sectors r ++ tail).length := ⟨_, rfl⟩
            rw [← hN] at hrd6 hc6 hdl ⊢
            have hN' := hid hN
            clear hN
            have hdec := decode_trip h.ok hv'.out tail
            rw [← hm'.out] at hdec
            have hdec' := hid hdec
            clear hdec
            have hdl' := hid hdl
            clear hdl
            have hwz6 : w.heap.size < wr.heap.size := by have := hbx4.out.lt; omega
            go_wp2_with fail
            refine (decode_any _ A6 N c6 (sectors r ++ tail) _ hrd6 hc6 hm6 (fun s hs => by rcases List.mem_append.1 hs with h1 | h1; (have := h64 s h1; omega); (have := hl1 s h1; omega)) (by rw [← hN'.out, hdl'.out]; omega) (fun k hk => hk.1)).mono ?_
            rintro e w7 ⟨Bw, mw, dw, Bm, mm, dm, Bn, mn, dn, rfl, hrec, hb7⟩
            rw [hdec'.out] at hrec ⊢
            simp only at hrec ⊢
            have hz7 := hb7.size
            have hZ := Blk.new w7 27 #[.int .u64 0, .int .u64 0, .slice none 0 0, .slice none 0 0, .slice none 0 0]
            go_wp2_with ((with_reducible refine at_wl ?_); (refine wpList_stBlk rfl 27 _ _ rfl w7.heap.size 27 _ (recCells r Bw mw dw Bm mm dm Bn mn dn) hZ rfl rfl info_rec rfl rfl ?_; intro w8 hb8 hg8; refine mk_stop ?_))
            have hbl8 : Below w7.heap.size w7 w8 := below_of_only ((World.grownBy_alloc w7 _ _).trans hg8) (Nat.le_refl _) (Nat.le_refl _)
            have hz8 := hbl8.size
            have hbel8 : Below w.heap.size w w8 := (((hbw4.trans (hbel.mono hwr)).trans (hbel6.mono (by omega))).trans (hb7.mono (by omega))).trans (hbl8.mono (by omega))
            obtain ⟨x0, x1, x2, x3, x4⟩ := (((((hbx4.out.below hbel hbx4.out.lt).below hbel6 hwz6).below hb7 (by omega)).below hbl8 (by omega))).rec5
            obtain ⟨y0, y1, y2, y3, y4⟩ := hb8.rec5
            unfold Mk
            go_wp2_with fail
            refine (same_any _ (fun k => k < w.heap.size) r Bw mw dw Bm mm dm Bn mn dn r Aw nw cw Am nm cm An nn cn _ (hrec.keep (Kp.of_below hbl8 (fun k hk => hk.1))) (h.keep (Kp.of_below hbel8 (fun k hk => hk))) (fun k hk => by have := hk.1; omega) (fun k hk => by have := hbel8.size; omega)).mono ?_
            rintro e w9 ⟨rfl, hb9⟩
            rw [decide_eq_true (rfl : r = r)]
            go_wp2_with fail
            go_ret
            exact ⟨rfl, hbel8.trans (hb9.mono hbel8.size)⟩

end Go.Proofs.Ytbcmpfdhpefdbaa
