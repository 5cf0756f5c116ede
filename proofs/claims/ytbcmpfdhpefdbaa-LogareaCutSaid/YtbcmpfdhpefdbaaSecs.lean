/- The contracts of both Sectors. -/
import Derived.Test.YtbcmpfdhpefdbaaLogV
import Derived.Test.YtbcmpfdhpefdbaaLogV28
set_option linter.unusedVariables false
set_option linter.unusedSimpArgs false
namespace Go.Proofs.Ytbcmpfdhpefdbaa
open Go.RowKit
attribute [local irreducible] Go.Calls

/-- what both Sectors answer -/
def SecsPost (w : World) (rs : List Rec) (e : Ending) (w' : World) : Prop :=
  ∃ v, e = .returned (.tuple #[v, .int .i64 (secsE rs)]) ∧ OwnS w.heap.size (fun _ => False) w' v (secsA rs) ∧ Below w.heap.size w w'

theorem RdR.ok {w : World} {F : Nat → Prop} {A : Option Addr} {n : Nat} {rs : List Rec} (h : RdR w F A n rs) : ∀ r ∈ rs, r.Ok := by
  intro r hr
  obtain ⟨i, hi, rfl⟩ := List.mem_iff_getElem.1 hr
  obtain ⟨_, _, _, _, _, _, _, _, _, _, _, _, _, h, _⟩ := h.at_ (List.getElem?_eq_getElem hi)
  exact h.ok

set_option maxRecDepth 100000 in
set_option maxHeartbeats 1000000 in
theorem secs_any (F : Nat → Prop) (A : Option Addr) (n c : Nat) (rs : List Rec) (w : World) (h : RdR w F A n rs) (hl : n ≤ 1000000) (hF : ∀ k, F k → k < w.heap.size) :
    Calls Try.prog 46 #[.slice A n c] w (SecsPost w rs) := by
  have hn := hid h.1
  have hok := hid h.ok
  go_enter Try.func46, Try.ntmps46
  go_wp2_with fail
  refine (logValid_any F A n c rs _ h hl hF).mono ?_
  rintro e w1 ⟨rfl, hb1⟩
  cases hlg : logB rs with
  | false =>
    have hlg' := hid hlg
    clear hlg
    go_wp2_with fail
    go_ret2
    exact ⟨.slice none 0 0, by rw [secsE, hlg'.out]; rfl, by rw [secsA, hlg'.out]; exact OwnS.nil_, hb1⟩
  | true =>
    have hlg' := hid hlg
    clear hlg
    go_wp2_with fail
    go_loopw [4, 14] (fun v i wr => ∃ j : Nat, i = .int .i64 (j : Int) ∧ j ≤ n ∧ OwnS w.heap.size (fun _ => False) wr v (allSecs (rs.take j)) ∧ Below w.heap.size w wr) (fun _ i _ => n - (intOf i).toNat)
    case atStart => exact ⟨0, rfl, by omega, OwnS.nil_, hb1⟩
    case round =>
      obtain ⟨j, rfl, hj, hown, hbel⟩ := hrel
      have hzr := hbel.size
      by_cases hjn : j < n
      · obtain ⟨x, hx⟩ : ∃ x, rs[j]? = some x := ⟨rs[j]'(by rw [← hn.out]; exact hjn), List.getElem?_eq_getElem _⟩
        obtain ⟨b, o, Aw, nw, cw, Am, nm, cm, An, nn, cn, rfl, hFb, hr1, hc1⟩ := (h.keep (Kp.of_below hbel hF)).at_ hx
        have hxv := hid (logB_vld hlg'.out x (List.mem_of_getElem? hx))
        have hx' := hid hx
        have hsl := sectors_le hr1.ok hxv.out
        have hal : (allSecs (rs.take j)).length ≤ 200 * n := Nat.le_trans (allSecs_le (fun r hr => ⟨hok.out r (List.mem_of_mem_take hr), logB_vld hlg'.out r (List.mem_of_mem_take hr)⟩)) (by rw [List.length_take]; omega)
        obtain ⟨Av, cv, rfl, hcv, hmv⟩ := hown.form
        obtain ⟨ss, hss⟩ : ∃ ss, ss = allSecs (rs.take j) := ⟨_, rfl⟩
        have hss' := hid hss
        rw [← hss] at hown hcv hal ⊢
        clear hx hss
        have hc1' := hid hc1
        clear hc1
        have hbF := hF _ hFb
        have hZ := Blk.new wr 27 #[.int .u64 0, .int .u64 0, .slice none 0 0, .slice none 0 0, .slice none 0 0]
        go_wp2_with (first | ((with_reducible refine at_wl ?_); (refine wpList_ldAt rfl 27 _ rfl b (o + j * 5) (recCells x Aw nw cw Am nm cm An nn cn).toList _ rfl hc1'.out Try.underlying27 rfl info_rec ?_)) | ((with_reducible refine at_wl ?_); (refine wpList_stBlk rfl 27 _ _ rfl wr.heap.size 27 _ (recCells x Aw nw cw Am nm cm An nn cn) hZ rfl rfl info_rec rfl rfl ?_; intro w3 hb3 hg3; refine mk_stop ?_)))
        have hbl3 : Below wr.heap.size wr w3 := below_of_only ((World.grownBy_alloc wr _ _).trans hg3) (Nat.le_refl _) (Nat.le_refl _)
        have hbel3 := hbel.trans (hbl3.mono hzr)
        have hs3 := hbl3.size
        have hr3 := hr1.keep (Kp.of_below hbl3 (fun k hk => by have := hF k hk; omega))
        have hown3 := hown.below hbl3
        have hownlt := hown.lt
        have hb3l : Blk w3 wr.heap.size 27 #[.int .u64 (x.gen : Int), .int .u64 (x.seq : Int), .slice Aw nw cw, .slice Am nm cm, .slice An nn cn] := hb3
        have hb3' := hid hb3l
        clear hZ hb3 hb3l hc1' hown hr1
        unfold Mk
        go_wp2_with ((with_reducible refine at_wl ?_); (refine wpList_ldBlk rfl 27 _ rfl wr.heap.size 27 #[.int .u64 (x.gen : Int), .int .u64 (x.seq : Int), .slice Aw nw cw, .slice Am nm cm, .slice An nn cn] hb3'.out _ rfl Try.underlying27 rfl info_rec ?_))
        refine (encode_any F x Aw nw cw Am nm cm An nn cn _ hr3 (fun k hk => by have := hF k hk; omega)).mono ?_
        rintro e w4 ⟨v2, rfl, hown2, hb4⟩
        rw [encP, hxv.out, if_pos rfl] at hown2
        obtain ⟨A2, c2, rfl, hc2, hm2⟩ := hown2.form
        have hs4 := hb4.size
        have hown4 := hown3.below hb4
        have hrd := hown2.rd
        have hbel4 := hbel3.trans (hb4.mono (by omega))
        have hsl' := hid hsl
        clear hown2 hown3 hsl
        go_wp2_with (at_builtin; refine mk_stop ?_)
        refine wpList_apSs rfl _ _ rfl w.heap.size (fun _ => False) (.slice Av ss.length cv) ss rfl hown4 _ A2 _ c2 (sectors x) rfl hrd (fun k hk => ⟨hk.1, .inr (by rcases hk.2 with h | h; exact h.elim; omega), fun e => by have := (hownlt k e).2; rcases hk.2 with h | h; exact h.elim; omega⟩) (by have := hsl'.out; omega) (by omega) ?_
        intro v5 w5 hown5 hg5 hat5
        go_wp2
        go_roundw
        case rel => exact ⟨j + 1, by go_num, by omega, by rw [allSecs_take hx'.out, ← hss'.out]; exact hown5, hbel4.grown hg5 hbel4.size (fun k hk => (hownlt k hk).1)⟩
        case measure => simp [intOf]; omega
      · have hjn' : j = n := by omega
        subst hjn'
        rw [List.take_of_length_le (by rw [← hn.out]; omega)] at hown
        have hown' := hid hown
        clear hown
        go_wp2_with fail
        go_ret2
        exact ⟨_, by rw [secsE, hlg'.out]; rfl, by rw [secsA, hlg'.out]; exact hown'.out, hbel⟩

set_option maxRecDepth 100000 in
set_option maxHeartbeats 1000000 in
theorem secs28_any (F : Nat → Prop) (A : Option Addr) (n c : Nat) (rs : List Rec) (w : World) (h : RdR w F A n rs) (hl : n ≤ 1000000) (hF : ∀ k, F k → k < w.heap.size) :
    Calls Try.prog 39 #[.slice A n c] w (SecsPost w rs) := by
  have hn := hid h.1
  have hok := hid h.ok
  go_enter Try.func39, Try.ntmps39
  go_wp2_with fail
  refine (logValid28_any F A n c rs _ h hl hF).mono ?_
  rintro e w1 ⟨rfl, hb1⟩
  cases hlg : logB rs with
  | false =>
    have hlg' := hid hlg
    clear hlg
    go_wp2_with fail
    go_ret2
    exact ⟨.slice none 0 0, by rw [secsE, hlg'.out]; rfl, by rw [secsA, hlg'.out]; exact OwnS.nil_, hb1⟩
  | true =>
    have hlg' := hid hlg
    clear hlg
    go_wp2_with fail
    go_loopw [4, 5] (fun v i wr => ∃ j : Nat, i = .int .i64 (j : Int) ∧ j ≤ n ∧ OwnS w.heap.size (fun _ => False) wr v (allSecs (rs.take j)) ∧ Below w.heap.size w wr) (fun _ i _ => n - (intOf i).toNat)
    case atStart => exact ⟨0, rfl, by omega, OwnS.nil_, hb1⟩
    case round =>
      obtain ⟨j, rfl, hj, hown, hbel⟩ := hrel
      have hzr := hbel.size
      by_cases hjn : j < n
      · obtain ⟨x, hx⟩ : ∃ x, rs[j]? = some x := ⟨rs[j]'(by rw [← hn.out]; exact hjn), List.getElem?_eq_getElem _⟩
        obtain ⟨b, o, Aw, nw, cw, Am, nm, cm, An, nn, cn, rfl, hFb, hr1, hc1⟩ := (h.keep (Kp.of_below hbel hF)).at_ hx
        have hxv := hid (logB_vld hlg'.out x (List.mem_of_getElem? hx))
        have hx' := hid hx
        have hsl := sectors_le hr1.ok hxv.out
        have hal : (allSecs (rs.take j)).length ≤ 200 * n := Nat.le_trans (allSecs_le (fun r hr => ⟨hok.out r (List.mem_of_mem_take hr), logB_vld hlg'.out r (List.mem_of_mem_take hr)⟩)) (by rw [List.length_take]; omega)
        obtain ⟨Av, cv, rfl, hcv, hmv⟩ := hown.form
        obtain ⟨ss, hss⟩ : ∃ ss, ss = allSecs (rs.take j) := ⟨_, rfl⟩
        have hss' := hid hss
        rw [← hss] at hown hcv hal ⊢
        clear hx hss
        have hc1' := hid hc1
        clear hc1
        have hbF := hF _ hFb
        have hr3 := hr1.keep (Kp.refl _ wr)
        have hownlt := hown.lt
        go_wp2_with ((with_reducible refine at_wl ?_); (refine wpList_ldAt rfl 27 _ rfl b (o + j * 5) (recCells x Aw nw cw Am nm cm An nn cn).toList _ rfl hc1'.out Try.underlying27 rfl info_rec ?_))
        refine (encode27_any F x Aw nw cw Am nm cm An nn cn _ hr3 (fun k hk => by have := hF k hk; omega)).mono ?_
        rintro e w4 ⟨v2, rfl, hown2, hb4⟩
        rw [encP, hxv.out, if_pos rfl] at hown2
        obtain ⟨A2, c2, rfl, hc2, hm2⟩ := hown2.form
        have hs4 := hb4.size
        have hown4 := hown.below hb4
        have hrd := hown2.rd
        have hbel4 := hbel.trans (hb4.mono (by omega))
        have hsl' := hid hsl
        clear hown2 hown hsl
        go_wp2_with (at_builtin; refine mk_stop ?_)
        refine wpList_apSs rfl _ _ rfl w.heap.size (fun _ => False) (.slice Av ss.length cv) ss rfl hown4 _ A2 _ c2 (sectors x) rfl hrd (fun k hk => ⟨hk.1, .inr (by rcases hk.2 with h | h; exact h.elim; omega), fun e => by have := (hownlt k e).2; rcases hk.2 with h | h; exact h.elim; omega⟩) (by have := hsl'.out; omega) (by omega) ?_
        intro v5 w5 hown5 hg5 hat5
        go_wp2
        go_roundw
        case rel => exact ⟨j + 1, by go_num, by omega, by rw [allSecs_take hx'.out, ← hss'.out]; exact hown5, hbel4.grown hg5 hbel4.size (fun k hk => (hownlt k hk).1)⟩
        case measure => simp [intOf]; omega
      · have hjn' : j = n := by omega
        subst hjn'
        rw [List.take_of_length_le (by rw [← hn.out]; omega)] at hown
        have hown' := hid hown
        clear hown
        go_wp2_with fail
        go_ret2
        exact ⟨_, by rw [secsE, hlg'.out]; rfl, by rw [secsA, hlg'.out]; exact hown'.out, hbel⟩

end Go.Proofs.Ytbcmpfdhpefdbaa
