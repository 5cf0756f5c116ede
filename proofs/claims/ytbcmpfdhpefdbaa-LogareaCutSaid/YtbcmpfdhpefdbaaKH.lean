/- slices.Chunk at bytes, and slices.Collect of it. slices.Chunk and slices.Collect at bytes: their contracts. The contract of record's Encode. -/
import Derived.Test.YtbcmpfdhpefdbaaKF
import Derived.RangeFuncNested
import Derived.RangeFuncBound
import Derived.RangeFuncCalls
import Derived.RangeFuncBox
import Derived.RangeFuncLeaves
import Derived.Shelf.Abstract
import Derived.Shelf.RegionOpen
import Derived.OwnWalkIn
import Derived.TacticsInMore
import Derived.LoopNIn
import Derived.LoopIn
import Derived.Sort.CutIn
import Derived.Test.YtbcmpfdhpefdbaaKG
import Derived.Test.YtbcmpfdhpefdbaaKE
import Derived.Test.YtbcmpfdhpefdbaaKD
set_option linter.unusedVariables false
set_option linter.unusedSimpArgs false
namespace Go.Proofs.Ytbcmpfdhpefdbaa
open Go.RowKit Go.Shelf
attribute [local go_sem] Oper.semAt_some

/-- what has come when k rounds are over -/
def upto {α : Type} (f : Nat → α) (k : Nat) : List α := (List.range k).map f
theorem upto_succ {α : Type} (f : Nat → α) (k : Nat) : upto f (k + 1) = upto f k ++ [f k] := by simp [upto, List.range_succ]
theorem upto_length {α : Type} (f : Nat → α) (k : Nat) : (upto f k).length = k := by simp [upto]
/-- chunk number k of len bytes at off: its place and its length -/
def chV (off len k : Nat) : Nat × Nat := (off + 28 * k, min 28 (len - 28 * k))
def chE (b : Nat) (x : Nat × Nat) : Value := .slice (some ⟨b, x.1, none⟩) x.2 x.2

set_option maxRecDepth 100000 in
set_option maxHeartbeats 2000000 in
theorem chunk1_in (F : Fence) (n : Nat) (h7 : F.fn 77) (hro : F.round = none) (hn : 1 ≤ n) (l Bs Bn n₀ b off len cap m : Nat) (hreach : len ≤ 100000) (hcap : len ≤ cap) (hm : 28 * m < len + 28 ∧ len ≤ 28 * m) (hBs0 : Bs < n₀) (hBn0 : Bn < n₀) (J Jx : List (Nat × Nat) → World → Prop) (W : World) (hJ : AbidesFrom W.heap.size J)
    (hY : ∀ pre x W, J pre W → pre.length < m → YieldAt F (n - 1) Try.prog l #[chE b x] W fun e W' =>
      (e = .returned (.bool true) ∧ J (pre ++ [x]) W' ∧ Below n₀ W W') ∨ (e = .returned (.bool false) ∧ Jx (pre ++ [x]) W'))
    (hBs : W.cell? ⟨Bs, 0, none⟩ = some (.slice (some ⟨b, off, none⟩) len cap)) (hBn : W.cell? ⟨Bn, 0, none⟩ = some (.int .i64 28)) (h0 : J [] W) :
    CallsIn F n Try.prog 77 #[.func (.yield l) #[] #[], .pointer (some ⟨Bs, 0, none⟩), .pointer (some ⟨Bn, 0, none⟩)] W fun e W' => (∃ v, e = .returned v) ∧
      ((∃ ys, ys = upto (chV off len) m ∧ J ys W') ∨ (∃ pre, (∃ k, k ≤ m ∧ pre = upto (chV off len) k) ∧ Jx pre W')) := by
  refine callsIn_of_wp Try.func77 rfl h7 ?_ hro
  simp only [Try.ntmps77, List.size_toArray, List.length_cons, List.length_nil, Nat.reduceAdd, Nat.reduceSub, Array.replicate_succ, Array.replicate_zero, List.push_toArray, List.append_toArray, List.nil_append, List.cons_append]
  gi_wp2
  gi_loopw [4] (fun i wr => ∃ k q : Nat, k ≤ m ∧ q = 28 * k ∧ i = .int .i64 (q : Int) ∧ J (upto (chV off len) k) wr ∧ Below n₀ W wr)
    (fun i _ => 28 * m - (intOf i).toNat)
  case atStart => exact ⟨0, 0, Nat.zero_le _, rfl, rfl, h0, Below.refl _ _⟩
  case round =>
    obtain ⟨k, q, hk, hq, rfl, hJs, hnx⟩ := hrel
    have hs1 := (hnx.cell (p := ⟨Bs, 0, none⟩) hBs0).trans hBs
    have hn1 := (hnx.cell (p := ⟨Bn, 0, none⟩) hBn0).trans hBn
    by_cases hlt : k < m
    · have hqlt : q < len := by omega
      have hi1 : (q : Int) ≤ (len : Int) := by omega
      have hi2 : q ≤ len := by omega
      have hcq : ¬ cap = q := by omega
      have hwl : IntKind.i64.wrap ((len - q : Nat) : Int) = ((len - q : Nat) : Int) := by rw [IntKind.wrap_i64]; omega
      obtain ⟨e, he⟩ : ∃ e, e = min 28 (len - q) := ⟨_, rfl⟩
      have he' := hid he
      have hq' := hid hq
      have h10 : 0 < e := by omega
      have h11 : q + e ≤ len := by omega
      have h12 : e ≤ 28 := by omega
      clear hq he
      gi_wp2
      gi_cut [5] from 13 (fun v wr' => v = .int .i64 (e : Int) ∧ wr' = wr.drew)
      case first =>
        gi_region
        all_goals gi_wp2
        all_goals (gi_meet; exact ⟨by have := he'.out; congr 1; omega, rfl⟩)
      obtain ⟨rfl, rfl⟩ := hcut
      have hJd := hJ _ wr wr.drew none hJs (only_drew (only_refl _ _)) (fun r e => by cases e)
      obtain ⟨fn, tmps, assign, body, hy, hR⟩ := hY _ (chV off len k) wr.drew hJd (by rw [upto_length]; exact hlt)
      unfold chV chE at hy
      dsimp only at hy
      rw [← hq'.out, ← he'.out] at hy
      obtain ⟨qe, hqe⟩ : ∃ qe, qe = q + e := ⟨_, rfl⟩
      have g1 : (q : Int) + (e : Int) = (qe : Int) := by omega
      have g2 : qe - q = e := by omega
      have g3 : q ≤ qe := by omega
      have g4 : qe ≤ cap := by omega
      have g5 : ¬ qe = q := by omega
      have g6 : IntKind.i64.wrap (qe : Int) = (qe : Int) := by rw [IntKind.wrap_i64]; omega
      have hqe' := hid hqe
      clear hqe
      gi_wp2
      refine hR.mono ?_
      rintro e3 W3 (⟨rfl, hJ3, hk3⟩ | ⟨rfl, hJx3⟩)
      · have hnx3 := (hnx.drew).trans hk3
        have hn3 := (hnx3.cell (p := ⟨Bn, 0, none⟩) hBn0).trans hBn
        obtain ⟨q2, hq2⟩ : ∃ q2, q2 = q + 28 := ⟨_, rfl⟩
        have g7 : (q : Int) + 28 = (q2 : Int) := by omega
        have g8 : IntKind.i64.wrap (q2 : Int) = (q2 : Int) := by rw [IntKind.wrap_i64]; omega
        have hq2' := hid hq2
        clear hq2
        gi_wp2
        go_roundw
        case rel => exact ⟨k + 1, q2, by omega, by have := hq2'.out; have := hq'.out; omega, rfl, by rw [upto_succ]; exact hJ3, hnx3⟩
        case measure => have := hq2'.out; have := hq'.out; simp [intOf]; omega
      · gi_wp2
        refine bodyPost_ret (results_none rfl _ _ _) rfl ?_
        exact ⟨⟨_, rfl⟩, .inr ⟨_, ⟨k + 1, by omega, (upto_succ _ _).symm⟩, hJx3⟩⟩
    · obtain rfl : k = m := by omega
      have hqn : ¬ q < len := by omega
      have hq' := hid hq
      clear hq
      gi_wp2
      go_end0
      exact ⟨⟨_, rfl⟩, .inl ⟨_, rfl, hJs⟩⟩
theorem chunk_stops (F : Fence) (n : Nat) (h7 : F.fn 77) (hro : F.round = none) (hn : 1 ≤ n) (Bs Bn b off len cap m : Nat) (hreach : len ≤ 100000) (hcap : len ≤ cap) (hm : 28 * m < len + 28 ∧ len ≤ 28 * m) (n₀ : Nat) (w : World) (hBs0 : Bs < n₀) (hBn0 : Bn < n₀) (hn₀ : n₀ ≤ w.heap.size)
    (hBs : w.cell? ⟨Bs, 0, none⟩ = some (.slice (some ⟨b, off, none⟩) len cap)) (hBn : w.cell? ⟨Bn, 0, none⟩ = some (.int .i64 28)) :
    SeqStopsK F n Try.prog 77 #[.pointer (some ⟨Bs, 0, none⟩), .pointer (some ⟨Bn, 0, none⟩)] (fun x : Nat × Nat => #[chE b x]) (Below n₀) (fun ys => ys = upto (chV off len) m) (fun pre => ∃ k, k ≤ m ∧ pre = upto (chV off len) k) m w := fun l J Jx W hW hJ _ hY h0 =>
  chunk1_in F n h7 hro hn l Bs Bn n₀ b off len cap m hreach hcap hm hBs0 hBn0 J Jx W hJ hY ((hW.cell (p := ⟨Bs, 0, none⟩) (by simp only; omega)).trans hBs) ((hW.cell (p := ⟨Bn, 0, none⟩) (by simp only; omega)).trans hBn) h0

set_option maxRecDepth 100000 in
set_option maxHeartbeats 2000000 in
theorem appendSeq_in (F : Fence) (n : Nat) (h3 : F.fn 76) (h7 : F.fn 77) (hro : F.round = none) (hn : 3 ≤ n) (Bs Bn b off len cap m : Nat) (hreach : len ≤ 100000) (hcap : len ≤ cap) (hm : 28 * m < len + 28 ∧ len ≤ 28 * m) (w : World) (hBs0 : Bs < w.heap.size) (hBn0 : Bn < w.heap.size)
    (hBs : w.cell? ⟨Bs, 0, none⟩ = some (.slice (some ⟨b, off, none⟩) len cap)) (hBn : w.cell? ⟨Bn, 0, none⟩ = some (.int .i64 28)) :
    CallsIn F n Try.prog 76 #[.slice none 0 0, .func (.func 77) #[] #[.pointer (some ⟨Bs, 0, none⟩), .pointer (some ⟨Bn, 0, none⟩)]] w fun e W' => ∃ v, e = .returned v ∧ W'.ownsRow w.heap.size 25 1 v m ((upto (chV off len) m).map (chE b)) ∧ Below w.heap.size w W' := by
  have h1 : 1 ≤ n := by omega
  obtain ⟨i0, hi, hz0, hz1, hz2⟩ := info_parts info_s8
  refine callsIn_of_wp_marks Try.func76 rfl h3 ?_ hro
  simp only [Try.ntmps76, List.size_toArray, List.length_cons, List.length_nil, Nat.reduceAdd, Nat.reduceSub, Array.replicate_succ, Array.replicate_zero, List.push_toArray, List.append_toArray, List.nil_append, List.cons_append]
  gi_wp2
  have bO := Boxed.new w 30 (.slice none 0 0)
  have hB0 : Below w.heap.size w (w.alloc (.cells #[.slice none 0 0] 30)) := (Below.refl _ w).alloc (Nat.le_refl _) _
  refine wpIn_rangeFunc_ownG hro h1 (gf := 77) (lb := #[.pointer (some ⟨Bs, 0, none⟩), .pointer (some ⟨Bn, 0, none⟩)]) rfl h7 (enters_of Try.func77 (by kernel_rfl) rfl)
    (chunk_stops F (n - 1) h7 hro (by omega) Bs Bn b off len cap m hreach hcap hm w.heap.size _ hBs0 hBn0 (by simp) ((hB0.cell (p := ⟨Bs, 0, none⟩) hBs0).trans hBs) ((hB0.cell (p := ⟨Bn, 0, none⟩) hBn0).trans hBn)) belowK_t (belowK_b (by simp)) (Below.refl _ _) (fun _ => rfl)
    (fun (pre : List (Nat × Nat)) W => (∃ v, Boxed W w.heap.size 30 v ∧ W.ownsRow w.heap.size 25 1 v pre.length (pre.map (chE b)) ∧ True) ∧ Below w.heap.size w W)
    (fun _ _ _ => False)
    (OwnFrom.and (Own.from (holdsRow_own w.heap.size w.heap.size 30 25 1 (fun pre : List (Nat × Nat) => pre.length) (fun pre => pre.map (chE b)) (fun _ _ => True)) _) (ownFrom_below (Nat.le_refl _) (by simp)))
    (fun _ _ _ _ _ hs _ _ => hs)
    ⟨⟨_, bO, World.ownsRow_nil _ _ _ _, trivial⟩, hB0⟩
    (fun x : Nat × Nat => { tmps := #[.slice none 0 0, .func (.func 77) #[] #[.pointer (some ⟨Bs, 0, none⟩), .pointer (some ⟨Bn, 0, none⟩)], .pointer (some ⟨w.heap.size, 0, none⟩), undef, .slice none 0 0, .slice (some ⟨b, x.1, none⟩) x.2 x.2, .func (.func 77) #[] #[.pointer (some ⟨Bs, 0, none⟩), .pointer (some ⟨Bn, 0, none⟩)], .slice (some ⟨b, x.1, none⟩) x.2 x.2, undef, undef, undef, undef, undef], defers := [] }) ?assign ?body ?done ?stop
  case assign =>
    intro l x W K hK
    gi_wp2
    exact hK
  case body =>
    rintro l pre x W ⟨⟨v, hv, hrow, _⟩, hB⟩ hlt
    have hc := hv.cell
    gi_wp2_with (gi_at_builtin; refine wpListIn_append_own _ rfl _ _ 30 rfl w.heap.size 25 i0 (.slice none 0 0) 1 24 Try.underlying30 hi hz0 hz1 hz2 rfl (by decide) _ _ _ rfl (hrow.alloc _) ⟨W.heap.size, 0, none⟩ 1 1 [.slice (some ⟨b, x.1, none⟩) x.2 x.2] rfl rfl (cell_one_new _ _ _) (by simp [Value.oneCell']) (by simp only [maxLen]; omega) (by omega) (by have := hB.size; simp; omega) ?_; intro v' w1 hown' hgrow _; obtain ⟨g', cap', rfl⟩ := ownsRow_succ hown'; obtain ⟨hv1, hv2, hr2, hk2, hb2⟩ := hv.appended (by decide) hrow hB.size (Nat.le_refl _) hown' hgrow; have hc1 := hv1.cell; have hf1 := hv1.frozen)
    exact ⟨hk2.from _, hb2, ⟨_, hv2, by simpa [chE] using hr2, trivial⟩, hB.trans hb2⟩
  case done =>
    rintro D ys W hD rfl ⟨⟨v, hv, hrow, _⟩, hB⟩ hK
    have hc := hv.cell
    gi_wp2
    refine ⟨by simp, .inl ⟨_, _, rfl, run_takeDeferred hK, ?_⟩⟩
    exact ⟨_, results_tmp rfl _ _ _, v, rfl, by rw [upto_length] at hrow; exact ownsRow_putObj hrow _ hK rfl, hB.trans (belowK_b (w := w) (Nat.le_refl _) W D _ _ (by simp at hD; omega) hK rfl rfl)⟩
  case stop =>
    rintro D c pre W _ _ h _
    exact h.elim

end Go.Proofs.Ytbcmpfdhpefdbaa

namespace Go.Proofs.Ytbcmpfdhpefdbaa
open Go.RowKit Go.Shelf
attribute [local irreducible] Go.Calls

set_option maxRecDepth 100000 in
theorem chunk_any (A : Option Addr) (len cap : Nat) (w : World) :
    Calls Try.prog 49 #[.slice A len cap, .int .i64 28] w fun e w' => e = .returned (.func (.func 77) #[] #[.pointer (some ⟨w.heap.size, 0, none⟩), .pointer (some ⟨w.heap.size + 1, 0, none⟩)]) ∧ w' = (w.alloc (.cells #[.slice A len cap] 25)).alloc (.cells #[.int .i64 28] 3) := by
  go_enter Try.func49, Try.ntmps49
  go_wp2
  go_ret
  exact ⟨rfl, rfl⟩

/-- the chunks of a payload -/
def chunks (bs : List UInt8) : List (List UInt8) := (List.range (nChunks bs.length)).map (chunkAt bs)

theorem chunks_len (bs : List UInt8) : (chunks bs).length = nChunks bs.length := by simp [chunks]
theorem chunks_get {bs : List UInt8} {j : Nat} (h : j < nChunks bs.length) : (chunks bs)[j]? = some (chunkAt bs j) := by simp [chunks, h]

theorem chunkAt_len' (p : List UInt8) (i : Nat) : (chunkAt p i).length = min 28 (p.length - 28 * i) := by simp [chunkAt]

theorem collect_any (F : Nat → Prop) (Bs Bn b off len cap : Nat) (bs : List UInt8) (w : World) (hl : bs.length ≤ 100000) (hcap : len ≤ cap) (h0 : 0 < len) (hr : RdB w F (some ⟨b, off, none⟩) len bs) (hF : ∀ k, F k → k < w.heap.size) (hBs0 : Bs < w.heap.size) (hBn0 : Bn < w.heap.size)
    (hBs : w.cell? ⟨Bs, 0, none⟩ = some (.slice (some ⟨b, off, none⟩) len cap)) (hBn : w.cell? ⟨Bn, 0, none⟩ = some (.int .i64 28)) :
    Calls Try.prog 48 #[.func (.func 77) #[] #[.pointer (some ⟨Bs, 0, none⟩), .pointer (some ⟨Bn, 0, none⟩)]] w fun e w' => ∃ v, e = .returned v ∧ OwnS w.heap.size F w' v (chunks bs) ∧ Below w.heap.size w w' := by
  have hlen := hr.1
  have hm : 28 * nChunks len < len + 28 ∧ len ≤ 28 * nChunks len := by unfold nChunks; omega
  have hlen' := hid hlen
  clear hlen
  go_enter Try.func48, Try.ntmps48
  go_wp2_with fail
  refine (callsIn_wide (n := 3)).1 ((appendSeq_in _ 3 trivial trivial rfl (by omega) Bs Bn b off len cap (nChunks len) (by rw [hlen'.out]; exact hl) hcap hm w hBs0 hBn0 hBs hBn).mono ?_)
  rintro e w1 ⟨v, rfl, hrow, hbel⟩
  go_wp2
  go_ret
  refine ⟨v, rfl, ?_, hbel⟩
  have hlt := World.ownsRow.lt hrow
  refine ⟨_, by rw [chunks_len, ← hlen'.out]; exact hrow, by simp [chunks_len, upto_length, ← hlen'.out], fun j s hs => ?_⟩
  have hj : j < nChunks bs.length := by
    rw [← chunks_len]; exact (List.getElem?_eq_some_iff.1 hs).1
  rw [chunks_get hj] at hs
  injection hs with hs
  subst hs
  have hj' : 28 * j < len := by rw [hlen'.out]; unfold nChunks at hj; omega
  have hcl := chunkAt_len' bs j
  rw [← hlen'.out] at hcl
  have h1 := (hr.cut (n := 28 * j) (c := cap) (by omega) hcap).take_ (n := (chunkAt bs j).length) (by omega)
  unfold cutA at h1
  rw [if_neg (by omega)] at h1
  simp only [Option.map_some, addr_add, Nat.mul_one] at h1
  have e1 : (bs.drop (28 * j)).take (chunkAt bs j).length = chunkAt bs j := by
    rw [hcl, chunkAt]
    rw [Nat.min_def]
    split
    · rfl
    · rw [List.take_of_length_le (by rw [List.length_drop, ← hlen'.out]; omega), List.take_of_length_le (by rw [List.length_drop, ← hlen'.out]; omega)]
  rw [e1] at h1
  refine ⟨some ⟨b, off + 28 * j, none⟩, (chunkAt bs j).length, ?_, Nat.le_refl _, by simp only [maxLen]; omega, (h1.keep (Kp.of_below hbel hF)).more (fun k hk => ⟨by have := hF k hk; have := hbel.size; omega, .inl hk, fun e => by have := (hlt k e).1; have := hF k hk; omega⟩)⟩
  rw [hlen'.out] at hcl ⊢
  simp [upto, hj, chE, chV, hcl]

end Go.Proofs.Ytbcmpfdhpefdbaa

namespace Go.Proofs.Ytbcmpfdhpefdbaa
open Go.RowKit
attribute [local irreducible] Go.Calls

theorem encode_bad (F : Nat → Prop) (r : Rec) (Aw : Option Addr) (nw cw : Nat) (Am : Option Addr) (nm cm : Nat) (An : Option Addr) (nn cn : Nat) (w : World) (h : RecIn w F r Aw nw cw Am nm cm An nn cn) (hF : ∀ k, F k → k < w.heap.size) (hvld : r.vld = false) :
    Calls Try.prog 18 #[.agg (recCells r Aw nw cw Am nm cm An nn cn)] w (EncPost w r) := by
  have hbox : Blk (w.alloc (.cells (recCells r Aw nw cw Am nm cm An nn cn) 27)) w.heap.size 27 (recCells r Aw nw cw Am nm cm An nn cn) := Blk.new _ _ _
  have hbel0 : Below w.heap.size w (w.alloc (.cells (recCells r Aw nw cw Am nm cm An nn cn) 27)) := (Below.refl _ _).alloc (Nat.le_refl _) _
  have hv := hid hvld
  clear hvld
  go_enter Try.func18, Try.ntmps18
  go_wp2_with (refine wpList_ldBlk rfl 27 _ rfl w.heap.size 27 _ hbox _ rfl Try.underlying27 rfl info_rec ?_)
  refine (valid_any F r Aw nw cw Am nm cm An nn cn _ (h.keep (Kp.of_below hbel0 hF)) (fun k hk => by have := hF k hk; simp; omega)).mono ?_
  rintro e w1 ⟨rfl, hbel1⟩
  rw [hv.out]
  go_wp2
  go_ret2
  refine ⟨_, by rw [encE, hv.out]; rfl, ?_, hbel0.trans (hbel1.mono (by simp))⟩
  rw [encP, hv.out]
  exact OwnS.nil_

theorem payl_pos (r : Rec) : 0 < (payl r).length := by
  have := List.length_pos_iff.2 (enc_ne r.gen)
  simp only [payl, List.length_append]
  omega

set_option maxRecDepth 100000 in
set_option maxHeartbeats 1000000 in
theorem encode_good (F : Nat → Prop) (r : Rec) (Aw : Option Addr) (nw cw : Nat) (Am : Option Addr) (nm cm : Nat) (An : Option Addr) (nn cn : Nat) (w : World) (h : RecIn w F r Aw nw cw Am nm cm An nn cn) (hF : ∀ k, F k → k < w.heap.size) (hvld : r.vld = true) :
    Calls Try.prog 18 #[.agg (recCells r Aw nw cw Am nm cm An nn cn)] w (EncPost w r) := by
  have hpl := payl_len h.ok (Rec.V.of hvld)
  have hpp := payl_pos r
  have hgen := h.ok.gen
  have hseq := h.ok.seq
  unfold U64 at hgen hseq
  have hbox : Blk (w.alloc (.cells (recCells r Aw nw cw Am nm cm An nn cn) 27)) w.heap.size 27 (recCells r Aw nw cw Am nm cm An nn cn) := Blk.new _ _ _
  have hbel0 : Below w.heap.size w (w.alloc (.cells (recCells r Aw nw cw Am nm cm An nn cn) 27)) := (Below.refl _ _).alloc (Nat.le_refl _) _
  have hv := hid hvld
  clear hvld
  go_enter Try.func18, Try.ntmps18
  go_wp2_with (refine wpList_ldBlk rfl 27 _ rfl w.heap.size 27 _ hbox _ rfl Try.underlying27 rfl info_rec ?_)
  refine (valid_any F r Aw nw cw Am nm cm An nn cn _ (h.keep (Kp.of_below hbel0 hF)) (fun k hk => by have := hF k hk; simp; omega)).mono ?_
  rintro e w1 ⟨rfl, hbel1⟩
  rw [hv.out]
  have hbx1 := hbox.below hbel1 (by simp)
  have hbelw1 := hbel0.trans (hbel1.mono (by simp))
  clear hbel1 hbel0 hbox
  go_wp2_with (refine wpList_ldBlk rfl 27 _ rfl w.heap.size 27 _ hbx1 _ rfl Try.underlying27 rfl info_rec ?_)
  refine (payload_any F r Aw nw cw Am nm cm An nn cn _ (h.keep (Kp.of_below hbelw1 hF)) (fun k hk => by have := hF k hk; have := hbelw1.size; omega) hv.out).mono ?_
  intro e w2 hret2
  obtain ⟨A2, c2, d2, rfl, hown2, hbel2, hc2, hm2, hd2⟩ := hret2.opened
  have hl2 : d2.length ≤ 5400 := by rw [hd2.out]; exact hpl
  have hl0 : 0 < d2.length := by rw [hd2.out]; exact hpp
  have hbx2 := hbx1.below hbel2 hbx1.lt
  have hbelw2 := hbelw1.trans (hbel2.mono hbelw1.size)
  have hrd2 := hown2.rd
  clear hret2 hbel2 hbelw1 hbx1 hown2 hpl hpp
  go_wp2_with fail
  refine (chunk_any A2 d2.length c2 w2).mono ?_
  rintro e w3 ⟨rfl, rfl⟩
  obtain ⟨b, o, rfl, hFb, hc⟩ := hrd2.2.2 hl0
  clear hc
  have hb0 := Blk.new w2 25 #[.slice (some ⟨b, o, none⟩) d2.length c2]
  have hbs := hb0.alloc (.cells #[.int .i64 28] 3)
  have hbn := Blk.new (w2.alloc (.cells #[.slice (some ⟨b, o, none⟩) d2.length c2] 25)) 3 #[.int .i64 28]
  rw [show (w2.alloc (.cells #[.slice (some ⟨b, o, none⟩) d2.length c2] 25)).heap.size = w2.heap.size + 1 by simp] at hbn
  have hbel3 : Below w2.heap.size w2 ((w2.alloc (.cells #[.slice (some ⟨b, o, none⟩) d2.length c2] 25)).alloc (.cells #[.int .i64 28] 3)) := ((Below.refl _ _).alloc (Nat.le_refl _) _).alloc (by simp) _
  have hF3 : ∀ k, (k < w2.heap.size ∧ w1.heap.size ≤ k) → k < w2.heap.size := fun k hk => hk.1
  have hrd3 := hrd2.keep (Kp.of_below hbel3 hF3)
  go_wp2_with fail
  refine (collect_any _ w2.heap.size (w2.heap.size + 1) b o d2.length c2 d2 _ (by omega) hc2 hl0 hrd3 (fun k hk => by have := hk.1; simp; omega) hbs.lt hbn.lt (hbs.cell 0) (hbn.cell 0)).mono ?_
  rintro e w4 ⟨v4, rfl, hown4, hbel4⟩
  obtain ⟨A4, c4, rfl, hc4, hm4⟩ := hown4.form
  have hrd4 := hown4.rd
  have hbelw4 := hbelw2.trans ((hbel3.trans (hbel4.mono hbel3.size)).mono hbelw2.size)
  have hbx4 := (hbx2.below hbel3 hbx2.lt).below hbel4 (by have := hbx2.lt; simp; omega)
  clear hb0 hbs hbn hbel3 hrd3 hbel4 hown4 hbx2 hbelw2
  have hz4 := hbx4.lt
  obtain ⟨m, hm⟩ : ∃ m, m = nChunks d2.length := ⟨_, rfl⟩
  rw [chunks_len, ← hm] at hrd4 hc4
  rw [chunks_len, ← hm]
  have hmb : m ≤ 200 := by rw [hm]; unfold nChunks; omega
  have hm' := hid hm
  clear hm
  unfold recCells at hbx4
  have b0 : w4.cell? ⟨w.heap.size, 0, none⟩ = some (.int .u64 (r.gen : Int)) := hbx4.cell 0
  have b1 : w4.cell? ⟨w.heap.size, 1, none⟩ = some (.int .u64 (r.seq : Int)) := hbx4.cell 1
  go_wp2_with fail
  go_loopw [5, 18] (fun v i wr => ∃ (j : Nat), i = .int .i64 (j : Int) ∧ j ≤ m ∧ OwnS w4.heap.size (fun _ => False) wr v (secTo r d2 j) ∧ Below w4.heap.size w4 wr) (fun _ i _ => m - (intOf i).toNat)
  case atStart => exact ⟨0, rfl, by omega, OwnS.nil_, Below.refl _ _⟩
  case round =>
    obtain ⟨j, rfl, hj, hown, hbel⟩ := hrel
    have hbx := hbx4.below hbel hz4
    have hzr := hbel.size
    by_cases hjm : j < m
    · have hch := chunks_get (bs := d2) (j := j) (by rw [← hm'.out]; exact hjm)
      obtain ⟨bb, oo, A5, c5, hA, hFb5, hcell, hlc, hlm, hrd5⟩ := (hrd4.keep (Kp.of_below hbel (fun k hk => hk.1))).at_ hch
      subst hA
      have hcl := hid (chunkAt_len' d2 j)
      have b0 : ∀ ob, (wr.alloc ob).cell? ⟨w.heap.size, 0, none⟩ = some (.int .u64 (r.gen : Int)) := fun ob => (hbx.alloc ob).cell 0
      have b1 : ∀ ob, (wr.alloc ob).cell? ⟨w.heap.size, 1, none⟩ = some (.int .u64 (r.seq : Int)) := fun ob => (hbx.alloc ob).cell 1
      have hr1 : RdB ((wr.alloc (.cells #[.int .u8 82] 5)).alloc (.cells #[.int .u64 (r.gen : Int), .int .u64 (r.seq : Int), .int .u64 (j : Int), .int .u64 (m : Int)] 22)) (fun k => k = wr.heap.size) (some ⟨wr.heap.size, 0, none⟩) 1 [82] :=
        RdB.keep (rdB_one wr 82 (by decide)) (fun k hk => Below.heap_alloc _ _ k (by rw [hk]; simp))
      have hblk := Blk.new (wr.alloc (.cells #[.int .u8 82] 5)) 22 #[.int .u64 (r.gen : Int), .int .u64 (r.seq : Int), .int .u64 (j : Int), .int .u64 (m : Int)]
      rw [show (wr.alloc (.cells #[.int .u8 82] 5)).heap.size = wr.heap.size + 1 by simp] at hblk
      have hbel5 : Below wr.heap.size wr ((wr.alloc (.cells #[.int .u8 82] 5)).alloc (.cells #[.int .u64 (r.gen : Int), .int .u64 (r.seq : Int), .int .u64 (j : Int), .int .u64 (m : Int)] 22)) := ((Below.refl _ _).alloc (Nat.le_refl _) _).alloc (by simp) _
      obtain ⟨A6, c6, rfl, hc6, hm6⟩ := hown.form
      rw [secTo_len] at hown hc6 ⊢
      have hownlt := hown.lt
      have hnx := hid (secTo_succ r d2 j)
      have eg := enc_len10 hgen
      have es := enc_len10 hseq
      have ej := enc_len10 (n := j) (by omega)
      have em := enc_len10 (n := m) (by omega)
      go_wp2_with fail
      refine (numbers_blk (fun k => k = wr.heap.size) _ 1 1 [82] (wr.heap.size + 1) 4 4 [r.gen, r.seq, j, m] wr.heap.size wr _ hblk rfl hr1 (by decide) (by decide) (by decide) (by intro n hn; simp at hn; rcases hn with rfl | rfl | rfl | rfl <;> omega) (fun k hk => by rw [hk]; simp; omega) hbel5 (by simp; omega)).mono ?_
      intro e w6 hret6
      obtain ⟨A7, c7, d7, rfl, hown7, hbel7, hc7, hm7, hd7⟩ := hret6.opened
      have hd7' := hid (show d7 = sectorH r.gen r.seq j m by rw [hd7.out]; simp [sectorH])
      have hl7 : d7.length ≤ 41 := by rw [hd7'.out]; exact sector_len (chunk := []) hgen hseq (by omega) (by omega)
      clear hret6 hr1 hblk hbel5
      go_wp2_with fail
      refine (appendBytes_any _ A7 _ c7 d7 _ A5 _ c5 (chunkAt d2 j) _ hown7.rd (hrd5.keep (Kp.of_below hbel7 (fun k hk => by have := hk.1; omega))) (by have := hcl.out; omega) (fun q hq => hq.1) (fun q hq => by have := hq.1; have := hbel7.size; omega)).mono ?_
      intro e w8 hret8
      obtain ⟨A8, c8, d8, rfl, hown8, hbel8, hc8, hm8, hd8⟩ := hret8.opened
      have hl8 : d8.length ≤ 1000 := by
        have h28 := hcl.out
        have := enc_len10 (n := (chunkAt d2 j).length) (by omega)
        rw [hd8.out, List.length_append, List.length_append]; omega
      clear hret8
      go_wp2_with fail
      refine (sealed_any w6.heap.size A8 _ c8 d8 _ hown8 (by omega) hbel8.size).mono ?_
      intro e w9 hret9
      obtain ⟨A9, c9, d9, rfl, hown9, hbel9, hc9, hm9, hd9⟩ := hret9.opened
      have hd9' := hid (show d9 = secAt r d2 j by rw [hd9.out, hd8.out, hd7'.out, secAt, ← hm'.out]; rfl)
      clear hret9
      have hbel10 : Below wr.heap.size wr w9 := (hbel7.trans (hbel8.mono hbel7.size)).trans (hbel9.mono hbel7.size)
      have hown10 := hown.below hbel10
      have hz10 := hbel10.size
      go_wp2_with (at_builtin; refine mk_stop ?_)
      refine wpList_apS rfl _ _ rfl w4.heap.size (fun _ => False) (.slice A6 j c6) (secTo r d2 j) rfl hown10 A9 _ c9 1 d9 rfl (hown9.rd.more (fun k hk => ⟨hk.1, .inr (by have := hk.2; have := hbel7.size; omega), fun e => by have := (hownlt _ e).2; have := hk.2; have := hbel7.size; omega⟩)) hc9 hm9 (by rw [secTo_len]; omega) (by omega) ?_
      intro v11 w11 hown11 hg11 hat11
      rw [hd9'.out, ← hnx.out] at hown11
      go_wp2
      go_roundw
      case rel => exact ⟨j + 1, by go_num, by omega, hown11, (hbel.trans (hbel10.mono hzr)).grown hg11 (by omega) (fun k hk => (hownlt k hk).1)⟩
      case measure => simp [intOf]; omega
    · have hjn : j = m := by omega
      subst hjn
      go_wp2
      go_ret2
      refine ⟨_, by rw [encE, hv.out]; rfl, ?_, hbelw4.trans (hbel.mono hbelw4.size)⟩
      have e1 : encP r = secTo r d2 j := by rw [encP, hv.out, if_pos rfl, sectors, ← hd2.out, ← hm'.out]
      rw [e1]
      exact hown.lower hbelw4.size

theorem encode_any (F : Nat → Prop) (r : Rec) (Aw : Option Addr) (nw cw : Nat) (Am : Option Addr) (nm cm : Nat) (An : Option Addr) (nn cn : Nat) (w : World) (h : RecIn w F r Aw nw cw Am nm cm An nn cn) (hF : ∀ k, F k → k < w.heap.size) :
    Calls Try.prog 18 #[.agg (recCells r Aw nw cw Am nm cm An nn cn)] w (EncPost w r) := by
  cases hv : r.vld with
  | false => exact encode_bad F r Aw nw cw Am nm cm An nn cn w h hF hv
  | true => exact encode_good F r Aw nw cw Am nm cm An nn cn w h hF hv

end Go.Proofs.Ytbcmpfdhpefdbaa
