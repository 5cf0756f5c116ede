/- slices.Chunk at bytes, and slices.Collect of it. -/
import Derived.Test.YtbcmpfdhpefdbaaSS
import Derived.RangeFuncNested
import Derived.RangeFuncBound
import Derived.RangeFuncCalls
import Derived.RangeFuncBox
import Derived.RangeFuncLeaves
import Derived.Shelf.Abstract
import Derived.Shelf.RegionOpen
import Derived.OwnWalkIn
import Derived.TacticsInMore
import Derived.LoopNIn
import Derived.LoopIn
import Derived.Sort.CutIn
set_option linter.unusedVariables false
set_option linter.unusedSimpArgs false
namespace Go.Proofs.Ytbcmpfdhpefdbaa
open Go.RowKit Go.Shelf
attribute [local go_sem] Oper.semAt_some

/-- what has come when k rounds are over -/
def upto {α : Type} (f : Nat → α) (k : Nat) : List α := (List.range k).map f
theorem upto_succ {α : Type} (f : Nat → α) (k : Nat) : upto f (k + 1) = upto f k ++ [f k] := by simp [upto, List.range_succ]
theorem upto_length {α : Type} (f : Nat → α) (k : Nat) : (upto f k).length = k := by simp [upto]
/-- chunk number k of len bytes at off: its place and its length -/
def chV (off len k : Nat) : Nat × Nat := (off + 28 * k, min 28 (len - 28 * k))
def chE (b : Nat) (x : Nat × Nat) : Value := .slice (some ⟨b, x.1, none⟩) x.2 x.2

set_option maxRecDepth 100000 in
set_option maxHeartbeats 2000000 in
theorem chunk1_in (F : Fence) (n : Nat) (h7 : F.fn 77) (hro : F.round = none) (hn : 1 ≤ n) (l Bs Bn n₀ b off len cap m : Nat) (hreach : len ≤ 100000) (hcap : len ≤ cap) (hm : 28 * m < len + 28 ∧ len ≤ 28 * m) (hBs0 : Bs < n₀) (hBn0 : Bn < n₀) (J Jx : List (Nat × Nat) → World → Prop) (W : World) (hJ : AbidesFrom W.heap.size J)
    (hY : ∀ pre x W, J pre W → pre.length < m → YieldAt F (n - 1) Try.prog l #[chE b x] W fun e W' =>
      (e = .returned (.bool true) ∧ J (pre ++ [x]) W' ∧ Below n₀ W W') ∨ (e = .returned (.bool false) ∧ Jx (pre ++ [x]) W'))
    (hBs : W.cell? ⟨Bs, 0, none⟩ = some (.slice (some ⟨b, off, none⟩) len cap)) (hBn : W.cell? ⟨Bn, 0, none⟩ = some (.int .i64 28)) (h0 : J [] W) :
    CallsIn F n Try.prog 77 #[.func (.yield l) #[] #[], .pointer (some ⟨Bs, 0, none⟩), .pointer (some ⟨Bn, 0, none⟩)] W fun e W' => (∃ v, e = .returned v) ∧
      ((∃ ys, ys = upto (chV off len) m ∧ J ys W') ∨ (∃ pre, (∃ k, k ≤ m ∧ pre = upto (chV off len) k) ∧ Jx pre W')) := by
  refine callsIn_of_wp Try.func77 rfl h7 ?_ hro
  simp only [Try.ntmps77, List.size_toArray, List.length_cons, List.length_nil, Nat.reduceAdd, Nat.reduceSub, Array.replicate_succ, Array.replicate_zero, List.push_toArray, List.append_toArray, List.nil_append, List.cons_append]
  gi_wp2
  gi_loopw [4] (fun i wr => ∃ k q : Nat, k ≤ m ∧ q = 28 * k ∧ i = .int .i64 (q : Int) ∧ J (upto (chV off len) k) wr ∧ Below n₀ W wr)
    (fun i _ => 28 * m - (intOf i).toNat)
  case atStart => exact ⟨0, 0, Nat.zero_le _, rfl, rfl, h0, Below.refl _ _⟩
  case round =>
    obtain ⟨k, q, hk, hq, rfl, hJs, hnx⟩ := hrel
    have hs1 := (hnx.cell (p := ⟨Bs, 0, none⟩) hBs0).trans hBs
    have hn1 := (hnx.cell (p := ⟨Bn, 0, none⟩) hBn0).trans hBn
    by_cases hlt : k < m
    · have hqlt : q < len := by omega
      have hi1 : (q : Int) ≤ (len : Int) := by omega
      have hi2 : q ≤ len := by omega
      have hcq : ¬ cap = q := by omega
      have hwl : IntKind.i64.wrap ((len - q : Nat) : Int) = ((len - q : Nat) : Int) := by rw [IntKind.wrap_i64]; omega
      obtain ⟨e, he⟩ : ∃ e, e = min 28 (len - q) := ⟨_, rfl⟩
      have he' := hid he
      have hq' := hid hq
      have h10 : 0 < e := by omega
      have h11 : q + e ≤ len := by omega
      have h12 : e ≤ 28 := by omega
      clear hq he
      gi_wp2
      gi_cut [5] from 13 (fun v wr' => v = .int .i64 (e : Int) ∧ wr' = wr.drew)
      case first =>
        gi_region
        all_goals gi_wp2
        all_goals (gi_meet; exact ⟨by have := he'.out; congr 1; omega, rfl⟩)
      obtain ⟨rfl, rfl⟩ := hcut
      have hJd := hJ _ wr wr.drew none hJs (only_drew (only_refl _ _)) (fun r e => by cases e)
      obtain ⟨fn, tmps, assign, body, hy, hR⟩ := hY _ (chV off len k) wr.drew hJd (by rw [upto_length]; exact hlt)
      unfold chV chE at hy
      dsimp only at hy
      rw [← hq'.out, ← he'.out] at hy
      obtain ⟨qe, hqe⟩ : ∃ qe, qe = q + e := ⟨_, rfl⟩
      have g1 : (q : Int) + (e : Int) = (qe : Int) := by omega
      have g2 : qe - q = e := by omega
      have g3 : q ≤ qe := by omega
      have g4 : qe ≤ cap := by omega
      have g5 : ¬ qe = q := by omega
      have g6 : IntKind.i64.wrap (qe : Int) = (qe : Int) := by rw [IntKind.wrap_i64]; omega
      have hqe' := hid hqe
      clear hqe
      gi_wp2
      refine hR.mono ?_
      rintro e3 W3 (⟨rfl, hJ3, hk3⟩ | ⟨rfl, hJx3⟩)
      · have hnx3 := (hnx.drew).trans hk3
        have hn3 := (hnx3.cell (p := ⟨Bn, 0, none⟩) hBn0).trans hBn
        obtain ⟨q2, hq2⟩ : ∃ q2, q2 = q + 28 := ⟨_, rfl⟩
        have g7 : (q : Int) + 28 = (q2 : Int) := by omega
        have g8 : IntKind.i64.wrap (q2 : Int) = (q2 : Int) := by rw [IntKind.wrap_i64]; omega
        have hq2' := hid hq2
        clear hq2
        gi_wp2
        go_roundw
        case rel => exact ⟨k + 1, q2, by omega, by have := hq2'.out; have := hq'.out; omega, rfl, by rw [upto_succ]; exact hJ3, hnx3⟩
        case measure => have := hq2'.out; have := hq'.out; simp [intOf]; omega
      · gi_wp2
        refine bodyPost_ret (results_none rfl _ _ _) rfl ?_
        exact ⟨⟨_, rfl⟩, .inr ⟨_, ⟨k + 1, by omega, (upto_succ _ _).symm⟩, hJx3⟩⟩
    · obtain rfl : k = m := by omega
      have hqn : ¬ q < len := by omega
      have hq' := hid hq
      clear hq
      gi_wp2
      go_end0
      exact ⟨⟨_, rfl⟩, .inl ⟨_, rfl, hJs⟩⟩
theorem chunk_stops (F : Fence) (n : Nat) (h7 : F.fn 77) (hro : F.round = none) (hn : 1 ≤ n) (Bs Bn b off len cap m : Nat) (hreach : len ≤ 100000) (hcap : len ≤ cap) (hm : 28 * m < len + 28 ∧ len ≤ 28 * m) (n₀ : Nat) (w : World) (hBs0 : Bs < n₀) (hBn0 : Bn < n₀) (hn₀ : n₀ ≤ w.heap.size)
    (hBs : w.cell? ⟨Bs, 0, none⟩ = some (.slice (some ⟨b, off, none⟩) len cap)) (hBn : w.cell? ⟨Bn, 0, none⟩ = some (.int .i64 28)) :
    SeqStopsK F n Try.prog 77 #[.pointer (some ⟨Bs, 0, none⟩), .pointer (some ⟨Bn, 0, none⟩)] (fun x : Nat × Nat => #[chE b x]) (Below n₀) (fun ys => ys = upto (chV off len) m) (fun pre => ∃ k, k ≤ m ∧ pre = upto (chV off len) k) m w := fun l J Jx W hW hJ _ hY h0 =>
  chunk1_in F n h7 hro hn l Bs Bn n₀ b off len cap m hreach hcap hm hBs0 hBn0 J Jx W hJ hY ((hW.cell (p := ⟨Bs, 0, none⟩) (by simp only; omega)).trans hBs) ((hW.cell (p := ⟨Bn, 0, none⟩) (by simp only; omega)).trans hBn) h0

set_option maxRecDepth 100000 in
set_option maxHeartbeats 2000000 in
theorem appendSeq_in (F : Fence) (n : Nat) (h3 : F.fn 76) (h7 : F.fn 77) (hro : F.round = none) (hn : 3 ≤ n) (Bs Bn b off len cap m : Nat) (hreach : len ≤ 100000) (hcap : len ≤ cap) (hm : 28 * m < len + 28 ∧ len ≤ 28 * m) (w : World) (hBs0 : Bs < w.heap.size) (hBn0 : Bn < w.heap.size)
    (hBs : w.cell? ⟨Bs, 0, none⟩ = some (.slice (some ⟨b, off, none⟩) len cap)) (hBn : w.cell? ⟨Bn, 0, none⟩ = some (.int .i64 28)) :
    CallsIn F n Try.prog 76 #[.slice none 0 0, .func (.func 77) #[] #[.pointer (some ⟨Bs, 0, none⟩), .pointer (some ⟨Bn, 0, none⟩)]] w fun e W' => ∃ v, e = .returned v ∧ W'.ownsRow w.heap.size 25 1 v m ((upto (chV off len) m).map (chE b)) ∧ Below w.heap.size w W' := by
  have h1 : 1 ≤ n := by omega
  obtain ⟨i0, hi, hz0, hz1, hz2⟩ := info_parts info_s8
  refine callsIn_of_wp_marks Try.func76 rfl h3 ?_ hro
  simp only [Try.ntmps76, List.size_toArray, List.length_cons, List.length_nil, Nat.reduceAdd, Nat.reduceSub, Array.replicate_succ, Array.replicate_zero, List.push_toArray, List.append_toArray, List.nil_append, List.cons_append]
  gi_wp2
  have bO := Boxed.new w 30 (.slice none 0 0)
  have hB0 : Below w.heap.size w (w.alloc (.cells #[.slice none 0 0] 30)) := (Below.refl _ w).alloc (Nat.le_refl _) _
  refine wpIn_rangeFunc_ownG hro h1 (gf := 77) (lb := #[.pointer (some ⟨Bs, 0, none⟩), .pointer (some ⟨Bn, 0, none⟩)]) rfl h7 (enters_of Try.func77 (by kernel_rfl) rfl)
    (chunk_stops F (n - 1) h7 hro (by omega) Bs Bn b off len cap m hreach hcap hm w.heap.size _ hBs0 hBn0 (by simp) ((hB0.cell (p := ⟨Bs, 0, none⟩) hBs0).trans hBs) ((hB0.cell (p := ⟨Bn, 0, none⟩) hBn0).trans hBn)) belowK_t (belowK_b (by simp)) (Below.refl _ _) (fun _ => rfl)
    (fun (pre : List (Nat × Nat)) W => (∃ v, Boxed W w.heap.size 30 v ∧ W.ownsRow w.heap.size 25 1 v pre.length (pre.map (chE b)) ∧ True) ∧ Below w.heap.size w W)
    (fun _ _ _ => False)
    (OwnFrom.and (Own.from (holdsRow_own w.heap.size w.heap.size 30 25 1 (fun pre : List (Nat × Nat) => pre.length) (fun pre => pre.map (chE b)) (fun _ _ => True)) _) (ownFrom_below (Nat.le_refl _) (by simp)))
    (fun _ _ _ _ _ hs _ _ => hs)
    ⟨⟨_, bO, World.ownsRow_nil _ _ _ _, trivial⟩, hB0⟩
    (fun x : Nat × Nat => { tmps := #[.slice none 0 0, .func (.func 77) #[] #[.pointer (some ⟨Bs, 0, none⟩), .pointer (some ⟨Bn, 0, none⟩)], .pointer (some ⟨w.heap.size, 0, none⟩), undef, .slice none 0 0, .slice (some ⟨b, x.1, none⟩) x.2 x.2, .func (.func 77) #[] #[.pointer (some ⟨Bs, 0, none⟩), .pointer (some ⟨Bn, 0, none⟩)], .slice (some ⟨b, x.1, none⟩) x.2 x.2, undef, undef, undef, undef, undef], defers := [] }) ?assign ?body ?done ?stop
  case assign =>
    intro l x W K hK
    gi_wp2
    exact hK
  case body =>
    rintro l pre x W ⟨⟨v, hv, hrow, _⟩, hB⟩ hlt
    have hc := hv.cell
    gi_wp2_with (gi_at_builtin; refine wpListIn_append_own _ rfl _ _ 30 rfl w.heap.size 25 i0 (.slice none 0 0) 1 24 Try.underlying30 hi hz0 hz1 hz2 rfl (by decide) _ _ _ rfl (hrow.alloc _) ⟨W.heap.size, 0, none⟩ 1 1 [.slice (some ⟨b, x.1, none⟩) x.2 x.2] rfl rfl (cell_one_new _ _ _) (by simp [Value.oneCell']) (by simp only [maxLen]; omega) (by omega) (by have := hB.size; simp; omega) ?_; intro v' w1 hown' hgrow _; obtain ⟨g', cap', rfl⟩ := ownsRow_succ hown'; obtain ⟨hv1, hv2, hr2, hk2, hb2⟩ := hv.appended (by decide) hrow hB.size (Nat.le_refl _) hown' hgrow; have hc1 := hv1.cell; have hf1 := hv1.frozen)
    exact ⟨hk2.from _, hb2, ⟨_, hv2, by simpa [chE] using hr2, trivial⟩, hB.trans hb2⟩
  case done =>
    rintro D ys W hD rfl ⟨⟨v, hv, hrow, _⟩, hB⟩ hK
    have hc := hv.cell
    gi_wp2
    refine ⟨by simp, .inl ⟨_, _, rfl, run_takeDeferred hK, ?_⟩⟩
    exact ⟨_, results_tmp rfl _ _ _, v, rfl, by rw [upto_length] at hrow; exact ownsRow_putObj hrow _ hK rfl, hB.trans (belowK_b (w := w) (Nat.le_refl _) W D _ _ (by simp at hD; omega) hK rfl rfl)⟩
  case stop =>
    rintro D c pre W _ _ h _
    exact h.elim

end Go.Proofs.Ytbcmpfdhpefdbaa
