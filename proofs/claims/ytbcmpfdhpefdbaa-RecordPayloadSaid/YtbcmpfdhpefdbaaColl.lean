/- slices.Chunk and slices.Collect at bytes: their contracts. -/
import Derived.Test.YtbcmpfdhpefdbaaChunk
set_option linter.unusedVariables false
set_option linter.unusedSimpArgs false
namespace Go.Proofs.Ytbcmpfdhpefdbaa
open Go.RowKit Go.Shelf
attribute [local irreducible] Go.Calls

set_option maxRecDepth 100000 in
theorem chunk_any (A : Option Addr) (len cap : Nat) (w : World) :
    Calls Try.prog 49 #[.slice A len cap, .int .i64 28] w fun e w' => e = .returned (.func (.func 77) #[] #[.pointer (some ⟨w.heap.size, 0, none⟩), .pointer (some ⟨w.heap.size + 1, 0, none⟩)]) ∧ w' = (w.alloc (.cells #[.slice A len cap] 25)).alloc (.cells #[.int .i64 28] 3) := by
  go_enter Try.func49, Try.ntmps49
  go_wp2
  go_ret
  exact ⟨rfl, rfl⟩

/-- the chunks of a payload -/
def chunks (bs : List UInt8) : List (List UInt8) := (List.range (nChunks bs.length)).map (chunkAt bs)

theorem chunks_len (bs : List UInt8) : (chunks bs).length = nChunks bs.length := by simp [chunks]
theorem chunks_get {bs : List UInt8} {j : Nat} (h : j < nChunks bs.length) : (chunks bs)[j]? = some (chunkAt bs j) := by simp [chunks, h]

theorem chunkAt_len' (p : List UInt8) (i : Nat) : (chunkAt p i).length = min 28 (p.length - 28 * i) := by simp [chunkAt]

theorem collect_any (F : Nat → Prop) (Bs Bn b off len cap : Nat) (bs : List UInt8) (w : World) (hl : bs.length ≤ 100000) (hcap : len ≤ cap) (h0 : 0 < len) (hr : RdB w F (some ⟨b, off, none⟩) len bs) (hF : ∀ k, F k → k < w.heap.size) (hBs0 : Bs < w.heap.size) (hBn0 : Bn < w.heap.size)
    (hBs : w.cell? ⟨Bs, 0, none⟩ = some (.slice (some ⟨b, off, none⟩) len cap)) (hBn : w.cell? ⟨Bn, 0, none⟩ = some (.int .i64 28)) :
    Calls Try.prog 48 #[.func (.func 77) #[] #[.pointer (some ⟨Bs, 0, none⟩), .pointer (some ⟨Bn, 0, none⟩)]] w fun e w' => ∃ v, e = .returned v ∧ OwnS w.heap.size F w' v (chunks bs) ∧ Below w.heap.size w w' := by
  have hlen := hr.1
  have hm : 28 * nChunks len < len + 28 ∧ len ≤ 28 * nChunks len := by unfold nChunks; omega
  have hlen' := hid hlen
  clear hlen
  go_enter Try.func48, Try.ntmps48
  go_wp2_with fail
  refine (callsIn_wide (n := 3)).1 ((appendSeq_in _ 3 trivial trivial rfl (by omega) Bs Bn b off len cap (nChunks len) (by rw [hlen'.out]; exact hl) hcap hm w hBs0 hBn0 hBs hBn).mono ?_)
  rintro e w1 ⟨v, rfl, hrow, hbel⟩
  go_wp2
  go_ret
  refine ⟨v, rfl, ?_, hbel⟩
  have hlt := World.ownsRow.lt hrow
  refine ⟨_, by rw [chunks_len, ← hlen'.out]; exact hrow, by simp [chunks_len, upto_length, ← hlen'.out], fun j s hs => ?_⟩
  have hj : j < nChunks bs.length := by
    rw [← chunks_len]; exact (List.getElem?_eq_some_iff.1 hs).1
  rw [chunks_get hj] at hs
  injection hs with hs
  subst hs
  have hj' : 28 * j < len := by rw [hlen'.out]; unfold nChunks at hj; omega
  have hcl := chunkAt_len' bs j
  rw [← hlen'.out] at hcl
  have h1 := (hr.cut (n := 28 * j) (c := cap) (by omega) hcap).take_ (n := (chunkAt bs j).length) (by omega)
  unfold cutA at h1
  rw [if_neg (by omega)] at h1
  simp only [Option.map_some, addr_add, Nat.mul_one] at h1
  have e1 : (bs.drop (28 * j)).take (chunkAt bs j).length = chunkAt bs j := by
    rw [hcl, chunkAt]
    rw [Nat.min_def]
    split
    · rfl
    · rw [List.take_of_length_le (by rw [List.length_drop, ← hlen'.out]; omega), List.take_of_length_le (by rw [List.length_drop, ← hlen'.out]; omega)]
  rw [e1] at h1
  refine ⟨some ⟨b, off + 28 * j, none⟩, (chunkAt bs j).length, ?_, Nat.le_refl _, by simp only [maxLen]; omega, (h1.keep (Kp.of_below hbel hF)).more (fun k hk => ⟨by have := hF k hk; have := hbel.size; omega, .inl hk, fun e => by have := (hlt k e).1; have := hF k hk; omega⟩)⟩
  rw [hlen'.out] at hcl ⊢
  simp [upto, hj, chE, chV, hcl]

end Go.Proofs.Ytbcmpfdhpefdbaa
