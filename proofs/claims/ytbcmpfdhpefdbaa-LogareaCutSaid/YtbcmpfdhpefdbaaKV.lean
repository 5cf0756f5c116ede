/- Arguments as the statements give them, opened: byte strings, lists of them, records. Lists of records, and lists of such lists, as the statements give them, opened. Helpers for the laws' last steps. -/
import Derived.Test.YtbcmpfdhpefdbaaProg
import Derived.Test.YtbcmpfdhpefdbaaKF
import Derived.OpenShut
import Derived.Deep.Slices
import Derived.Deep.Fields
import Derived.Lib.SmallJoins
import Derived.ProofKit
import Derived.Test.YtbcmpfdhpefdbaaKX
import Derived.Test.YtbcmpfdhpefdbaaRows
import Derived.Below
import Derived.ChangeSame
set_option linter.unusedVariables false
set_option linter.unusedSimpArgs false
namespace Go.Proofs.Ytbcmpfdhpefdbaa
open Go.RowKit Go.ChangeShapes Go.WideShapes Go.Deep

section
variable {H : Type} {enc_ : TypeId × Value → H} {w : World} {sp : Nat → Bool} {fuel : Nat} {x : DataW H × List MemPlace}

theorem cell_some {a : Addr} {v : Value} (h : w.cell? a = some v) : ∃ b o, a = ⟨b, o, none⟩ ∧ b < w.heap.size := by
  have hb := World.block_lt_of_cell? w _ h
  obtain ⟨b, o, s⟩ := a
  refine ⟨b, o, ?_, hb⟩
  cases s with
  | none => rfl
  | some s =>
    exfalso
    unfold World.cell? at h
    split at h
    · simp at h
    · cases h

theorem wf_u8 {z : Int} (h : (Lit.int .u8 z).wf = true) : 0 ≤ z ∧ z < 256 := by
  simp [Lit.wf, IntKind.min, IntKind.max, IntKind.signed, IntKind.bits] at h
  omega
theorem wf_u16 {z : Int} (h : (Lit.int .u16 z).wf = true) : 0 ≤ z ∧ z < 65536 := by
  simp [Lit.wf, IntKind.min, IntKind.max, IntKind.signed, IntKind.bits] at h
  omega
theorem wf_u64 {z : Int} (h : (Lit.int .u64 z).wf = true) : 0 ≤ z ∧ z < 18446744073709551616 := by
  simp [Lit.wf, IntKind.min, IntKind.max, IntKind.signed, IntKind.bits] at h
  omega
theorem wf_i64 {z : Int} (h : (Lit.int .i64 z).wf = true) : I64 z := by
  simp [Lit.wf, IntKind.min, IntKind.max, IntKind.signed, IntKind.bits] at h
  exact ⟨by omega, by omega⟩
theorem B_of {z : Int} (h : (Lit.int .u8 z).wf = true) : B (UInt8.ofNat z.toNat) = .int .u8 z := by
  obtain ⟨h0, h1⟩ := wf_u8 h
  unfold B
  congr 1
  simp
  omega

theorem open_bytes {cs : List Value} (h : DataW.trod enc_ Try.prog w 0 sp true fuel 25 cs = some x) :
    ∃ (A : Option Addr) (n c : Nat) (bs : List UInt8), cs = [.slice A n c] ∧ n ≤ c ∧ c ≤ maxLen ∧ RdB w (fun k => k < w.heap.size) A n bs := by
  rcases open_ints Try.underlying25 Try.underlying5 (by kernel_rfl) h with ⟨rfl, _⟩ | ⟨a, len, cap, zs, rfl, _, hl, hm, hz, _, hcell, hw⟩
  · exact ⟨none, 0, 0, [], rfl, Nat.le_refl _, Nat.zero_le _, rfl, Rd.none_⟩
  · have hlz : len ≤ zs.length := by rw [hz]; split <;> omega
    refine ⟨some a, len, cap, (zs.take len).map (fun z => UInt8.ofNat z.toNat), rfl, hl, hm, by simp; omega, by simp; omega, fun hn => ?_⟩
    have h0 := hcell 0 (by omega)
    rw [add_zero'] at h0
    obtain ⟨b, o, rfl, hb⟩ := cell_some h0
    refine ⟨b, o, rfl, hb, fun j u hu => ?_⟩
    rw [List.getElem?_map, List.getElem?_map, List.getElem?_take] at hu
    split at hu
    · rename_i hj
      have hc := hcell j (by omega)
      rw [addr_add] at hc
      have hg : zs[j]? = some (zs[j]'(by omega)) := List.getElem?_eq_getElem _
      rw [hg] at hu
      simp only [Option.map_some, Option.some.injEq] at hu
      rw [hc, ← hu, B_of (hw _ (List.getElem_mem _))]
      simp [List.getD, hg]
    · cases hu

theorem open_strs_ {cs : List Value} (h : DataW.trod enc_ Try.prog w 0 sp true fuel 30 cs = some x) :
    ∃ (A : Option Addr) (n c : Nat) (ss : List (List UInt8)), cs = [.slice A n c] ∧ n ≤ c ∧ c ≤ maxLen ∧ RdS w (fun k => k < w.heap.size) A n ss := by
  rcases open_slice1 Try.underlying30 (by kernel_rfl) h with ⟨rfl, _⟩ | ⟨a, len, cap, m, n, V, D, Pl, rfl, _, hl, hm, hmm, _, hx⟩
  · exact ⟨none, 0, 0, [], rfl, Nat.le_refl _, Nat.zero_le _, rfl, [], Rd.none_, rfl, fun j s hs => by simp at hs⟩
  · have hlm : len ≤ m := by rw [hmm]; split <;> omega
    obtain ⟨f, hf⟩ := choose_lt (n := len) (α := Option Addr × Nat × List UInt8) (p := fun i y => V i = .slice y.1 y.2.2.length y.2.1 ∧ y.2.2.length ≤ y.2.1 ∧ y.2.1 ≤ maxLen ∧ RdB w (fun k => k < w.heap.size) y.1 y.2.2.length y.2.2) (fun i hi => by
      obtain ⟨A, k, c, bs, e, h1, h2, h3⟩ := open_bytes (hx i (by omega)).2
      injection e with e
      have := h3.1
      subst this
      exact ⟨⟨A, c, bs⟩, e, h1, h2, h3⟩)
    refine ⟨some a, len, cap, (List.range len).map (fun i => (f i).2.2), rfl, hl, hm, by simp, (List.range len).map V, ⟨by simp, fun hn => ?_⟩, by simp, fun j s hs => ?_⟩
    · have h0 := (hx 0 (by omega)).1
      rw [add_zero'] at h0
      obtain ⟨b, o, rfl, hb⟩ := cell_some h0
      refine ⟨b, o, rfl, hb, fun j u hu => ?_⟩
      have hj : j < len := by
        have := (List.getElem?_eq_some_iff.1 hu).1
        simpa using this
      have hc := (hx j (by omega)).1
      rw [addr_add] at hc
      rw [hc, ← hu]
      simp [hj]
    · have hj : j < len := by
        have := (List.getElem?_eq_some_iff.1 hs).1
        simpa using this
      have hs' : s = (f j).2.2 := by
        have : ((List.range len).map (fun i => (f i).2.2))[j]? = some ((f j).2.2) := by simp [hj]
        rw [this] at hs
        injection hs with hs
        exact hs.symm
      subst hs'
      obtain ⟨e1, e2, e3, e4⟩ := hf j hj
      exact ⟨(f j).1, (f j).2.1, by simp [hj, e1], e2, e3, e4⟩

theorem list_8 {α : Type} {l : List α} (h : l.length = 8) : ∃ c0 c1 c2 c3 c4 c5 c6 c7, l = [c0, c1, c2, c3, c4, c5, c6, c7] := by
  match l, h with
  | [c0, c1, c2, c3, c4, c5, c6, c7], _ => exact ⟨c0, c1, c2, c3, c4, c5, c6, c7, rfl⟩
theorem list_11 {α : Type} {l : List α} (h : l.length = 11) : ∃ c0 c1 c2 c3 c4 c5 c6 c7 c8 c9 c10, l = [c0, c1, c2, c3, c4, c5, c6, c7, c8, c9, c10] := by
  match l, h with
  | [c0, c1, c2, c3, c4, c5, c6, c7, c8, c9, c10], _ => exact ⟨c0, c1, c2, c3, c4, c5, c6, c7, c8, c9, c10, rfl⟩
theorem list_4 {α : Type} {l : List α} (h : l.length = 4) : ∃ c0 c1 c2 c3, l = [c0, c1, c2, c3] := by
  match l, h with
  | [c0, c1, c2, c3], _ => exact ⟨c0, c1, c2, c3, rfl⟩
theorem list_5 {α : Type} {l : List α} (h : l.length = 5) : ∃ c0 c1 c2 c3 c4, l = [c0, c1, c2, c3, c4] := by
  match l, h with
  | [c0, c1, c2, c3, c4], _ => exact ⟨c0, c1, c2, c3, c4, rfl⟩
theorem open_u8 {n : Nat} {cs : List Value} (h : DataW.trod enc_ Try.prog w 0 sp true n 5 cs = some x) : ∃ b, cs = [B b] := by
  obtain ⟨z, rfl, _, hw⟩ := DataW.trod_int Try.underlying5 h
  exact ⟨_, by rw [B_of hw]⟩
theorem open_b8 {n : Nat} {cs : List Value} (h : DataW.trod enc_ Try.prog w 0 sp true n 75 cs = some x) : ∃ b : B8, cs = b.cells.toList := by
  obtain ⟨xs, m, _, _, hl, hlen, hf⟩ := DataW.trod_array Try.underlying75 h
  have hc : Try.prog.cellsOf 75 = 8 := by kernel_rfl
  have hc1 : Try.prog.cellsOf 5 = 1 := by kernel_rfl
  rw [hc] at hl
  have get : ∀ i (hi : i < 8), ∃ b, (cs.drop i).take 1 = [B b] := fun i hi => by
    have := hf i hi
    rw [hc1, Nat.mul_one, List.getElem?_eq_getElem (by omega)] at this
    exact open_u8 this
  obtain ⟨c0, c1, c2, c3, c4, c5, c6, c7, rfl⟩ := list_8 hl
  · clear hf
    obtain ⟨b0, e0⟩ := get 0 (by decide)
    obtain ⟨b1, e1⟩ := get 1 (by decide)
    obtain ⟨b2, e2⟩ := get 2 (by decide)
    obtain ⟨b3, e3⟩ := get 3 (by decide)
    obtain ⟨b4, e4⟩ := get 4 (by decide)
    obtain ⟨b5, e5⟩ := get 5 (by decide)
    obtain ⟨b6, e6⟩ := get 6 (by decide)
    obtain ⟨b7, e7⟩ := get 7 (by decide)
    simp at e0 e1 e2 e3 e4 e5 e6 e7
    exact ⟨⟨b0, b1, b2, b3, b4, b5, b6, b7⟩, by simp [B8.cells, e0, e1, e2, e3, e4, e5, e6, e7]⟩
theorem open_i64 {n : Nat} {cs : List Value} (h : DataW.trod enc_ Try.prog w 0 sp true n 3 cs = some x) : ∃ z, cs = [.int .i64 z] ∧ I64 z := by
  obtain ⟨z, rfl, _, hw⟩ := DataW.trod_int Try.underlying3 h
  exact ⟨z, rfl, wf_i64 hw⟩
theorem open_u64 {n : Nat} {cs : List Value} (h : DataW.trod enc_ Try.prog w 0 sp true n 22 cs = some x) : ∃ z : Nat, cs = [.int .u64 (z : Int)] ∧ U64 z := by
  obtain ⟨z, rfl, _, hw⟩ := DataW.trod_int Try.underlying22 h
  obtain ⟨h0, h1⟩ := wf_u64 hw
  exact ⟨z.toNat, by rw [show ((z.toNat : Nat) : Int) = z from by omega], by unfold U64; omega⟩

theorem open_pw {n : Nat} {cs : List Value} (h : DataW.trod enc_ Try.prog w 0 sp true n 77 cs = some x) : ∃ p : PW, cs = p.cells ∧ p.Ok := by
  obtain ⟨xs, m, _, _, hl, hlen, hf⟩ := DataW.trod_struct Try.underlying77 h
  have hc : Try.prog.cellsOf 77 = 11 := by kernel_rfl
  have hci : Try.prog.cellsOf 3 = 1 := by kernel_rfl
  have hcu : Try.prog.cellsOf 22 = 1 := by kernel_rfl
  have hcb : Try.prog.cellsOf 75 = 8 := by kernel_rfl
  rw [hc] at hl
  have h0 : DataW.trod enc_ Try.prog w 0 sp true m 3 ((cs.drop 0).take (Try.prog.cellsOf 3)) = xs[0]? := hf 0 _ rfl
  have h1 : DataW.trod enc_ Try.prog w 0 sp true m 3 ((cs.drop 1).take (Try.prog.cellsOf 3)) = xs[1]? := hf 1 _ rfl
  have h2 : DataW.trod enc_ Try.prog w 0 sp true m 22 ((cs.drop 2).take (Try.prog.cellsOf 22)) = xs[2]? := hf 2 _ rfl
  have h3 : DataW.trod enc_ Try.prog w 0 sp true m 75 ((cs.drop 3).take (Try.prog.cellsOf 75)) = xs[3]? := hf 3 _ rfl
  have hlen' : xs.length = 4 := hlen
  rw [List.getElem?_eq_getElem (by omega)] at h0 h1 h2 h3
  simp only [hci, hcu, hcb] at h0 h1 h2 h3
  obtain ⟨g, e0, o0⟩ := open_i64 h0
  obtain ⟨pc, e1, o1⟩ := open_i64 h1
  obtain ⟨v, e2, o2⟩ := open_u64 h2
  obtain ⟨b, e3⟩ := open_b8 h3
  obtain ⟨c0, c1, c2, c3, c4, c5, c6, c7, c8, c9, c10, rfl⟩ := list_11 hl
  · clear hf
    simp [B8.cells] at e0 e1 e2 e3
    exact ⟨⟨g, pc, v, b⟩, by simp [PW.cells, e0, e1, e2, e3], o0, o1, o2⟩

theorem open_mv {n : Nat} {cs : List Value} (h : DataW.trod enc_ Try.prog w 0 sp true n 82 cs = some x) : ∃ p : MV, cs = p.cells ∧ p.Ok := by
  obtain ⟨xs, m, _, _, hl, hlen, hf⟩ := DataW.trod_struct Try.underlying82 h
  have hc : Try.prog.cellsOf 82 = 4 := by kernel_rfl
  have hci : Try.prog.cellsOf 3 = 1 := by kernel_rfl
  have hcb : Try.prog.cellsOf 80 = 2 := by kernel_rfl
  rw [hc] at hl
  have h0 : DataW.trod enc_ Try.prog w 0 sp true m 3 ((cs.drop 0).take (Try.prog.cellsOf 3)) = xs[0]? := hf 0 _ rfl
  have h1 : DataW.trod enc_ Try.prog w 0 sp true m 3 ((cs.drop 1).take (Try.prog.cellsOf 3)) = xs[1]? := hf 1 _ rfl
  have h2 : DataW.trod enc_ Try.prog w 0 sp true m 80 ((cs.drop 2).take (Try.prog.cellsOf 80)) = xs[2]? := hf 2 _ rfl
  have hlen' : xs.length = 3 := hlen
  rw [List.getElem?_eq_getElem (by omega)] at h0 h1 h2
  simp only [hci, hcb] at h0 h1 h2
  obtain ⟨g, e0, o0⟩ := open_i64 h0
  obtain ⟨pc, e1, o1⟩ := open_i64 h1
  obtain ⟨ys, m', _, _, hl2, hlen2, hf2⟩ := DataW.trod_struct Try.underlying80 h2
  have k0 : DataW.trod enc_ Try.prog w 0 sp true m' 3 ((((cs.drop 2).take 2).drop 0).take (Try.prog.cellsOf 3)) = ys[0]? := hf2 0 _ rfl
  have k1 : DataW.trod enc_ Try.prog w 0 sp true m' 3 ((((cs.drop 2).take 2).drop 1).take (Try.prog.cellsOf 3)) = ys[1]? := hf2 1 _ rfl
  have hlen2' : ys.length = 2 := hlen2
  rw [List.getElem?_eq_getElem (by omega)] at k0 k1
  simp only [hci] at k0 k1
  obtain ⟨d, e2, o2⟩ := open_i64 k0
  obtain ⟨b, e3, o3⟩ := open_i64 k1
  obtain ⟨c0, c1, c2, c3, rfl⟩ := list_4 hl
  · clear hf
    simp at e0 e1 e2 e3
    exact ⟨⟨g, pc, d, b⟩, by simp [MV.cells, e0, e1, e2, e3], o0, o1, o2, o3⟩

/-- rows of elements of some cells each -/
theorem open_rows {α : Type} [Inhabited α] {t e : TypeId} {k : Nat} (f : α → List Value) (ok : α → Prop) {cs : List Value} (hk : 0 < k) (ht : Try.prog.underlying t = some (.slice e)) (hc : Try.prog.cellsOf e = k)
    (hel : ∀ (n : Nat) (cs : List Value) (y : DataW H × List MemPlace), DataW.trod enc_ Try.prog w 0 sp true n e cs = some y → ∃ p, cs = f p ∧ ok p) (hlf : ∀ p, (f p).length = k)
    (h : DataW.trod enc_ Try.prog w 0 sp true fuel t cs = some x) :
    ∃ (A : Option Addr) (n c : Nat) (ps : List α), cs = [.slice A n c] ∧ n ≤ c ∧ c ≤ maxLen ∧ n = ps.length ∧ Rd w (fun k => k < w.heap.size) k A n (ps.flatMap f) ∧ ∀ p ∈ ps, ok p := by
  rcases DataW.trod_slice ht h with ⟨rfl, _⟩ | ⟨a, len, cap, elems, rest, n, _, rfl, _, _, hl, hm, hlen, hx, _⟩
  · exact ⟨none, 0, 0, [], rfl, Nat.le_refl _, Nat.zero_le _, rfl, Rd.none_, fun p hp => by simp at hp⟩
  · obtain ⟨g, hg⟩ := choose_lt (n := len) (α := α) (p := fun i p => ok p ∧ ∀ j v, (f p)[j]? = some v → w.cell? (a.add (i * k + j)) = some v) (fun i hi => by
      have h1 := hx i hi
      rw [List.getElem?_eq_getElem (by omega), Option.bind_eq_some_iff] at h1
      obtain ⟨cs', hc1, ht1⟩ := h1
      obtain ⟨p, rfl, hp⟩ := hel _ _ _ ht1
      obtain ⟨_, hcl, hat⟩ := World.cells?_some hc1
      refine ⟨p, hp, fun j v hv => ?_⟩
      have hj : j < k := by rw [← hlf p]; exact (List.getElem?_eq_some_iff.1 hv).1
      have := hat j (by rw [hc]; exact hj)
      rw [hc, Go.Deep.add_add] at this
      rw [this, hv])
    refine ⟨some a, len, cap, (List.range len).map g, rfl, hl, hm, by simp, ⟨?_, fun hn => ?_⟩, fun p hp => ?_⟩
    · have : ∀ l : List α, (l.flatMap f).length = l.length * k := fun l => by
        induction l with
        | nil => simp
        | cons p l ih => rw [List.flatMap_cons, List.length_append, ih, hlf, List.length_cons, Nat.add_mul]; omega
      rw [this]; simp
    · have h0 : ∃ v, (f (g 0))[0]? = some v := ⟨(f (g 0))[0]'(by rw [hlf]; exact hk), List.getElem?_eq_getElem _⟩
      obtain ⟨v, h0⟩ := h0
      have hc0 := (hg 0 (by omega)).2 0 v h0
      rw [Nat.zero_mul, Nat.zero_add, add_zero'] at hc0
      obtain ⟨b, o, rfl, hb⟩ := cell_some hc0
      refine ⟨b, o, rfl, hb, fun j u hu => ?_⟩
      have hjl : j < len * k := by
        have := (List.getElem?_eq_some_iff.1 hu).1
        have e : ∀ l : List α, (l.flatMap f).length = l.length * k := fun l => by
          induction l with
          | nil => simp
          | cons p l ih => rw [List.flatMap_cons, List.length_append, ih, hlf, List.length_cons, Nat.add_mul]; omega
        rw [e] at this
        simpa using this
      have hq : j / k < len := by rw [Nat.div_lt_iff_lt_mul hk]; exact hjl
      have hjj : j = j / k * k + j % k := by rw [Nat.mul_comm]; exact (Nat.div_add_mod j k).symm
      have hv : ∃ v, (f (g (j / k)))[j % k]? = some v := ⟨(f (g (j / k)))[j % k]'(by rw [hlf]; exact Nat.mod_lt _ hk), List.getElem?_eq_getElem _⟩
      obtain ⟨v, hv⟩ := hv
      have hat := flat_at f k hlf ((List.range len).map g) (j / k) (g (j / k)) (by simp [hq]) (j % k) v hv
      rw [← hjj] at hat
      have hcc := (hg _ hq).2 _ v hv
      rw [← hjj, addr_add] at hcc
      rw [hcc, ← hu, hat]
    · simp only [List.mem_map, List.mem_range] at hp
      obtain ⟨i, hi, rfl⟩ := hp
      exact (hg i hi).1
instance : Inhabited PW := ⟨⟨0, 0, 0, B8.zero⟩⟩
instance : Inhabited MV := ⟨⟨0, 0, 0, 0⟩⟩

/-- a record, by value -/
theorem open_rec_cells {cs : List Value} (h : DataW.trod enc_ Try.prog w 0 sp true fuel 27 cs = some x) :
    ∃ (r : Rec) (Aw : Option Addr) (nw cw : Nat) (Am : Option Addr) (nm cm : Nat) (An : Option Addr) (nn cn : Nat), cs = (recCells r Aw nw cw Am nm cm An nn cn).toList ∧ RecIn w (fun k => k < w.heap.size) r Aw nw cw Am nm cm An nn cn := by
  obtain ⟨xs, m, _, _, hl, hlen, hf⟩ := DataW.trod_struct Try.underlying27 h
  have hc : Try.prog.cellsOf 27 = 5 := by kernel_rfl
  have hcu : Try.prog.cellsOf 22 = 1 := by kernel_rfl
  have hcw : Try.prog.cellsOf 23 = 1 := by kernel_rfl
  have hcm : Try.prog.cellsOf 24 = 1 := by kernel_rfl
  have hcb : Try.prog.cellsOf 25 = 1 := by kernel_rfl
  rw [hc] at hl
  have h0 : DataW.trod enc_ Try.prog w 0 sp true m 22 ((cs.drop 0).take (Try.prog.cellsOf 22)) = xs[0]? := hf 0 _ rfl
  have h1 : DataW.trod enc_ Try.prog w 0 sp true m 22 ((cs.drop 1).take (Try.prog.cellsOf 22)) = xs[1]? := hf 1 _ rfl
  have h2 : DataW.trod enc_ Try.prog w 0 sp true m 23 ((cs.drop 2).take (Try.prog.cellsOf 23)) = xs[2]? := hf 2 _ rfl
  have h3 : DataW.trod enc_ Try.prog w 0 sp true m 24 ((cs.drop 3).take (Try.prog.cellsOf 24)) = xs[3]? := hf 3 _ rfl
  have h4 : DataW.trod enc_ Try.prog w 0 sp true m 25 ((cs.drop 4).take (Try.prog.cellsOf 25)) = xs[4]? := hf 4 _ rfl
  have hlen' : xs.length = 5 := hlen
  rw [List.getElem?_eq_getElem (by omega)] at h0 h1 h2 h3 h4
  simp only [hcu, hcw, hcm, hcb] at h0 h1 h2 h3 h4
  obtain ⟨gen, e0, o0⟩ := open_u64 h0
  obtain ⟨seq, e1, o1⟩ := open_u64 h1
  obtain ⟨Aw, nw, cw, ws, e2, lw, xw, nw', rw_, okw⟩ := open_rows PW.cells PW.Ok (k := 11) (by decide) Try.underlying23 (by kernel_rfl) (fun n cs y h => open_pw h) (fun _ => rfl) h2
  obtain ⟨Am, nm, cm, ms, e3, lm, xm, nm', rm_, okm⟩ := open_rows MV.cells MV.Ok (k := 4) (by decide) Try.underlying24 (by kernel_rfl) (fun n cs y h => open_mv h) (fun _ => rfl) h3
  obtain ⟨An, nn, cn, note, e4, ln, xn, rn⟩ := open_bytes h4
  obtain ⟨c0, c1, c2, c3, c4, rfl⟩ := list_5 hl
  · clear hf
    simp at e0 e1 e2 e3 e4
    exact ⟨⟨gen, seq, ws, ms, note⟩, Aw, nw, cw, Am, nm, cm, An, nn, cn, by simp [recCells, e0, e1, e2, e3, e4],
      { ok := ⟨o0, o1, okw, okm⟩, wr := ⟨nw', rw_⟩, mv := ⟨nm', rm_⟩, nt := rn, lw := lw, lm := lm, ln := ln, xw := xw, xm := xm, xn := xn }⟩
end

end Go.Proofs.Ytbcmpfdhpefdbaa

namespace Go.Proofs.Ytbcmpfdhpefdbaa
open Go.RowKit Go.ChangeShapes Go.WideShapes Go.Deep

/-- a record and where its parts lie -/
structure RecW where
  (r : Rec) (Aw : Option Addr) (nw cw : Nat) (Am : Option Addr) (nm cm : Nat) (An : Option Addr) (nn cn : Nat)
instance : Inhabited RecW := ⟨⟨⟨0, 0, [], [], []⟩, none, 0, 0, none, 0, 0, none, 0, 0⟩⟩
def RecW.cells (p : RecW) : List Value := (recCells p.r p.Aw p.nw p.cw p.Am p.nm p.cm p.An p.nn p.cn).toList

section
variable {H : Type} {enc_ : TypeId × Value → H} {w : World} {sp : Nat → Bool} {fuel : Nat} {x : DataW H × List MemPlace}
theorem open_recs {cs : List Value} (h : DataW.trod enc_ Try.prog w 0 sp true fuel 53 cs = some x) :
    ∃ (A : Option Addr) (n c : Nat) (rs : List Rec), cs = [.slice A n c] ∧ n ≤ c ∧ c ≤ maxLen ∧ RdR w (fun k => k < w.heap.size) A n rs := by
  obtain ⟨A, n, c, ps, e, hnc, hcm, hn, hr, hok⟩ := open_rows RecW.cells (fun p => RecIn w (fun k => k < w.heap.size) p.r p.Aw p.nw p.cw p.Am p.nm p.cm p.An p.nn p.cn) (k := 5) (by decide) Try.underlying53 (by kernel_rfl)
    (fun n cs y h => by
      obtain ⟨r, Aw, nw, cw, Am, nm, cm, An, nn, cn, e, hr⟩ := open_rec_cells h
      exact ⟨⟨r, Aw, nw, cw, Am, nm, cm, An, nn, cn⟩, e, hr⟩) (fun _ => rfl) h
  refine ⟨A, n, c, ps.map (·.r), e, hnc, hcm, by simp [hn], ps.map RecW.cells, by rw [← List.flatMap_def]; exact hr, by simp, fun j r hj => ?_⟩
  rw [List.getElem?_map] at hj
  cases hp : ps[j]? with
  | none => rw [hp] at hj; cases hj
  | some p =>
    rw [hp] at hj
    simp only [Option.map_some, Option.some.injEq] at hj
    subst hj
    exact ⟨p.cells, by rw [List.getElem?_map, hp]; rfl, p.Aw, p.nw, p.cw, p.Am, p.nm, p.cm, p.An, p.nn, p.cn, rfl, hok p (List.mem_of_getElem? hp)⟩
theorem open_strs0 {cs : List Value} (h : DataW.trod enc_ Try.prog w 0 sp true fuel 30 cs = some x) : ∀ n c, cs = [.slice none n c] → c = 0 := by
  intro n c e
  rcases open_slice1 Try.underlying30 (by kernel_rfl) h with ⟨rfl, _⟩ | ⟨a, len, cap, m, n, V, D, Pl, rfl, _⟩
  · simp only [List.cons.injEq, Value.slice.injEq, and_true] at e
    exact e.2.2.symm
  · simp at e

theorem open_logs {cs : List Value} (h : DataW.trod enc_ Try.prog w 0 sp true fuel 63 cs = some x) :
    ∃ (A : Option Addr) (n c : Nat) (ls : List (List Rec)), cs = [.slice A n c] ∧ n ≤ c ∧ c ≤ maxLen ∧ RdL w (fun k => k < w.heap.size) A n ls := by
  rcases open_slice1 Try.underlying63 (by kernel_rfl) h with ⟨rfl, _⟩ | ⟨a, len, cap, m, n, V, D, Pl, rfl, _, hl, hm, hmm, _, hx⟩
  · exact ⟨none, 0, 0, [], rfl, Nat.le_refl _, Nat.zero_le _, rfl, [], Rd.none_, rfl, fun j s hs => by simp at hs⟩
  · have hlm : len ≤ m := by rw [hmm]; split <;> omega
    obtain ⟨f, hf⟩ := choose_lt (n := len) (α := Option Addr × Nat × List Rec) (p := fun i y => V i = .slice y.1 y.2.2.length y.2.1 ∧ y.2.2.length ≤ y.2.1 ∧ y.2.1 ≤ maxLen ∧ RdR w (fun k => k < w.heap.size) y.1 y.2.2.length y.2.2) (fun i hi => by
      obtain ⟨A, k, c, rs, e, h1, h2, h3⟩ := open_recs (hx i (by omega)).2
      injection e with e
      have := h3.1
      subst this
      exact ⟨⟨A, c, rs⟩, e, h1, h2, h3⟩)
    refine ⟨some a, len, cap, (List.range len).map (fun i => (f i).2.2), rfl, hl, hm, by simp, (List.range len).map V, ⟨by simp, fun hn => ?_⟩, by simp, fun j s hs => ?_⟩
    · have h0 := (hx 0 (by omega)).1
      rw [add_zero'] at h0
      obtain ⟨b, o, rfl, hb⟩ := cell_some h0
      refine ⟨b, o, rfl, hb, fun j u hu => ?_⟩
      have hj : j < len := by
        have := (List.getElem?_eq_some_iff.1 hu).1
        simpa using this
      have hc := (hx j (by omega)).1
      rw [addr_add] at hc
      rw [hc, ← hu]
      simp [hj]
    · have hj : j < len := by
        have := (List.getElem?_eq_some_iff.1 hs).1
        simpa using this
      have hs' : s = (f j).2.2 := by
        have : ((List.range len).map (fun i => (f i).2.2))[j]? = some ((f j).2.2) := by simp [hj]
        rw [this] at hs
        injection hs with hs
        exact hs.symm
      subst hs'
      obtain ⟨e1, e2, e3, e4⟩ := hf j hj
      exact ⟨(f j).1, (f j).2.1, by simp [hj, e1], e2, e3, e4⟩
end

end Go.Proofs.Ytbcmpfdhpefdbaa

namespace Go.Proofs.Ytbcmpfdhpefdbaa
open Go.ChangeShapes Go.WideShapes Go.ChangeAt Go.RowKit

theorem Try.own_ : ownKnob Try.prog.godebug = none := by kernel_rfl
theorem Try.laidOut_ : laidOutB Try.prog = true := by kernel_rfl

section
variable {H : Type} {enc : TypeId × Value → H} {P : Program}
theorem post_of_below {f : Func} {s : ChangeSpec} {apart fresh handsOn again : Bool} {W W' : World} {args : Array Value} {v : Value} {ds gs : List (DataW H)} {before pa pv : List MemPlace}
    (hW : DataW.Whole enc P f.params.toList s.vars apart W args.toList ds gs before)
    (hres : ∀ (b : Nat) (sp : Nat → Bool) (hd : Bool), DataW.TrodAll enc P W' b sp hd f.resultTypes.toList (v.resultList f.resultTypes.size) (s.fn H (ds ++ gs)).results [])
    (hargs : ∀ sp : Nat → Bool, (∀ p ∈ before, sp p.block = true) → DataW.TrodAll enc P W' 0 sp true f.params.toList args.toList (s.fn H (ds ++ gs)).args pa)
    (hvars : ∀ sp : Nat → Bool, (∀ p ∈ before, sp p.block = true) → DataW.TrodVars enc P W' sp s.vars (s.fn H (ds ++ gs)).vars pv)
    (hps : before = pa ++ pv) (hb : Below W.heap.size W W')
    (hok : ∀ (j : Nat) (t : TypeId) (r : Value), f.resultTypes[j]? = some t → (v.resultList f.resultTypes.size)[j]? = some r → Value.okWide P W' .any 0 t r) :
    s.post enc P f apart fresh handsOn again W args v W' := by
  have hlt : ∀ p ∈ before, p.block < W.heap.size := fun p hp => hW.lt p hp
  have hold : ∀ p ∈ before, (fun b => decide (b < W.heap.size)) p.block = true := fun p hp => by simpa using hlt p hp
  refine ⟨ds, gs, before, [], pa, pv, hW, hres _ _ _, hargs _ hold, hvars _ hold, World.keptBut_mono (fun p hp => ⟨hp, ?_⟩) (hb.frame (· ∈ before)), fun _ => ?_⟩
  · rw [hps, List.mem_append] at hp
    exact Or.inr hp
  · obtain ⟨_, _, _, _, _, hz, hn⟩ := hW
    refine ⟨hok, _, _, ([] ++ pa) ++ pv, ⟨[] ++ pa, pv, trodAll_append (hargs _ (fun _ _ => rfl)) (hres _ _ _), hvars _ (fun _ _ => rfl), rfl, ?_, ?_⟩, ?_⟩
    · intro b off hp
      have hin : MemPlace.cell b off ∈ before := by rw [hps]; simpa using hp
      rw [hb.frozen (hlt _ hin)]
      exact hz b off hin
    · intro ha
      have := hn ha
      rw [hps] at this
      simpa using this
    · intro p hp _
      rw [hps]
      simpa using hp
end

end Go.Proofs.Ytbcmpfdhpefdbaa
