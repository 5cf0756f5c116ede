/- What Decode answers, plainly. -/
import Derived.Test.YtbcmpfdhpefdbaaParseL
import Derived.Test.YtbcmpfdhpefdbaaInsP
set_option linter.unusedVariables false
set_option linter.unusedSimpArgs false
namespace Go.Proofs.Ytbcmpfdhpefdbaa
open Go.RowKit

def Rec.zero : Rec := ⟨0, 0, [], [], []⟩
def decHd (ss : List (List UInt8)) : Ins := insp (ss[0]?.getD [])
/-- the error of sector i, given the first sector's numbers -/
def decErr (ss : List (List UInt8)) (i : Nat) : Option Int :=
  match ss[i]? with
  | none => some 5
  | some s => if (insp s).code ≠ 0 then some (insp s).code
    else if (insp s).gen = (decHd ss).gen ∧ (insp s).seq = (decHd ss).seq ∧ (insp s).part = i ∧ (insp s).parts = (decHd ss).parts then none else some 5
def decParts (ss : List (List UInt8)) : Nat := if decErr ss 0 = none then (decHd ss).parts else 1
def decAll (ss : List (List UInt8)) (j : Nat) : List UInt8 := (List.range j).flatMap (fun i => (insp (ss[i]?.getD [])).chunk)
def decode (ss : List (List UInt8)) : Rec × Nat × Int :=
  match (List.range (decParts ss)).findSome? (decErr ss) with
  | some c => (Rec.zero, 0, c)
  | none => if parseOk (decAll ss (decParts ss)) = true ∧ encP (parseR (decAll ss (decParts ss))) = ss.take (decParts ss) then (parseR (decAll ss (decParts ss)), decParts ss, 0) else (Rec.zero, 0, 5)

theorem insp_ok {b : List UInt8} (h : (insp b).code = 0) : (insp b).gen < 18446744073709551616 ∧ 1 ≤ (insp b).seq ∧ (insp b).seq < 18446744073709551616 ∧ (insp b).part < (insp b).parts ∧ (insp b).parts ≤ 4096 ∧ 1 ≤ (insp b).chunk.length ∧ (insp b).chunk.length ≤ 28 := by
  unfold insp at h ⊢
  split at h
  · simp [Ins.bad] at h
  · rename_i h1
    rw [if_neg h1]
    split at h
    · simp [Ins.bad] at h
    · rename_i h2
      rw [if_neg h2]
      split at h
      · simp [Ins.bad] at h
      · rename_i h3
        rw [if_neg h3]
        unfold insR at h ⊢
        split at h
        · simp [Ins.bad] at h
        · rename_i h4
          rw [if_neg h4]
          simp only [not_or, Nat.not_lt, Nat.not_le] at h4
          exact ⟨rUint_bd _, h4.2.1, rUint_bd _, h4.2.2.2.1, h4.2.2.1, h4.2.2.2.2.1, h4.2.2.2.2.2⟩
theorem decErr_none {ss : List (List UInt8)} {i : Nat} (h : decErr ss i = none) : ∃ s, ss[i]? = some s ∧ (insp s).code = 0 ∧ (insp s).gen = (decHd ss).gen ∧ (insp s).seq = (decHd ss).seq ∧ (insp s).part = i ∧ (insp s).parts = (decHd ss).parts := by
  unfold decErr at h
  split at h
  · cases h
  · rename_i s hs
    split at h
    · cases h
    · rename_i hc
      split at h
      · rename_i h4
        exact ⟨s, hs, by simpa using hc, h4⟩
      · cases h
theorem findSome_range {α : Type} (f : Nat → Option α) (n j : Nat) (c : α) (hj : j < n) (h0 : ∀ i, i < j → f i = none) (hc : f j = some c) : (List.range n).findSome? f = some c := by
  have e : n = j + (1 + (n - j - 1)) := by omega
  rw [e, List.range_add, List.findSome?_append, List.findSome?_eq_none_iff.2 (by intro x hx; exact h0 x (List.mem_range.1 hx))]
  rw [List.range_add, List.map_append, List.findSome?_append]
  simp [hc]
theorem decode_err {ss : List (List UInt8)} {j : Nat} {c : Int} (hj : j < decParts ss) (h0 : ∀ i, i < j → decErr ss i = none) (hc : decErr ss j = some c) : decode ss = (Rec.zero, 0, c) := by
  unfold decode
  rw [findSome_range _ _ _ _ hj h0 hc]
theorem decode_err0 {ss : List (List UInt8)} {c : Int} (hc : decErr ss 0 = some c) : decode ss = (Rec.zero, 0, c) :=
  decode_err (j := 0) (by rw [decParts, if_neg (by rw [hc]; simp)]; omega) (by omega) hc
theorem decode_all {ss : List (List UInt8)} (h0 : ∀ i, i < decParts ss → decErr ss i = none) : decode ss = if parseOk (decAll ss (decParts ss)) = true ∧ encP (parseR (decAll ss (decParts ss))) = ss.take (decParts ss) then (parseR (decAll ss (decParts ss)), decParts ss, 0) else (Rec.zero, 0, 5) := by
  unfold decode
  rw [List.findSome?_eq_none_iff.2 (by intro x hx; exact h0 x (List.mem_range.1 hx))]
theorem decErr_absent {ss : List (List UInt8)} {j : Nat} (h : ss.length ≤ j) : decErr ss j = some 5 := by
  unfold decErr
  rw [List.getElem?_eq_none h]
theorem decErr_code {ss : List (List UInt8)} {j : Nat} {s : List UInt8} (h : ss[j]? = some s) (hc : (insp s).code ≠ 0) : decErr ss j = some (insp s).code := by
  unfold decErr
  rw [h]
  simp [hc]
theorem decErr_diff {ss : List (List UInt8)} {j : Nat} {s : List UInt8} (h : ss[j]? = some s) (hc : (insp s).code = 0) (hd : ¬ ((insp s).gen = (decHd ss).gen ∧ (insp s).seq = (decHd ss).seq ∧ (insp s).part = j ∧ (insp s).parts = (decHd ss).parts)) : decErr ss j = some 5 := by
  unfold decErr
  rw [h]
  simp only [hc, ne_eq, not_true_eq_false, if_false, if_neg hd]
theorem decErr_fit {ss : List (List UInt8)} {j : Nat} {s : List UInt8} (h : ss[j]? = some s) (hc : (insp s).code = 0) (hd : (insp s).gen = (decHd ss).gen ∧ (insp s).seq = (decHd ss).seq ∧ (insp s).part = j ∧ (insp s).parts = (decHd ss).parts) : decErr ss j = none := by
  unfold decErr
  rw [h]
  simp only [hc, ne_eq, not_true_eq_false, if_false, if_pos hd]
theorem decAll_succ {ss : List (List UInt8)} {j : Nat} {s : List UInt8} (h : ss[j]? = some s) : decAll ss (j + 1) = decAll ss j ++ (insp s).chunk := by
  simp [decAll, List.range_succ, h]
theorem decAll_len {ss : List (List UInt8)} : ∀ j, (∀ i, i < j → decErr ss i = none) → (decAll ss j).length ≤ 28 * j
  | 0, _ => by simp [decAll]
  | j + 1, h => by
    obtain ⟨s, hs, hc, _⟩ := decErr_none (h j (by omega))
    have := decAll_len j (fun i hi => h i (by omega))
    have h2 := (insp_ok hc).2.2.2.2.2.2
    rw [decAll_succ hs, List.length_append]
    omega
theorem decParts_le {ss : List (List UInt8)} : decParts ss ≤ 4096 ∧ 1 ≤ decParts ss := by
  unfold decParts
  split
  · rename_i h
    obtain ⟨s, hs, hc, _⟩ := decErr_none h
    have := insp_ok hc
    rw [decHd, hs]
    simp only [Option.getD_some]
    omega
  · omega
theorem decParts_len {ss : List (List UInt8)} (h : ∀ i, i < decParts ss → decErr ss i = none) : decParts ss ≤ ss.length := by
  have h1 := (@decParts_le ss).2
  obtain ⟨s, hs, _⟩ := decErr_none (h (decParts ss - 1) (by omega))
  have := (List.getElem?_eq_some_iff.1 hs).1
  omega

end Go.Proofs.Ytbcmpfdhpefdbaa
