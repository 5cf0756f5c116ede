/- The contracts of package codec, second part. -/
import Derived.Test.YtbcmpfdhpefdbaaCodec
import Derived.BigQuiet
import Derived.Deep.QuietTactic
import Derived.Deep.RegionHeld3
set_option linter.unusedVariables false
set_option linter.unusedSimpArgs false
namespace Go.Proofs.Ytbcmpfdhpefdbaa
open Go.RowKit

theorem rUint_left {st : RS} : rLeft (rUint st).2 ≤ rLeft st := by
  unfold rUint
  split
  · exact Nat.le_refl _
  · split
    · exact Nat.zero_le _
    · rename_i h; exact Nat.le_of_lt (decU_len h)

/-- what 'Bytes' answers -/
def BytesPost (T : TypeId) (F : Nat → Prop) (w : World) (g : Nat) (st : RS) (e : Ending) (w' : World) : Prop :=
  ∃ A n c, e = .returned (.tuple #[.slice A n c, .int .i64 (rErr (rBytes st).2)]) ∧ n ≤ c ∧ c ≤ maxLen ∧ RdB w' F A n (rBytes st).1 ∧ Rdr T w' F g (rBytes st).2 ∧ w.grownBy w' (some g)

theorem rErr_ne {st : RS} (h : st ≠ none) : rErr st = 0 := by cases st; exact absurd rfl h; rfl

set_option maxRecDepth 100000 in
set_option maxHeartbeats 400000 in
theorem bytes_any (F : Nat → Prop) (g : Nat) (st : RS) (w : World) (h : Rdr 107 w F g st) (hl : rLeft st ≤ 1099511627776) (hF : ∀ k, F k → k < w.heap.size ∧ k ≠ g) :
    Calls Try.prog 61 #[.pointer (some ⟨g, 0, none⟩)] w (BytesPost 107 F w g st) := by
  have hd : Hid ((rUint st).2 = none → rBytes st = ([], none)) := fun e => by unfold rBytes; split <;> simp_all
  have hd2 : Hid (∀ bs, (rUint st).2 = some bs → rBytes st = rTake (rUint st).1 (some bs)) := fun bs e => by unfold rBytes; split <;> simp_all
  have hbd := rUint_bd st
  have hlf := rUint_left (st := st)
  go_enter Try.func61, Try.ntmps61
  go_wp2_with fail
  refine (uint_any F g st _ h hl hF).mono ?_
  rintro e w1 ⟨rfl, hr1, hg1⟩
  generalize (rUint st).1 = n at *
  generalize (rUint st).2 = s at *
  cases s with
  | none =>
    have hd' := hid (hd.out rfl)
    clear hd hd2
    simp only [rErr]
    go_wp2
    go_ret2
    exact ⟨none, 0, 0, by rw [hd'.out]; rfl, Nat.le_refl _, Nat.zero_le _, by rw [hd'.out]; exact ⟨rfl, Rd.none_⟩, by rw [hd'.out]; exact hr1, hg1⟩
  | some bs =>
    have hd' := hid (hd2.out bs rfl)
    clear hd hd2
    simp only [rErr]
    have hF1 : ∀ k, F k → k < w1.heap.size ∧ k ≠ g := fun k hk => ⟨Nat.lt_of_lt_of_le (hF k hk).1 hg1.size, (hF k hk).2⟩
    have hbl : bs.length ≤ 1099511627776 := Nat.le_trans hlf hl
    by_cases hn : n ≤ bs.length
    · go_wp2_with (go_at_call 82; refine (take_ok F g bs n _ hr1 hF1 hn hbl).mono ?_; rintro e w2 ⟨A, rfl, hA, hr2, hg2⟩)
      go_ret2
      have e1 : rBytes st = (bs.take n, some (bs.drop n)) := by rw [hd'.out, rTake, if_pos hn]
      exact ⟨A, n, n, by rw [e1]; rfl, Nat.le_refl _, by simp only [maxLen]; omega, by rw [e1]; exact hA, by rw [e1]; exact hr2, hg1.trans hg2⟩
    · go_wp2_with (go_at_call 82; refine (take_bad F g (some bs) n _ hr1 hbl (.inr (by simp [rLeft]; omega)) hbd).mono ?_; rintro e w2 ⟨rfl, hr2, hg2⟩)
      go_ret2
      have e1 : rBytes st = ([], none) := by rw [hd'.out, rTake, if_neg hn]
      exact ⟨none, 0, 0, by rw [e1]; rfl, Nat.le_refl _, Nat.zero_le _, by rw [e1]; exact ⟨rfl, Rd.none_⟩, by rw [e1]; exact hr2, hg1.trans hg2⟩

set_option maxRecDepth 100000 in
set_option maxHeartbeats 400000 in
theorem done_any (F : Nat → Prop) (g : Nat) (st : RS) (w : World) (h : Rdr 107 w F g st) (hl : rLeft st ≤ 1099511627776) :
    Calls Try.prog 62 #[.pointer (some ⟨g, 0, none⟩)] w fun e w' => e = .returned (.int .i64 (rDone st)) ∧ w = w' := by
  obtain ⟨A, k, c, b, h, hkc, hcm, hm⟩ := h
  have h0 := h.cell 0
  have h1 := h.cell 1
  cases st with
  | none =>
    obtain ⟨rfl, rfl, rfl, rfl⟩ := hm
    go_enter Try.func62, Try.ntmps62
    go_wp2
    go_ret
    exact ⟨rfl, rfl⟩
  | some bs =>
    obtain ⟨rfl, hr⟩ := hm
    have hk := hr.1
    cases bs with
    | nil =>
      obtain rfl : k = 0 := by simpa using hk
      clear hk
      go_enter Try.func62, Try.ntmps62
      go_wp2
      go_ret
      exact ⟨rfl, rfl⟩
    | cons x bs =>
      have hk0 : 0 < k := by rw [hk]; simp
      clear hk
      go_enter Try.func62, Try.ntmps62
      go_wp2
      go_ret
      exact ⟨rfl, rfl⟩

/-- what 'Count' answers -/
def CountPost (T : TypeId) (F : Nat → Prop) (w : World) (g : Nat) (m : Nat) (st : RS) (e : Ending) (w' : World) : Prop :=
  e = .returned (.tuple #[.int .i64 ((rCount m st).1 : Nat), .int .i64 (rErr (rCount m st).2)]) ∧ Rdr T w' F g (rCount m st).2 ∧ w.grownBy w' (some g)

set_option maxRecDepth 100000 in
set_option maxHeartbeats 400000 in
theorem count_any (F : Nat → Prop) (g : Nat) (m : Nat) (st : RS) (w : World) (h : Rdr 107 w F g st) (hl : rLeft st ≤ 1099511627776) (hF : ∀ k, F k → k < w.heap.size ∧ k ≠ g) (hm : m ≤ 1099511627776) :
    Calls Try.prog 86 #[.pointer (some ⟨g, 0, none⟩), .int .i64 (m : Int)] w (CountPost 107 F w g m st) := by
  have hd : Hid ((rUint st).2 = none → rCount m st = (0, none)) := fun e => by unfold rCount; split <;> simp_all
  have hd2 : Hid (∀ bs, (rUint st).2 = some bs → rCount m st = if (rUint st).1 ≤ m then ((rUint st).1, some bs) else (0, none)) := fun bs e => by unfold rCount; split <;> simp_all
  have hz : Hid ((rUint st).2 = none → (rUint st).1 = 0) := fun e => by
    unfold rUint at e ⊢
    split
    · rfl
    · split <;> simp_all
  have hbd := rUint_bd st
  go_enter Try.func86, Try.ntmps86
  go_wp2_with fail
  refine (uint_any F g st _ h hl hF).mono ?_
  rintro e w1 ⟨rfl, hr1, hg1⟩
  generalize (rUint st).1 = n at *
  generalize (rUint st).2 = s at *
  cases s with
  | none =>
    have hd' := hid (hd.out rfl)
    obtain rfl := hz.out rfl
    clear hd hd2 hz
    simp only [rErr]
    go_wp2
    go_ret2
    exact ⟨by rw [hd'.out]; rfl, by rw [hd'.out]; exact hr1, hg1⟩
  | some bs =>
    have hd' := hid (hd2.out bs rfl)
    clear hd hd2 hz
    simp only [rErr]
    by_cases hn : n ≤ m
    · go_wp2
      go_ret2
      have e1 : rCount m st = (n, some bs) := by rw [hd'.out, if_pos hn]
      exact ⟨by rw [e1]; rfl, by rw [e1]; exact hr1, hg1⟩
    · obtain ⟨A', k', c', b', hblk, _⟩ := hr1
      go_wp2_with (go_at_call 83; refine (fail_any g _ _ _ hblk).mono ?_; rintro e w2 ⟨rfl, hb2, hg2⟩)
      go_ret2
      have e1 : rCount m st = (0, none) := by rw [hd'.out, if_neg hn]
      exact ⟨by rw [e1]; rfl, by rw [e1]; exact ⟨_, _, _, _, hb2, Nat.le_refl _, Nat.zero_le _, rfl, rfl, rfl, rfl⟩, hg1.trans hg2⟩

end Go.Proofs.Ytbcmpfdhpefdbaa
