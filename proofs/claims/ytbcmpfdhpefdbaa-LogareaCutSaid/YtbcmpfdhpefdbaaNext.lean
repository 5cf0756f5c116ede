/- The contracts of both Nexts. -/
import Derived.Test.YtbcmpfdhpefdbaaKA
import Derived.Test.YtbcmpfdhpefdbaaKB
set_option linter.unusedVariables false
set_option linter.unusedSimpArgs false
namespace Go.Proofs.Ytbcmpfdhpefdbaa
open Go.RowKit
attribute [local irreducible] Go.Calls

def nextP (gen n : Nat) : Nat := if 4294967296 ≤ gen ∨ 4294967295 ≤ n then 0 else gen * 4294967296 + n + 1

set_option maxRecDepth 100000 in
set_option maxHeartbeats 400000 in
theorem next_any (A : Option Addr) (n c gen : Nat) (w : World) (hn : n ≤ 1000000) :
    Calls Try.prog 44 #[.slice A n c, .int .u64 (gen : Int)] w fun e w' => e = .returned (.int .u64 (nextP gen n : Nat)) ∧ w = w' := by
  have hp := hid (show nextP gen n = nextP gen n from rfl)
  have ewn : IntKind.u64.wrap (n : Int) = (n : Int) := by rw [IntKind.wrap_u64]; omega
  have hn2 : ¬ (4294967295 : Int) ≤ (n : Int) := by omega
  by_cases hg : 4294967296 ≤ gen
  · have hg1 : (4294967295 : Int) < (gen : Int) := by omega
    have hres := hid (show nextP gen n = 0 by rw [nextP, if_pos (.inl hg)])
    go_enter Try.func44, Try.ntmps44
    go_wp2_with fail
    go_ret
    exact ⟨by rw [hres.out]; rfl, rfl⟩
  · have hg1 : ¬ (4294967295 : Int) < (gen : Int) := by omega
    have hres := hid (show nextP gen n = gen * 4294967296 + n + 1 by rw [nextP, if_neg (by omega)])
    go_enter Try.func44, Try.ntmps44
    go_wp2_with fail
    go_ret
    exact ⟨by rw [hres.out]; simp, rfl⟩

set_option maxRecDepth 100000 in
set_option maxHeartbeats 400000 in
theorem next28_any (A : Option Addr) (n c gen : Nat) (w : World) (hn : n ≤ 1000000) :
    Calls Try.prog 45 #[.slice A n c, .int .u64 (gen : Int)] w fun e w' => e = .returned (.int .u64 (nextP gen n : Nat)) ∧ w = w' := by
  have hp := hid (show nextP gen n = nextP gen n from rfl)
  have ewn : IntKind.u64.wrap (n : Int) = (n : Int) := by rw [IntKind.wrap_u64]; omega
  have hn2 : ¬ (4294967295 : Int) ≤ (n : Int) := by omega
  by_cases hg : 4294967296 ≤ gen
  · have hg1 : (4294967296 : Int) ≤ (gen : Int) := by omega
    have hres := hid (show nextP gen n = 0 by rw [nextP, if_pos (.inl hg)])
    go_enter Try.func45, Try.ntmps45
    go_wp2_with fail
    go_ret
    exact ⟨by rw [hres.out]; rfl, rfl⟩
  · have hg1 : ¬ (4294967296 : Int) ≤ (gen : Int) := by omega
    have hres := hid (show nextP gen n = gen * 4294967296 + n + 1 by rw [nextP, if_neg (by omega)])
    go_enter Try.func45, Try.ntmps45
    go_wp2_with fail
    go_ret
    exact ⟨by rw [hres.out]; simp, rfl⟩

end Go.Proofs.Ytbcmpfdhpefdbaa
