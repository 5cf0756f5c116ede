/- 'string(b)' of a slice of bytes that is read. -/
import Derived.Test.YtbcmpfdhpefdbaaEq
import Derived.Laws.BytesArg
set_option linter.unusedVariables false
set_option linter.unusedSimpArgs false
namespace Go.Proofs.Ytbcmpfdhpefdbaa
open Go.RowKit

/-- the string of bytes -/
def strB (bs : List UInt8) : ByteArray := ⟨bs.toArray⟩
theorem strB_inj {a b : List UInt8} : strB a = strB b ↔ a = b := by
  constructor
  · intro h
    have := congrArg (fun x : ByteArray => x.data.toList) h
    simpa [strB] using this
  · rintro rfl; rfl

theorem strB_toList (l : List UInt8) : (strB l).toList = l := by simp [strB]
theorem strB_ne {a b : List UInt8} (h : ¬ a = b) : ((strB a).toList == (strB b).toList) = false := by rw [strB_toList, strB_toList]; exact beq_eq_false_iff_ne.2 h
theorem strB_eq {a b : List UInt8} (h : a = b) : ((strB a).toList == (strB b).toList) = true := by rw [strB_toList, strB_toList]; exact beq_iff_eq.2 h

theorem RdB.conv {w : World} {F : Nat → Prop} {A : Option Addr} {n : Nat} {bs : List UInt8} (h : RdB w F A n bs) (c : Nat) :
    (convert 25 9 (.slice A n c)).run Try.prog w = .ok (.string (strB bs)) w := by
  have hstr : ∀ (w : World) (ns : List Int) (l : List UInt8), ns = l.map (fun x => (x.toNat : Int)) → ns.foldl (fun r n => r.push (UInt8.ofNat n.toNat)) ByteArray.empty = strB l := by
    intro w ns l e
    rw [foldl_push_bytes, e]
    have hid' : l.map ((fun n : Int => UInt8.ofNat n.toNat) ∘ fun x : UInt8 => (x.toNat : Int)) = l := by
      conv => rhs; rw [← List.map_id l]
      apply List.map_congr_left
      intro x _
      simp
    simp [strB, ByteArray.empty, ByteArray.emptyWithCapacity, hid']
    rfl
  rw [run_convert_bytes_string w 25 9 5 _ n c Try.underlying25 (by kernel_rfl) (by kernel_rfl)]
  rcases A with _ | ad
  · have hn : n = 0 := by
      rcases Nat.eq_zero_or_pos n with h0 | h0
      · exact h0
      · obtain ⟨_, _, e, _⟩ := h.2.2 h0; cases e
    have hb : bs = [] := List.eq_nil_of_length_eq_zero (by rw [← h.1]; exact hn)
    subst hb
    simp [Conv.bytesToString, Sem.run_pure]
    rfl
  · have hl : (loadCells ad n).run Try.prog w = .ok ((bs.map (fun x => (x.toNat : Int))).map (Value.int .u8)).toArray w := by
      have := run_loadCells_list (P := Try.prog) w ad (bs.map B) (fun j v hj => by
        have hj' : j < n := by
          have := (List.getElem?_eq_some_iff.1 hj).1
          rw [List.length_map] at this; rw [h.1]; exact this
        obtain ⟨b, o, e, _, hc⟩ := h.2.2 (by omega)
        injection e with e
        subst e
        rw [addr_add]
        exact hc j v hj)
      rw [List.length_map, ← h.1] at this
      rw [this, List.map_map]
      rfl
    rw [run_bytesToString w ad n c _ hl, hstr w _ bs rfl]

end Go.Proofs.Ytbcmpfdhpefdbaa
