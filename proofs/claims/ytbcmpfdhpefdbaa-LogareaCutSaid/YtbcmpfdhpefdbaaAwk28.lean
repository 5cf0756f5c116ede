/- The contract of the second example of the document: it holds. -/
import Derived.Test.YtbcmpfdhpefdbaaSecs
import Derived.Test.YtbcmpfdhpefdbaaScan28
import Derived.Test.YtbcmpfdhpefdbaaNext
import Derived.Test.YtbcmpfdhpefdbaaKX
set_option linter.unusedVariables false
set_option linter.unusedSimpArgs false
namespace Go.Proofs.Ytbcmpfdhpefdbaa
open Go.RowKit
attribute [local irreducible] Go.Calls

def recS (g s : Nat) : Rec := ⟨g, s, [], [], []⟩
section
variable {g s : Nat} (hg : g < 128) (hs : s < 128) (h1 : 1 ≤ s)
include hg hs
theorem recS_ok : (recS g s).Ok := ⟨by show g < _; omega, by show s < _; omega, fun p hp => by simp [recS] at hp, fun p hp => by simp [recS] at hp⟩
theorem recS_in (w : World) (F : Nat → Prop) : RecIn w F (recS g s) none 0 0 none 0 0 none 0 0 :=
  { ok := recS_ok hg hs
    wr := ⟨rfl, Rd.none_⟩, mv := ⟨rfl, Rd.none_⟩, nt := ⟨rfl, Rd.none_⟩
    lw := Nat.le_refl _, lm := Nat.le_refl _, ln := Nat.le_refl _, xw := Nat.zero_le _, xm := Nat.zero_le _, xn := Nat.zero_le _ }
theorem recS_len : (sectors (recS g s)).length = 1 := by
  rw [sectors_len]
  have : (payl (recS g s)).length = 5 := by simp [payl, recS, enc_small, hg, hs]
  rw [this]; rfl
omit hg hs in
include h1 in
theorem recS_vld : (recS g s).vld = true := by simp [Rec.vld, Rec.head, recS, h1]
end

def log55 : List Rec := [recS 5 1, recS 5 2]
theorem log55_in : LogIn 5 0 log55 := by
  intro i r hr
  match i, hr with
  | 0, hr => simp [log55] at hr; subst hr; exact ⟨recS_ok (by decide) (by decide), recS_vld (by decide), rfl, rfl⟩
  | 1, hr => simp [log55] at hr; subst hr; exact ⟨recS_ok (by decide) (by decide), recS_vld (by decide), rfl, rfl⟩
  | i + 2, hr => simp [log55] at hr
theorem log55_b : logB log55 = true := by decide
theorem log55_len : (allSecs log55).length = 2 := by
  simp [log55, allSecs, recS_len (g := 5) (s := 1) (by decide) (by decide), recS_len (g := 5) (s := 2) (by decide) (by decide)]
/-- the sectors that the example reads -/
def secs55 : List (List UInt8) := allSecs log55 ++ sectors (recS 4 3)
theorem secs55_len : secs55.length = 3 := by
  rw [secs55, List.length_append, log55_len, recS_len (by decide) (by decide)]
theorem secs55_short : ∀ s ∈ secs55, s.length ≤ 1000000 := by
  intro s hs
  have hx : ∀ r : Rec, r.Ok → r.vld = true → ∀ s ∈ sectors r, s.length ≤ 64 := fun r ho hv s hs => sec_len64 ho hv s (by rw [encP, hv, if_pos rfl]; exact hs)
  rw [secs55, List.mem_append] at hs
  rcases hs with hs | hs
  · obtain ⟨r, hr, hs⟩ := List.mem_flatMap.1 hs
    obtain ⟨i, hi, rfl⟩ := List.mem_iff_getElem.1 hr
    obtain ⟨o1, o2, _⟩ := log55_in i _ (List.getElem?_eq_getElem hi)
    have := hx _ o1 o2 s hs
    omega
  · have := hx _ (recS_ok (by decide) (by decide)) (recS_vld (by decide)) s hs
    omega
theorem dec43 (tail : List (List UInt8)) : decode (sectors (recS 4 3) ++ tail) = (recS 4 3, 1, 0) := by
  rw [decode_trip (recS_ok (by decide) (by decide)) (recS_vld (by decide)), recS_len (by decide) (by decide)]
theorem scan55_5 : scan secs55 5 = (log55, 2) := by
  rw [secs55, scan_back log55_in, log55_len]
  unfold scanOk
  have := dec43 []
  rw [List.append_nil] at this
  rw [this]
  rfl
theorem scan55_4 : scan secs55 4 = ([], 0) := by
  refine scanG_stop ?_
  unfold scanOk
  rw [secs55, log55, allSecs_cons, List.append_assoc, decode_trip (recS_ok (by decide) (by decide)) (recS_vld (by decide))]
  rfl

theorem rdR55 (w : World) : RdR (w.alloc (.cells #[.int .u64 5, .int .u64 1, .slice none 0 0, .slice none 0 0, .slice none 0 0, .int .u64 5, .int .u64 2, .slice none 0 0, .slice none 0 0, .slice none 0 0] 27)) (fun k => k = w.heap.size) (some ⟨w.heap.size, 0, none⟩) 2 log55 := by
  refine ⟨rfl, [(recCells (recS 5 1) none 0 0 none 0 0 none 0 0).toList, (recCells (recS 5 2) none 0 0 none 0 0 none 0 0).toList], ?_, rfl, fun j r hr => ?_⟩
  · exact ⟨rfl, fun _ => ⟨_, _, rfl, rfl, fun j u hu => by rw [Nat.zero_add, (Blk.new w _ _).cell]; simpa [recCells, recS] using hu⟩⟩
  · match j, hr with
    | 0, hr => simp [log55] at hr; subst hr; exact ⟨_, rfl, none, 0, 0, none, 0, 0, none, 0, 0, rfl, recS_in (by decide) (by decide) _ _⟩
    | 1, hr => simp [log55] at hr; subst hr; exact ⟨_, rfl, none, 0, 0, none, 0, 0, none, 0, 0, rfl, recS_in (by decide) (by decide) _ _⟩
    | j + 2, hr => simp [log55] at hr

set_option maxRecDepth 100000 in
set_option maxHeartbeats 1000000 in
theorem awake28_any (w : World) : Calls Try.prog 32 #[] w fun e w' => e = .returned (.bool true) ∧ Below w.heap.size w w' := by
  go_enter Try.func32, Try.ntmps32
  go_wp2_with fail
  have hb0 : Below w.heap.size w (w.alloc (.cells #[.int .u64 5, .int .u64 1, .slice none 0 0, .slice none 0 0, .slice none 0 0, .int .u64 5, .int .u64 2, .slice none 0 0, .slice none 0 0, .slice none 0 0] 27)) := (Below.refl _ _).alloc (Nat.le_refl _) _
  refine (secs28_any (fun k => k = w.heap.size) _ 2 2 log55 _ (rdR55 w) (by decide) (fun k hk => by simp [hk])).mono ?_
  rintro e w1 ⟨v, rfl, hown, hb1⟩
  have hbel1 : Below w.heap.size w w1 := hb0.trans (hb1.mono (by simp))
  rw [secsE, log55_b]
  rw [secsA, log55_b] at hown
  simp only [if_true] at hown ⊢
  obtain ⟨A1, c1, rfl, hc1, hm1⟩ := hown.form
  rw [log55_len] at hown hc1 ⊢
  have hs1 := hbel1.size
  have hown1 := hid (hown.lower (base := w.heap.size) (by simp))
  clear hown hb0 hb1
  go_wp2_with fail
  refine (encode27_any (fun _ => False) (recS 4 3) none 0 0 none 0 0 none 0 0 _ (recS_in (by decide) (by decide) _ _) (fun k hk => hk.elim)).mono ?_
  rintro e w2 ⟨v2, rfl, hown2, hb2⟩
  have hs2 := hb2.size
  have hbel2 := hbel1.trans (hb2.mono hs1)
  rw [encE, recS_vld (by decide)]
  rw [encP, recS_vld (by decide)] at hown2
  simp only [if_true] at hown2 ⊢
  obtain ⟨A2, c2, rfl, hc2, hm2⟩ := hown2.form
  have hl2 := recS_len (g := 4) (s := 3) (by decide) (by decide)
  rw [hl2] at hown2 hc2 ⊢
  have hl2' := hid hl2
  have hown3 := hid (hown1.out.below hb2)
  have hrd := hid hown2.rd
  have hownlt := hid hown1.out.lt
  clear hown2 hl2
  go_wp2_with (at_builtin; refine mk_stop ?_)
  refine wpList_apSs rfl _ _ rfl w.heap.size (fun _ => False) (.slice A1 2 c1) (allSecs log55) rfl hown3.out _ A2 _ c2 (sectors (recS 4 3)) rfl hrd.out (fun k hk => ⟨hk.1, .inr (by rcases hk.2 with h | h; exact h.elim; omega), fun e => by have := (hownlt.out k e).2; rcases hk.2 with h | h; exact h.elim; omega⟩) (by rw [hl2'.out, log55_len]; decide) (by omega) ?_
  intro v5 w5 hown5 hg5 hat5
  have hbel5 := hbel2.grown hg5 hbel2.size (fun k hk => (hownlt.out k hk).1)
  have hown6 : OwnS w.heap.size (fun _ => False) w5 v5 secs55 := hown5
  obtain ⟨A5, c5, rfl, hc5, hm5⟩ := hown6.form
  rw [secs55_len] at hown6 hc5 ⊢
  have hrd5 := hid hown6.rd
  have hs5 := hbel5.size
  clear hown5 hg5 hat5 hown6
  go_wp2_with fail
  refine (scan_any _ A5 3 c5 secs55 5 _ hrd5.out hc5 hm5 secs55_short (by rw [secs55_len]; decide) (fun k hk => hk.1)).mono ?_
  rintro e w6 ⟨v6, rfl, hown6, hb6⟩
  rw [scan55_5] at hown6 ⊢
  obtain ⟨A6, c6, rfl, hc6, hm6⟩ := hown6.form
  rw [show log55.length = 2 from rfl] at hc6 ⊢
  have hs6 := hb6.size
  have hrd6 := hid (hrd5.out.keep (Kp.of_below hb6 (fun k hk => hk.1)))
  have hbel6 := hbel5.trans (hb6.mono hs5)
  clear hown6
  go_wp2_with fail
  refine (scan_any _ A5 3 c5 secs55 4 _ hrd6.out hc5 hm5 secs55_short (by rw [secs55_len]; decide) (fun k hk => by have := hk.1; omega)).mono ?_
  rintro e w7 ⟨v7, rfl, hown7, hb7⟩
  rw [scan55_4] at hown7 ⊢
  obtain ⟨A7, c7, rfl, hc7, hm7⟩ := hown7.form
  have hbel7 := hbel6.trans (hb7.mono hbel6.size)
  clear hown7
  go_wp2_with fail
  refine (next_any A6 2 c6 5 _ (by decide)).mono ?_
  rintro e _ ⟨rfl, rfl⟩
  rw [show nextP 5 2 = 21474836483 from rfl]
  go_wp2_with fail
  go_ret
  exact ⟨rfl, hbel7⟩

end Go.Proofs.Ytbcmpfdhpefdbaa
