/- What logs are, plainly: their sectors; reading them back whole, with something behind them, and with a sector lost. -/
import Derived.Test.YtbcmpfdhpefdbaaKN
set_option linter.unusedVariables false
set_option linter.unusedSimpArgs false
namespace Go.Proofs.Ytbcmpfdhpefdbaa
open Go.RowKit

def logAt (rs : List Rec) (i : Nat) : Bool := match rs[i]?, rs[0]? with
  | some r, some r0 => r.vld && decide (r.gen = r0.gen) && decide (r.seq = i + 1)
  | _, _ => true
/-- the list is a log -/
def logB (rs : List Rec) : Bool := (List.range rs.length).all (logAt rs)
theorem logB_false {rs : List Rec} {j : Nat} (hj : j < rs.length) (h : logAt rs j = false) : logB rs = false := by
  rw [logB, List.all_eq_false]
  exact ⟨j, List.mem_range.2 hj, by simp [h]⟩
theorem logB_true {rs : List Rec} (h : ∀ i, i < rs.length → logAt rs i = true) : logB rs = true := by
  rw [logB, List.all_eq_true]
  exact fun i hi => h i (List.mem_range.1 hi)
theorem logB_at {rs : List Rec} (h : logB rs = true) {i : Nat} (hi : i < rs.length) : logAt rs i = true := by
  rw [logB, List.all_eq_true] at h
  exact h i (List.mem_range.2 hi)
theorem logB_nil : logB [] = true := rfl

/-- the sectors of the records, one after another -/
def allSecs (rs : List Rec) : List (List UInt8) := rs.flatMap sectors
theorem allSecs_nil : allSecs [] = [] := rfl
theorem allSecs_cons (r : Rec) (rs : List Rec) : allSecs (r :: rs) = sectors r ++ allSecs rs := rfl
theorem allSecs_append (a b : List Rec) : allSecs (a ++ b) = allSecs a ++ allSecs b := List.flatMap_append
theorem allSecs_snoc (a : List Rec) (r : Rec) : allSecs (a ++ [r]) = allSecs a ++ sectors r := by rw [allSecs_append]; simp [allSecs]
theorem allSecs_take {rs : List Rec} {i : Nat} {r : Rec} (h : rs[i]? = some r) : allSecs (rs.take (i + 1)) = allSecs (rs.take i) ++ sectors r := by
  rw [List.take_add_one, h, Option.toList_some, allSecs_snoc]
/-- what Sectors answers -/
def secsA (rs : List Rec) : List (List UInt8) := if logB rs then allSecs rs else []
def secsE (rs : List Rec) : Int := if logB rs then 0 else 1

/-- the records are valid, of generation gen, and numbered from cnt + 1 on -/
def LogIn (gen cnt : Nat) (rs : List Rec) : Prop := ∀ i r, rs[i]? = some r → r.Ok ∧ r.vld = true ∧ r.gen = gen ∧ r.seq = cnt + i + 1
theorem LogIn.of {rs : List Rec} {r0 : Rec} (ho : ∀ r ∈ rs, r.Ok) (h : logB rs = true) (h0 : rs[0]? = some r0) : LogIn r0.gen 0 rs := by
  intro i r hr
  have hi := (List.getElem?_eq_some_iff.1 hr).1
  have e := logB_at h hi
  unfold logAt at e
  rw [hr, h0] at e
  simp only [Bool.and_eq_true, decide_eq_true_eq] at e
  exact ⟨ho r (List.mem_of_getElem? hr), e.1.1, e.1.2, by omega⟩
theorem LogIn.tail {gen cnt : Nat} {r : Rec} {rs : List Rec} (h : LogIn gen cnt (r :: rs)) : LogIn gen (cnt + 1) rs := by
  intro i x hx
  have := h (i + 1) x hx
  exact ⟨this.1, this.2.1, this.2.2.1, by omega⟩
theorem LogIn.take {gen cnt : Nat} {rs : List Rec} (h : LogIn gen cnt rs) (k : Nat) : LogIn gen cnt (rs.take k) := by
  intro i x hx
  rw [List.getElem?_take] at hx
  split at hx
  · exact h i x hx
  · cases hx

theorem scanG_log {gen : Nat} {tail : List (List UInt8)} {rs : List Rec} : ∀ {cnt : Nat}, LogIn gen cnt rs →
    scanG (allSecs rs ++ tail) gen cnt = (rs ++ (scanG tail gen (cnt + rs.length)).1, (allSecs rs).length + (scanG tail gen (cnt + rs.length)).2) := by
  induction rs with
  | nil => intro cnt _; simp [allSecs_nil]
  | cons r rs ih =>
    intro cnt h
    obtain ⟨h1, h2, h3, h4⟩ := h 0 r rfl
    have e := decode_trip h1 h2 (allSecs rs ++ tail)
    have hk : scanOk (sectors r ++ (allSecs rs ++ tail)) gen cnt = true := by
      unfold scanOk
      rw [e]
      exact decide_eq_true ⟨rfl, h3, by omega⟩
    rw [allSecs_cons, List.append_assoc, scanG_go hk, e]
    simp only [List.drop_left]
    rw [ih h.tail]
    simp only [List.length_cons, List.length_append, List.cons_append, show cnt + (rs.length + 1) = cnt + 1 + rs.length by omega, Nat.add_assoc]
theorem scan_back {gen : Nat} {tail : List (List UInt8)} {rs : List Rec} (h : LogIn gen 0 rs) (ht : scanOk tail gen rs.length = false) : scan (allSecs rs ++ tail) gen = (rs, (allSecs rs).length) := by
  rw [scan, scanG_log h, Nat.zero_add, scanG_stop ht]
  simp
theorem scan_whole {gen : Nat} {rs : List Rec} (h : LogIn gen 0 rs) : scan (allSecs rs) gen = (rs, (allSecs rs).length) := by
  have := scan_back (tail := []) h (scanOk_nil _ _)
  rwa [List.append_nil] at this
theorem scan_other {gen g : Nat} {r : Rec} {rs : List Rec} (h : LogIn gen 0 (r :: rs)) (hne : g ≠ gen) : scan (allSecs (r :: rs)) g = ([], 0) := by
  obtain ⟨h1, h2, h3, h4⟩ := h 0 r rfl
  refine scanG_stop ?_
  unfold scanOk
  rw [allSecs_cons, decode_trip h1 h2]
  exact decide_eq_false (fun e => hne (by rw [← h3]; exact e.2.1.symm))

theorem sectors_pos (r : Rec) : 1 ≤ (sectors r).length := by
  rw [sectors_len]
  have := List.length_pos_iff.2 (enc_ne r.gen)
  have h : 1 ≤ (payl r).length := by simp only [payl, List.length_append]; omega
  unfold nChunks; omega
/-- a record whose sector j is not there, or is none -/
theorem scanOk_miss {r : Rec} (ho : r.Ok) (hv : r.vld = true) {l : List (List UInt8)} {j gen cnt : Nat} (hj : j < (sectors r).length) (hl : ∀ i, i < j → l[i]? = (sectors r)[i]?) (hbad : ∀ s, l[j]? = some s → s = []) : scanOk l gen cnt = false := by
  have := miss_err (SecsOf.rec_ ho hv) (l := l) (k := j) (by rw [← sectors_len]; exact hj) (fun i hi => by rw [hl i hi, sectors_secsP]) (fun s hs => by rw [hbad s hs, insp_nil]; decide)
  unfold scanOk
  refine decide_eq_false (fun e => ?_)
  rcases this.2 with h | h <;> rw [h] at e <;> exact absurd e.1 (by decide)

theorem allSecs_split {rs : List Rec} {c : Nat} {r : Rec} (h : rs[c]? = some r) : allSecs rs = allSecs (rs.take c) ++ (sectors r ++ allSecs (rs.drop (c + 1))) := by
  have hc := (List.getElem?_eq_some_iff.1 h).1
  have e : rs = rs.take c ++ (r :: rs.drop (c + 1)) := by
    conv => lhs; rw [← List.take_append_drop c rs]
    rw [List.drop_eq_getElem_cons hc, (List.getElem?_eq_some_iff.1 h).2]
  conv => lhs; rw [e, allSecs_append, allSecs_cons]
theorem scan_cut {gen : Nat} {rs : List Rec} (h : LogIn gen 0 rs) {k c : Nat} {r : Rec} (hr : rs[c]? = some r) (h1 : (allSecs (rs.take c)).length ≤ k) (h2 : k < (allSecs (rs.take c)).length + (sectors r).length) :
    scan ((allSecs rs).take k) gen = (rs.take c, (allSecs (rs.take c)).length) ∧ scan ((allSecs rs).set k []) gen = (rs.take c, (allSecs (rs.take c)).length) := by
  obtain ⟨o1, o2, o3, o4⟩ := h c r hr
  have hc := (List.getElem?_eq_some_iff.1 hr).1
  have e := allSecs_split hr
  obtain ⟨u, hu⟩ : ∃ u, u = (allSecs (rs.take c)).length := ⟨_, rfl⟩
  rw [← hu] at h1 h2
  constructor
  · rw [e, List.take_append, List.take_of_length_le (by omega)]
    refine scan_back (h.take c) (scanOk_miss o1 o2 (j := k - u) (by omega) (fun i hi => ?_) (fun s hs => ?_))
    · rw [List.getElem?_take, if_pos (by omega), List.getElem?_append_left (by omega)]
    · rw [List.getElem?_take, if_neg (by omega)] at hs; cases hs
  · rw [e, List.set_append, if_neg (by omega)]
    refine scan_back (h.take c) (scanOk_miss o1 o2 (j := k - u) (by omega) (fun i hi => ?_) (fun s hs => ?_))
    · rw [List.getElem?_set, if_neg (by omega), List.getElem?_append_left (by omega)]
    · rw [List.getElem?_set, if_pos (by omega)] at hs
      split at hs
      · injection hs with hs; exact hs.symm
      · cases hs
/-- some record holds the sector k -/
theorem cut_in {rs : List Rec} {k c : Nat} (hk : k < (allSecs rs).length) (hc : rs.length ≤ c) : k < (allSecs (rs.take c)).length := by
  rw [List.take_of_length_le hc]; exact hk

theorem sec_len64 {r : Rec} (ho : r.Ok) (hv : r.vld = true) : ∀ s ∈ encP r, s.length ≤ 64 := by
  intro s hs
  have hl := payl_len ho (Rec.V.of hv)
  rw [encP, hv, if_pos rfl, sectors, secTo, List.mem_map] at hs
  obtain ⟨i, hi, rfl⟩ := hs
  have hi := List.mem_range.1 hi
  have hn : nChunks (payl r).length ≤ 200 := by unfold nChunks; omega
  have h1 := enc_len10 ho.gen
  have h2 := enc_len10 ho.seq
  have h3 := enc_len 1 i (by omega)
  have h4 := enc_len 1 (nChunks (payl r).length) (by omega)
  have h5 := (chunkAt_bd hi).2
  have h6 := enc_len 0 (chunkAt (payl r) i).length (by omega)
  simp only [secAt, sectorB, sectorH, sealB_len, List.length_append, List.length_cons]
  omega
theorem sectors_le {r : Rec} (ho : r.Ok) (hv : r.vld = true) : (sectors r).length ≤ 200 := by
  rw [sectors_len]
  have hl := payl_len ho (Rec.V.of hv)
  unfold nChunks; omega
theorem allSecs_le {rs : List Rec} (h : ∀ r ∈ rs, r.Ok ∧ r.vld = true) : (allSecs rs).length ≤ 200 * rs.length := by
  induction rs with
  | nil => simp [allSecs_nil]
  | cons r rs ih =>
    have h1 := sectors_le (h r (List.mem_cons_self ..)).1 (h r (List.mem_cons_self ..)).2
    have h2 := ih (fun x hx => h x (List.mem_cons_of_mem _ hx))
    rw [allSecs_cons, List.length_append, List.length_cons]
    omega
theorem logB_vld {rs : List Rec} (h : logB rs = true) : ∀ r ∈ rs, r.vld = true := by
  intro r hr
  obtain ⟨i, hi, rfl⟩ := List.mem_iff_getElem.1 hr
  have e := logB_at h hi
  unfold logAt at e
  rw [List.getElem?_eq_getElem hi, List.getElem?_eq_getElem (show 0 < rs.length by omega)] at e
  simp only [Bool.and_eq_true] at e
  exact e.1.1

theorem allSecs_short {rs : List Rec} (h : ∀ r ∈ rs, r.Ok ∧ r.vld = true) : ∀ s ∈ allSecs rs, s.length ≤ 64 := by
  intro s hs
  obtain ⟨r, hr, hs⟩ := List.mem_flatMap.1 hs
  exact sec_len64 (h r hr).1 (h r hr).2 s (by rw [encP, (h r hr).2, if_pos rfl]; exact hs)
theorem scan_other_ {gen g : Nat} {r : Rec} {rs : List Rec} (h : LogIn gen 0 rs) (h0 : rs[0]? = some r) (hne : g ≠ gen) : scan (allSecs rs) g = ([], 0) := by
  cases rs with
  | nil => simp at h0
  | cons r rs => exact scan_other h hne
theorem secsA_len {rs : List Rec} (ho : ∀ r ∈ rs, r.Ok) (hl : rs.length ≤ 5000) : (secsA rs).length ≤ 1000000 := by
  unfold secsA
  split
  · rename_i h
    have := allSecs_le (rs := rs) (fun r hr => ⟨ho r hr, logB_vld h r hr⟩)
    omega
  · simp
theorem scanF_len : ∀ (f : Nat) (ss : List (List UInt8)) (gen cnt : Nat), (scanF f ss gen cnt).1.length ≤ ss.length
  | 0, _, _, _ => by simp [scanF]
  | f + 1, ss, gen, cnt => by
    unfold scanF
    cases hk : scanOk ss gen cnt with
    | false => simp
    | true =>
      have hn := scanOk_n hk
      have := scanF_len f (ss.drop (decode ss).2.1) gen (cnt + 1)
      rw [List.length_drop] at this
      simp
      omega
theorem scan_len (ss : List (List UInt8)) (gen : Nat) : (scan ss gen).1.length ≤ ss.length := scanF_len _ _ _ _

/-- what Fits answers -/
def fitsB (area used : Int) (r : Rec) : Bool := decide (r.vld = true ∧ 0 ≤ area ∧ 0 ≤ used ∧ used ≤ area ∧ ((sectors r).length : Int) ≤ area - used)

/-- what Join answers -/
def joinF (best : List Rec) (l : List Rec) : List Rec := if logB l = true ∧ best.length < l.length then l else best
def joinP (ls : List (List Rec)) : List Rec := ls.foldl joinF []
theorem joinP_take {ls : List (List Rec)} {i : Nat} {l : List Rec} (h : ls[i]? = some l) : joinP (ls.take (i + 1)) = joinF (joinP (ls.take i)) l := by
  rw [List.take_add_one, h, Option.toList_some, joinP, List.foldl_append]; rfl
theorem joinP_mem (ls : List (List Rec)) : joinP ls = [] ∨ joinP ls ∈ ls := by
  suffices ∀ (ls : List (List Rec)) b, ls.foldl joinF b = b ∨ ls.foldl joinF b ∈ ls from this ls []
  intro ls
  induction ls with
  | nil => intro b; exact .inl rfl
  | cons l ls ih =>
    intro b
    rw [List.foldl_cons]
    rcases ih (joinF b l) with h | h
    · rw [h]
      unfold joinF
      split
      · exact .inr (List.mem_cons_self ..)
      · exact .inl rfl
    · exact .inr (List.mem_cons_of_mem _ h)

end Go.Proofs.Ytbcmpfdhpefdbaa
