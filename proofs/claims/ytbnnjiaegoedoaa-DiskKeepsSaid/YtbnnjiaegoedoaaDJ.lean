/- The plain law of DiskKeeps: what the sectors are behind each step. -/
import Derived.Test.YtbnnjiaegoedoaaDI
namespace Go.Proofs.Ytbnnjiaegoedoaa
open Go.RowKit

def mk (f : Nat → Sec) : List Sec := (List.range 24).map f
theorem mk_length (f : Nat → Sec) : (mk f).length = 24 := by simp [mk]
theorem mk_at (f : Nat → Sec) (i : Nat) (h : i < 24) : (mk f)[i]? = some (f i) := by simp [mk, h]
theorem mk_ext {f g : Nat → Sec} (h : ∀ i, i < 24 → f i = g i) : mk f = mk g := by
  unfold mk; exact List.map_congr_left fun i hi => h i (List.mem_range.1 hi)
theorem mk_set (f : Nat → Sec) (k : Nat) (s : Sec) : (mk f).set k s = mk (fun i => if i = k then s else f i) := by
  apply List.ext_getElem?
  intro i
  by_cases hi : i < 24
  · rw [mk_at _ _ hi, List.getElem?_set, mk_length]
    by_cases e : k = i
    · subst e; simp [hi]
    · rw [if_neg e, mk_at _ _ hi, if_neg (Ne.symm e)]
  · rw [List.getElem?_eq_none (by rw [List.length_set, mk_length]; omega), List.getElem?_eq_none (by rw [mk_length]; omega)]
theorem mk_map (f : Nat → Sec) (g : Sec → Sec) : (mk f).map g = mk (fun i => g (f i)) := by simp [mk]
theorem mk_const (s : Sec) (n : Nat) : (List.range n).map (fun _ => s) = List.replicate n s := by
  apply List.ext_getElem?
  intro i
  by_cases hi : i < n
  · simp [hi]
  · rw [List.getElem?_eq_none (by simp; omega), List.getElem?_eq_none (by simp; omega)]
theorem mk_zero : mk (fun _ => Sec.zero) = List.replicate 24 Sec.zero := mk_const _ _

def f1 (ns : List Int) (k i : Nat) : Sec := if i < k then ⟨secB (ns.getD i 0), zeros64, true⟩ else Sec.zero
def f2 (ns : List Int) (n i : Nat) : Sec := if i < n then ⟨secB (ns.getD i 0), secB (ns.getD i 0), false⟩ else Sec.zero
def f3 (ns ms : List Int) (n k i : Nat) : Sec := if 4 ≤ i ∧ i < 4 + k then ⟨secB (ms.getD (i - 4) 0), (f2 ns n i).safe, true⟩ else f2 ns n i
theorem f1_zero (ns : List Int) : mk (f1 ns 0) = List.replicate 24 Sec.zero := by
  rw [← mk_zero]; exact mk_ext fun i _ => by simp [f1]
theorem f1_at (ns : List Int) (k : Nat) (h : k < 24) : (mk (f1 ns k))[k]? = some Sec.zero := by rw [mk_at _ _ h]; simp [f1]
theorem f1_step (ns : List Int) (k : Nat) : (mk (f1 ns k)).set k ⟨secB (ns.getD k 0), Sec.zero.safe, true⟩ = mk (f1 ns (k + 1)) := by
  rw [mk_set]
  refine mk_ext fun i _ => ?_
  unfold f1
  by_cases e : i = k
  · subst e; rw [if_pos rfl, if_pos (Nat.lt_succ_self _)]; rfl
  · rw [if_neg e]
    by_cases h : i < k
    · rw [if_pos h, if_pos (by omega)]
    · rw [if_neg h, if_neg (by omega)]
theorem f2_settled (ns : List Int) (n : Nat) : (mk (f1 ns n)).map Sec.settled = mk (f2 ns n) := by
  rw [mk_map]
  refine mk_ext fun i _ => ?_
  unfold f1 f2
  by_cases h : i < n
  · rw [if_pos h, if_pos h]; rfl
  · rw [if_neg h, if_neg h]; rfl
theorem f2_loose (ns : List Int) (n i : Nat) : (f2 ns n i).loose = false := by
  unfold f2; by_cases h : i < n
  · rw [if_pos h]
  · rw [if_neg h]; rfl
theorem f2_same (ns : List Int) (n i : Nat) : (f2 ns n i).now = if i < n then secB (ns.getD i 0) else zeros64 := by
  unfold f2; by_cases h : i < n
  · rw [if_pos h, if_pos h]
  · rw [if_neg h, if_neg h]; rfl
theorem f2_safe (ns : List Int) (n i : Nat) : (f2 ns n i).safe = if i < n then secB (ns.getD i 0) else zeros64 := by
  unfold f2; by_cases h : i < n
  · rw [if_pos h, if_pos h]
  · rw [if_neg h, if_neg h]; rfl
theorem f3_zero (ns ms : List Int) (n : Nat) : mk (f3 ns ms n 0) = mk (f2 ns n) := mk_ext fun i _ => by unfold f3; rw [if_neg (by omega)]
theorem f3_at (ns ms : List Int) (n k : Nat) (h : k + 4 < 24) : (mk (f3 ns ms n k))[k + 4]? = some (f2 ns n (k + 4)) := by
  rw [mk_at _ _ h]; unfold f3; rw [if_neg (by omega)]
theorem f3_step (ns ms : List Int) (n k : Nat) : (mk (f3 ns ms n k)).set (k + 4) ⟨secB (ms.getD k 0), (f2 ns n (k + 4)).safe, true⟩ = mk (f3 ns ms n (k + 1)) := by
  rw [mk_set]
  refine mk_ext fun i _ => ?_
  unfold f3
  by_cases e : i = k + 4
  · subst e; rw [if_pos rfl, if_pos (by omega), show k + 4 - 4 = k by omega]
  · rw [if_neg e]
    by_cases h : 4 ≤ i ∧ i < 4 + k
    · rw [if_pos h, if_pos (by omega)]
    · rw [if_neg h, if_neg (by omega)]
theorem f3_loose (ns ms : List Int) (n k i : Nat) : (f3 ns ms n k i).loose = decide (4 ≤ i ∧ i < 4 + k) := by
  unfold f3; by_cases h : 4 ≤ i ∧ i < 4 + k
  · rw [if_pos h, decide_eq_true h]
  · rw [if_neg h, decide_eq_false h, f2_loose]
theorem f3_count (ns ms : List Int) (n m : Nat) : ∀ i, i ≤ 24 → looseN (mk (f3 ns ms n m)) i = min (i - 4) m
  | 0, _ => by simp [looseN]
  | i + 1, hi => by
    rw [looseN_succ _ i _ (mk_at _ i (by omega)), f3_count ns ms n m i (by omega), f3_loose]
    by_cases h : 4 ≤ i ∧ i < 4 + m
    · rw [decide_eq_true h, if_pos rfl]; omega
    · rw [decide_eq_false h]; simp only [Bool.false_eq_true, if_false]; omega
theorem settled_loose (l : List Sec) (k : Nat) : looseN (l.map Sec.settled) k = 0 := by
  unfold looseN
  rw [List.countP_eq_zero]
  intro s hs
  obtain ⟨t, _, rfl⟩ := List.mem_map.1 (List.mem_of_mem_take hs)
  simp [Sec.settled]
/-- What a place must have at the end. -/
def wantL (ns ms : List Int) (ks : List Bool) (i : Nat) : List UInt8 :=
  if 4 ≤ i ∧ i - 4 < ms.length ∧ kept ks (i - 4) = true then secB (ms.getD (i - 4) 0) else if i < ns.length then secB (ns.getD i 0) else zeros64
def finL (ns ms : List Int) (ks : List Bool) : List Sec := (fellK (mk (f3 ns ms ns.length ms.length)) ks (mk (f3 ns ms ns.length ms.length)).length).map Sec.settled
theorem finL_length (ns ms : List Int) (ks : List Bool) : (finL ns ms ks).length = 24 := by
  unfold finL; rw [List.length_map, fellK_length _ _ _ (Nat.le_refl _), mk_length]
theorem finL_at (ns ms : List Int) (ks : List Bool) (i : Nat) (h : i < 24) : ∃ s, (finL ns ms ks)[i]? = some s ∧ s.now = wantL ns ms ks i := by
  refine ⟨_, fell_at _ ks i _ (mk_at _ i h), ?_⟩
  rw [f3_count _ _ _ _ i (by omega)]
  show (fellS ks _ _).now = _
  unfold wantL
  by_cases h4 : 4 ≤ i ∧ i < 4 + ms.length
  · have hm : min (i - 4) ms.length = i - 4 := by omega
    rw [hm]
    have hlo : (f3 ns ms ns.length ms.length i).loose = true := by rw [f3_loose, decide_eq_true h4]
    have hv : f3 ns ms ns.length ms.length i = ⟨secB (ms.getD (i - 4) 0), (f2 ns ns.length i).safe, true⟩ := by unfold f3; rw [if_pos h4]
    cases hk : kept ks (i - 4) with
    | true => rw [fellS_kept hk, if_pos ⟨h4.1, by omega, rfl⟩, hv]
    | false => rw [fellS_gone hlo hk, if_neg (by simp), hv]; exact f2_safe ns ns.length i
  · have hlo : (f3 ns ms ns.length ms.length i).loose = false := by rw [f3_loose, decide_eq_false h4]
    have hv : f3 ns ms ns.length ms.length i = f2 ns ns.length i := by unfold f3; rw [if_neg h4]
    rw [if_neg (by omega)]
    unfold fellS
    rw [hlo, if_neg (by decide), hv]
    exact f2_same ns ns.length i
theorem finL_loose (ns ms : List Int) (ks : List Bool) (k : Nat) : looseN (finL ns ms ks) k = 0 := settled_loose _ _

/-- The bytes of any slice as a string. -/
theorem conv_bys {w : World} {a : Option Addr} {cap : Nat} {bs : List UInt8} (h : Bys 0 w a bs) : (convert 22 9 (.slice a bs.length cap)).run Try.prog w = .ok (str bs) w := by
  rcases h with hB | ⟨b, off, rfl, _, _, hc⟩
  · have : bs = [] := by simpa [nums] using hB
    subst this
    cases a with
    | none => exact run_convert_bytes_nil w 22 5 Try.underlying22 Try.underlying5 _ _ 9 Try.underlying9
    | some a => exact run_convert_bytes_back w 22 9 5 a cap [] Try.underlying22 Try.underlying5 Try.underlying9 (fun j hj => by simp at hj)
  · refine run_convert_bytes_back w 22 9 5 _ cap bs Try.underlying22 Try.underlying5 Try.underlying9 (fun j hj => ?_)
    rw [Addr.add_mid, hc j (by rw [nums_length]; exact hj)]
    simp [nums, List.getD, hj]
end Go.Proofs.Ytbnnjiaegoedoaa
