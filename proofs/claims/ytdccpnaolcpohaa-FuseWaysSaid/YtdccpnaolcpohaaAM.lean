/- Plain law: the places that the reference finds behind an old one are those of the run. -/
import Derived.Test.YtdccpnaolcpohaaAK
import Derived.Test.YtdccpnaolcpohaaAF
namespace Go.Proofs.Ytdccpnaolcpohaa

theorem behF_spec (xs : List Int) (at_ : Int) (k : Nat) : (behF xs at_ k = -1 ∧ ∀ i, i < k → ¬ (0 ≤ xs.getD i 0 ∧ xs.getD i 0 < at_)) ∨
    ∃ i, i < k ∧ behF xs at_ k = (i : Int) ∧ (0 ≤ xs.getD i 0 ∧ xs.getD i 0 < at_) ∧ ∀ j, i < j → j < k → ¬ (0 ≤ xs.getD j 0 ∧ xs.getD j 0 < at_) := by
  induction k with
  | zero => exact .inl ⟨rfl, fun i hi => by omega⟩
  | succ k ih =>
    by_cases h : 0 ≤ xs.getD k 0 ∧ xs.getD k 0 < at_
    · rw [behF, if_pos h]
      exact .inr ⟨k, by omega, rfl, h, fun j h1 h2 => by omega⟩
    · rw [behF, if_neg h]
      rcases ih with ⟨e, h1⟩ | ⟨i, hi, e, h1, h2⟩
      · exact .inl ⟨e, fun i hi => by
          by_cases c : i = k
          · subst c; exact h
          · exact h1 i (by omega)⟩
      · exact .inr ⟨i, by omega, e, h1, fun j hj1 hj2 => by
          by_cases c : j = k
          · subst c; exact h
          · exact h2 j hj1 (by omega)⟩

theorem not_mem_neg {xs : List Int} {v : Nat} : idxF xs v < 0 ↔ (v : Int) ∉ xs := by rw [idxF_neg, has_mem]

theorem own_iff {xs : List Int} {n : Nat} (hu : UpP (-1) n xs) (g : Int) (hg0 : -1 ≤ g) (hg : g < xs.length) (k : Nat) (hk : k < n) :
    (idxF xs k < 0 ∧ behF xs k xs.length = g) ↔ (fromF xs g ≤ k ∧ k < fromF xs g + cntF xs n g) := by
  rw [not_mem_neg]
  by_cases h0 : g < 0
  · have e : g = -1 := by omega
    subst e
    obtain ⟨hF, hf, hr⟩ := fr_start hu
    rw [hf, Nat.zero_add]
    constructor
    · rintro ⟨h1, h2⟩
      refine ⟨by omega, ?_⟩
      rcases behF_spec xs k xs.length with ⟨_, hb⟩ | ⟨i, hi, e, _⟩
      · rcases hF.at_ with c | ⟨i, _, hi, e⟩
        · omega
        · by_cases c : k < cntF xs n (-1)
          · exact c
          · exact absurd ⟨by omega, by
              have : xs.getD i 0 ≠ k := fun h => h1 (by rw [← h]; exact at_mem hi)
              omega⟩ (hb i hi)
      · omega
    · rintro ⟨_, h2⟩
      refine ⟨hr k h2, ?_⟩
      rcases behF_spec xs k xs.length with ⟨e, _⟩ | ⟨i, hi, _, hb, _⟩
      · exact e
      · have := hF.lo i (by omega) hi hb.1; omega
  · obtain ⟨j, rfl⟩ := Int.eq_ofNat_of_zero_le (show 0 ≤ g by omega)
    have hj : j < xs.length := by omega
    by_cases hx : xs.getD j 0 < 0
    · rw [cnt_gone hx]
      constructor
      · rintro ⟨_, h2⟩
        rcases behF_spec xs k xs.length with ⟨e, _⟩ | ⟨i, hi, e, hb, _⟩
        · omega
        · have : i = j := by omega
          subst this; omega
      · rintro ⟨a, b⟩; omega
    · have hxn := up_hi hu hj (by omega)
      have hf : fromF xs j = (xs.getD j 0).toNat + 1 := by rw [fromF, if_neg (by omega), Int.toNat_natCast]; omega
      have hc : cntF xs n j = runF xs n (fromF xs j) := by rw [cntF, if_neg (by rw [Int.toNat_natCast]; omega)]
      obtain ⟨r1, r2, r3⟩ := run_spec xs n _ (fromF xs j) rfl (by omega)
      rw [hc]
      constructor
      · rintro ⟨h1, h2⟩
        rcases behF_spec xs k xs.length with ⟨e, _⟩ | ⟨i, hi, e, hb, hb2⟩
        · omega
        · have e' : i = j := by omega
          subst e'
          refine ⟨by omega, ?_⟩
          by_cases c : k < fromF xs i + runF xs n (fromF xs i)
          · exact c
          · rcases r2 with r2 | r2
            · omega
            · obtain ⟨q, hq, eq⟩ := mem_at r2
              have hkq : xs.getD q 0 ≠ k := fun h => h1 (by rw [← h]; exact at_mem hq)
              by_cases c2 : q ≤ i
              · by_cases c3 : q = i
                · subst c3; omega
                · have := up_lt hu (show q < i by omega) hi (by omega) hb.1; omega
              · exact absurd ⟨by omega, by omega⟩ (hb2 q (by omega) hq)
      · rintro ⟨h1, h2⟩
        refine ⟨r3 k h1 h2, ?_⟩
        rcases behF_spec xs k xs.length with ⟨e, hb⟩ | ⟨i, hi, e, hb, hb2⟩
        · exact absurd ⟨by omega, by omega⟩ (hb j hj)
        · rw [e]
          by_cases c : i = j
          · rw [c]
          · rcases Nat.lt_or_gt_of_ne c with c | c
            · exact absurd ⟨by omega, by omega⟩ (hb2 j c hj)
            · have h3 := up_lt hu c hi (by omega) hb.1
              exact absurd (at_mem hi) (by have := r3 (xs.getD i 0).toNat (by omega) (by omega); rwa [Int.toNat_of_nonneg hb.1] at this)

theorem own_run {xs : List Int} {n : Nat} (hu : UpP (-1) n xs) (g : Int) (hg0 : -1 ≤ g) (hg : g < xs.length) (k : Nat) (hk : k ≤ n) :
    ownR (bck xs n) xs g k = tab (shift (fromF xs g)) (min (cntF xs n g) (k - fromF xs g)) := by
  induction k with
  | zero => simp [ownR, tab]
  | succ k ih =>
    have hb : (bck xs n).getD k 0 = idxF xs k := tab_getD _ _ _ (by omega)
    have hi := own_iff hu g hg0 hg k (by omega)
    rw [← hb] at hi
    by_cases c : (bck xs n).getD k 0 < 0 ∧ behF xs k xs.length = g
    · obtain ⟨h1, h2⟩ := hi.1 c
      rw [ownR_yes _ _ _ _ c.1 c.2, ih (by omega), show min (cntF xs n g) (k - fromF xs g) = k - fromF xs g from by omega, show min (cntF xs n g) (k + 1 - fromF xs g) = (k - fromF xs g) + 1 from by omega, shift_succ]
      congr 2
      simp only [shift]; omega
    · rw [ownR_no _ _ _ _ c, ih (by omega)]
      have : ¬ (fromF xs g ≤ k ∧ k < fromF xs g + cntF xs n g) := fun h => c (hi.2 h)
      congr 1; omega

theorem cnt_top {xs : List Int} {n : Nat} (hu : UpP (-1) n xs) (g : Int) (hg : g < xs.length) (h0 : 0 < cntF xs n g) : fromF xs g + cntF xs n g ≤ n := by
  unfold cntF at h0 ⊢
  split at h0
  · omega
  · rename_i hn
    rw [if_neg hn]
    have := runF_le xs n (fromF xs g); omega

theorem own_same {xs : List Int} {n : Nat} (hu : UpP (-1) n xs) (g : Int) (hg0 : -1 ≤ g) (hg : g < xs.length) : ownR (bck xs n) xs g n = ownP xs n g := by
  rw [own_run hu g hg0 hg n (Nat.le_refl _), ownP]
  by_cases h : cntF xs n g = 0
  · rw [h, Nat.zero_min]
  · have := cnt_top hu g hg (by omega)
    rw [show min (cntF xs n g) (n - fromF xs g) = cntF xs n g from by omega]

end Go.Proofs.Ytdccpnaolcpohaa
