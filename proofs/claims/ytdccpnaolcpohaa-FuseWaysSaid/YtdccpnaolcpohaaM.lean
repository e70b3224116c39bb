/- The plain law of MapsBack. -/
import Derived.Test.YtdccpnaolcpohaaL
namespace Go.Proofs.Ytdccpnaolcpohaa

theorem getElem_idxOf' (xs : List Int) (x : Int) (h : xs.idxOf x < xs.length) : xs[xs.idxOf x] = x := by
  simp

theorem idxF_get (xs : List Int) (i k : Nat) (h : idxF xs i = k) (hlt : idxF xs i ≠ -1) : xs[k]? = some (i : Int) := by
  unfold idxF indexF at h hlt
  by_cases hm : (i : Int) ∈ xs
  · rw [if_pos hm] at h
    have hk : xs.idxOf (i : Int) = k := by omega
    have hl := List.idxOf_lt_length_of_mem hm
    rw [← hk, List.getElem?_eq_getElem hl, getElem_idxOf' xs _ hl]
  · rw [if_neg hm] at hlt; exact absurd rfl hlt
theorem idxF_cases (xs : List Int) (i : Nat) : idxF xs i = -1 ∧ (i : Int) ∉ xs ∨ ∃ k : Nat, idxF xs i = k ∧ k < xs.length ∧ xs[k]? = some (i : Int) := by
  by_cases hm : (i : Int) ∈ xs
  · right
    have hl := List.idxOf_lt_length_of_mem hm
    refine ⟨xs.idxOf (i : Int), by unfold idxF indexF; rw [if_pos hm], hl, ?_⟩
    rw [List.getElem?_eq_getElem hl, getElem_idxOf' xs _ hl]
  · left
    exact ⟨by unfold idxF indexF; rw [if_neg hm], hm⟩

/-- Of two places of a rising list that go to one place, one is the other. -/
theorem up_inj {lo hi : Int} {xs : List Int} (h : UpP lo hi xs) {i j : Nat} {x : Int} (h1 : xs[i]? = some x) (h2 : xs[j]? = some x) (hx : x ≠ -1) : i = j := by
  rcases Nat.lt_trichotomy i j with hh | hh | hh
  · have := h.2 i j x x hh h1 h2 hx hx; omega
  · exact hh
  · have := h.2 j i x x hh h2 h1 hx hx; omega

theorem back_up (xs : List Int) (n : Nat) (h : UpP (-1) n xs) : UpP (-1) xs.length (tab (idxF xs) n) := by
  refine ⟨fun i x hi hx => ?_, fun i j x y hij hi hj hx hy => ?_⟩
  · have hin : i < n := by have := (List.getElem?_eq_some_iff.1 hi).1; rwa [tab_length] at this
    rw [tab_get _ _ _ hin] at hi
    simp only [Option.some.injEq] at hi
    subst hi
    rcases idxF_cases xs i with ⟨e, _⟩ | ⟨k, e, hk, _⟩
    · exact absurd e hx
    · omega
  · have hjn : j < n := by have := (List.getElem?_eq_some_iff.1 hj).1; rwa [tab_length] at this
    rw [tab_get _ _ _ (by omega)] at hi
    rw [tab_get _ _ _ hjn] at hj
    simp only [Option.some.injEq] at hi hj
    subst hi hj
    rcases idxF_cases xs i with ⟨e, _⟩ | ⟨k, e, hk, hk2⟩
    · exact absurd e hx
    rcases idxF_cases xs j with ⟨e', _⟩ | ⟨k', e', hk', hk2'⟩
    · exact absurd e' hy
    rw [e, e']
    rcases Nat.lt_trichotomy k k' with hh | hh | hh
    · omega
    · subst hh; rw [hk2] at hk2'; simp at hk2'; omega
    · have := h.2 k' k _ _ hh hk2' hk2 (by omega) (by omega); omega

theorem back_back (xs : List Int) (n : Nat) (h : UpP (-1) n xs) : tab (idxF (tab (idxF xs) n)) xs.length = xs := by
  apply List.ext_getElem?
  intro i
  by_cases hi : i < xs.length
  · rw [tab_get _ _ _ hi, List.getElem?_eq_getElem hi]
    congr 1
    have hxi : xs[i]? = some xs[i] := List.getElem?_eq_getElem hi
    generalize xs[i] = x at hxi
    by_cases e : x = -1
    · subst e
      rcases idxF_cases (tab (idxF xs) n) i with ⟨e, _⟩ | ⟨k, e, hk, hk2⟩
      · exact e
      · rw [tab_length] at hk
        rw [tab_get _ _ _ hk] at hk2
        simp only [Option.some.injEq] at hk2
        rcases idxF_cases xs k with ⟨e1, _⟩ | ⟨k1, e1, _, hk4⟩
        · omega
        · have : k1 = i := by omega
          subst this; rw [hk4] at hxi; simp at hxi
    · have hb := h.1 i x hxi e
      obtain ⟨k, rfl⟩ := Int.eq_ofNat_of_zero_le (show 0 ≤ x by omega)
      have hkn : k < n := by omega
      have hik : idxF xs k = i := by
        rcases idxF_cases xs k with ⟨_, e1⟩ | ⟨k1, e1, _, hk4⟩
        · exact absurd (List.mem_of_getElem? hxi) e1
        · have := up_inj h hk4 hxi e; omega
      rcases idxF_cases (tab (idxF xs) n) i with ⟨_, e2⟩ | ⟨k2, e2, hk2, hk3⟩
      · exact absurd (List.mem_of_getElem? (show (tab (idxF xs) n)[k]? = some (i : Int) by rw [tab_get _ _ _ hkn, hik])) e2
      · have := up_inj (back_up xs n h) hk3 (show (tab (idxF xs) n)[k]? = some (i : Int) by rw [tab_get _ _ _ hkn, hik]) (by omega)
        omega
  · rw [List.getElem?_eq_none (by rw [tab_length]; omega), List.getElem?_eq_none (by omega)]

/-- There and back. -/
theorem there_back (xs : List Int) (n : Nat) (h : UpP (-1) n xs) (i : Nat) (hi : i < xs.length) (h0 : 0 ≤ xs.getD i 0) :
    imageF (tab (idxF xs) n) xs.length (imageF xs n i) = i := by
  rw [imageF_in xs n i (by omega) (by omega)]
  simp only [Int.toNat_natCast]
  have hxi : xs[i]? = some (xs.getD i 0) := by simp [List.getD, hi]
  have hb := h.1 i _ hxi (by omega)
  generalize xs.getD i 0 = x at *
  obtain ⟨k, rfl⟩ := Int.eq_ofNat_of_zero_le h0
  rw [image_tab _ _ _ _ (by omega) (by omega)]
  simp only [Int.toNat_natCast]
  rcases idxF_cases xs k with ⟨_, e1⟩ | ⟨k1, e1, _, hk4⟩
  · exact absurd (List.mem_of_getElem? hxi) e1
  · have := up_inj h hk4 hxi (by omega); omega

end Go.Proofs.Ytdccpnaolcpohaa
