/- Plain laws on rising lists of places: no program is walked here. -/
import Derived.Test.YtdccpnaolcpohaaG
namespace Go.Proofs.Ytdccpnaolcpohaa

/-- Those that are not -1 lie between lo and hi, and rise. -/
def UpP (lo hi : Int) (xs : List Int) : Prop :=
  (∀ (i : Nat) (x : Int), xs[i]? = some x → x ≠ -1 → lo < x ∧ x < hi) ∧ ∀ (i j : Nat) (x y : Int), i < j → xs[i]? = some x → xs[j]? = some y → x ≠ -1 → y ≠ -1 → x < y

theorem rises_iff (hi : Int) (xs : List Int) : ∀ lo, rises lo hi xs = true ↔ UpP lo hi xs := by
  induction xs with
  | nil => intro lo; simp [rises, UpP]
  | cons k r ih =>
    intro lo
    by_cases e : k = -1
    · rw [rises, if_pos e, ih]
      constructor
      · rintro ⟨h1, h2⟩
        refine ⟨fun i x hi hx => ?_, fun i j x y hij hi hj hx hy => ?_⟩
        · cases i with
          | zero => simp at hi; subst hi; exact absurd e hx
          | succ i => exact h1 i x (by simpa using hi) hx
        · cases i with
          | zero => simp at hi; subst hi; exact absurd e hx
          | succ i =>
            cases j with
            | zero => omega
            | succ j => exact h2 i j x y (by omega) (by simpa using hi) (by simpa using hj) hx hy
      · rintro ⟨h1, h2⟩
        exact ⟨fun i x hi hx => h1 (i + 1) x (by simpa using hi) hx, fun i j x y hij hi hj hx hy => h2 (i + 1) (j + 1) x y (by omega) (by simpa using hi) (by simpa using hj) hx hy⟩
    · rw [rises, if_neg e]
      constructor
      · intro h
        by_cases e1 : k ≤ lo
        · rw [if_pos e1] at h; cases h
        · rw [if_neg e1] at h
          by_cases e2 : k ≥ hi
          · rw [if_pos e2] at h; cases h
          · rw [if_neg e2, ih] at h
            obtain ⟨h1, h2⟩ := h
            refine ⟨fun i x hi' hx => ?_, fun i j x y hij hi' hj hx hy => ?_⟩
            · cases i with
              | zero => simp at hi'; subst hi'; omega
              | succ i => have := h1 i x (by simpa using hi') hx; omega
            · cases j with
              | zero => omega
              | succ j =>
                cases i with
                | zero => simp at hi'; subst hi'; exact (h1 j y (by simpa using hj) hy).1
                | succ i => exact h2 i j x y (by omega) (by simpa using hi') (by simpa using hj) hx hy
      · rintro ⟨h1, h2⟩
        have hk := h1 0 k (by simp) e
        rw [if_neg (by omega), if_neg (by omega), ih]
        refine ⟨fun i x hi' hx => ⟨h2 0 (i + 1) k x (by omega) (by simp) (by simpa using hi') e hx, (h1 (i + 1) x (by simpa using hi') hx).2⟩, fun i j x y hij hi' hj hx hy => h2 (i + 1) (j + 1) x y (by omega) (by simpa using hi') (by simpa using hj) hx hy⟩

theorem UpP.mono {lo hi hi' : Int} {xs : List Int} (h : UpP lo hi xs) (hh : hi ≤ hi') : UpP lo hi' xs := ⟨fun i x h1 h2 => by have := h.1 i x h1 h2; omega, h.2⟩
theorem UpP.nil (lo hi : Int) : UpP lo hi [] := ⟨by simp, by simp⟩
theorem UpP.gone {lo hi : Int} {xs : List Int} (h : UpP lo hi xs) : UpP lo hi (xs ++ [-1]) := by
  refine ⟨fun i x h1 h2 => ?_, fun i j x y hij h1 h2 hx hy => ?_⟩
  · rw [List.getElem?_append] at h1
    split at h1
    · exact h.1 i x h1 h2
    · rw [List.getElem?_singleton] at h1; split at h1 <;> simp at h1; omega
  · rw [List.getElem?_append] at h1 h2
    split at h2
    · rw [if_pos (by omega)] at h1; exact h.2 i j x y hij h1 h2 hx hy
    · rw [List.getElem?_singleton] at h2; split at h2 <;> simp at h2; omega
theorem UpP.next {lo hi : Int} {xs : List Int} (h : UpP lo hi xs) (hlo : lo < hi) : UpP lo (hi + 1) (xs ++ [hi]) := by
  refine ⟨fun i x h1 h2 => ?_, fun i j x y hij h1 h2 hx hy => ?_⟩
  · rw [List.getElem?_append] at h1
    split at h1
    · have := h.1 i x h1 h2; omega
    · rw [List.getElem?_singleton] at h1; split at h1 <;> simp at h1; omega
  · rw [List.getElem?_append] at h1 h2
    split at h2
    · rw [if_pos (by omega)] at h1; exact h.2 i j x y hij h1 h2 hx hy
    · rw [List.getElem?_singleton] at h2
      split at h2
      · simp at h2
        rw [if_pos (by omega)] at h1
        have := h.1 i x h1 hx; omega
      · simp at h2
theorem UpP.take {lo hi : Int} {xs : List Int} (h : UpP lo hi xs) (n : Nat) : UpP lo hi (xs.take n) := by
  refine ⟨fun i x h1 h2 => ?_, fun i j x y hij h1 h2 hx hy => ?_⟩
  · rw [List.getElem?_take] at h1
    split at h1
    · exact h.1 i x h1 h2
    · simp at h1
  · rw [List.getElem?_take] at h1 h2
    split at h2
    · rw [if_pos (by omega)] at h1; exact h.2 i j x y hij h1 h2 hx hy
    · simp at h2

theorem make_up (ns : List Int) (hb : ∀ i, 0 ≤ ns.getD i 0) (k : Nat) (h : k ≤ ns.length) : UpP (-1) (makeNew ns k) (makeTo ns k) ∧ 0 ≤ makeNew ns k := by
  induction k with
  | zero => exact ⟨UpP.nil _ _, by simp [makeNew]⟩
  | succ k ih =>
    obtain ⟨a, b⟩ := ih (by omega)
    have hk := hb k
    by_cases h0 : ns.getD k 0 % 4 = 0
    · obtain ⟨e1, e2⟩ := make_0 ns k (by omega) h0
      rw [e1, e2]; exact ⟨a.gone, b⟩
    · by_cases h1 : ns.getD k 0 % 4 = 1
      · obtain ⟨e1, e2⟩ := make_1 ns k (by omega) h1
        rw [e1, e2]; exact ⟨a.mono (by omega), by omega⟩
      · obtain ⟨e1, e2⟩ := make_2 ns k (by omega) h0 h1
        rw [e1, e2]; exact ⟨a.next (by omega), by omega⟩

/-- The list filled up by places of its own: j more. -/
def padF (ys : List Int) (nb : Int) (j : Nat) : List Int := ys ++ tab (fun i => nb + i) j
theorem pad_succ (ys : List Int) (nb : Int) (j : Nat) : padF ys nb (j + 1) = padF ys nb j ++ [nb + j] := by
  simp [padF, tab, List.range_succ]
theorem pad_zero (ys : List Int) (nb : Int) : padF ys nb 0 = ys := by simp [padF, tab]
theorem pad_length (ys : List Int) (nb : Int) (j : Nat) : (padF ys nb j).length = ys.length + j := by simp [padF, tab]
theorem pad_up (ys : List Int) (nb : Int) (h : UpP (-1) nb ys) (h0 : 0 ≤ nb) (j : Nat) : UpP (-1) (nb + j) (padF ys nb j) := by
  induction j with
  | zero => simpa [pad_zero] using h
  | succ j ih =>
    rw [pad_succ]
    have := ih.next (by omega)
    rw [show nb + ((j + 1 : Nat) : Int) = nb + j + 1 from by omega]; exact this

theorem mayF_up (xs : List Int) (new : Int) (h : UpP (-1) new xs) (h0 : 0 ≤ new) (h1 : new ≤ 1048576) (h2 : xs.length ≤ 1048576) : mayF xs new = true := by
  rw [mayF, if_neg (by omega), if_neg (by omega), if_neg (by omega)]
  exact (rises_iff _ _ _).2 h

theorem imageF_gone (ys : List Int) (nb : Int) : imageF ys nb (-1) = -1 := imageF_neg _ _ _ (by omega)

theorem getD_of {xs : List Int} {i : Nat} {x : Int} (h : xs[i]? = some x) : xs.getD i 0 = x := by simp [List.getD, h]

theorem image_some (ys : List Int) (nb x : Int) (h0 : 0 ≤ x) (h1 : x < ys.length) : ys[x.toNat]? = some (imageF ys nb x) := by
  rw [imageF_in ys nb x (by omega) h1]
  have : x.toNat < ys.length := by omega
  simp [List.getD, this]

theorem then_up (xs ys : List Int) (n : Nat) (nb : Int) (hx : UpP (-1) n xs) (hy : UpP (-1) nb ys) (hl : ys.length = n) : UpP (-1) nb (thenF xs ys nb) := by
  have key : ∀ (i : Nat) (z : Int), (thenF xs ys nb)[i]? = some z → z ≠ -1 → ∃ x : Int, xs[i]? = some x ∧ x ≠ -1 ∧ 0 ≤ x ∧ x < ys.length ∧ ys[x.toNat]? = some z := by
    intro i z hz hne
    simp only [thenF, List.getElem?_map, Option.map_eq_some_iff] at hz
    obtain ⟨x, hxi, e⟩ := hz
    have hx1 : x ≠ -1 := fun hh => by subst hh; rw [imageF_gone] at e; exact hne e.symm
    have := hx.1 i x hxi hx1
    exact ⟨x, hxi, hx1, by omega, by omega, by rw [image_some ys nb x (by omega) (by omega), e]⟩
  refine ⟨fun i z hz hne => ?_, fun i j z u hij hz hu hne hne2 => ?_⟩
  · obtain ⟨x, _, _, _, _, h⟩ := key i z hz hne
    exact hy.1 _ _ h hne
  · obtain ⟨x, a1, a2, a3, a4, h⟩ := key i z hz hne
    obtain ⟨y, b1, b2, b3, b4, h'⟩ := key j u hu hne2
    have := hx.2 i j x y hij a1 b1 a2 b2
    exact hy.2 x.toNat y.toNat z u (by omega) h h' hne hne2

theorem then_image (xs ys : List Int) (n : Nat) (nb : Int) (k : Nat) (hl : ys.length = n) : imageF (thenF xs ys nb) nb k = imageF ys nb (imageF xs n k) := by
  have hlen : (thenF xs ys nb).length = xs.length := by simp [thenF]
  by_cases hk : k < xs.length
  · rw [imageF_in _ _ _ (by omega) (by rw [hlen]; omega), imageF_in xs _ _ (by omega) (by omega)]
    simp [thenF, List.getD, hk]
  · rw [imageF_out _ _ _ (by rw [hlen]; omega), imageF_out xs _ _ (by omega), imageF_out ys _ _ (by omega), hlen]
    omega

end Go.Proofs.Ytdccpnaolcpohaa
