/- The plain law of MapsSpan, and its walk. -/
import Derived.Test.YtdccpnaolcpohaaJ
namespace Go.Proofs.Ytdccpnaolcpohaa
open Go.RowKit

/-- What the law's own loop has after j places from a on: is there one, the first, the last. -/
def lwS (f : Nat → Int) (a : Nat) : Nat → Bool
  | 0 => false
  | j + 1 => if f (a + j) < 0 then lwS f a j else true
def lwL (f : Nat → Int) (a : Nat) : Nat → Int
  | 0 => 0
  | j + 1 => if f (a + j) < 0 then lwL f a j else if lwS f a j = true then lwL f a j else f (a + j)
def lwM (f : Nat → Int) (a : Nat) : Nat → Int
  | 0 => 0
  | j + 1 => if f (a + j) < 0 then lwM f a j else f (a + j)

theorem lw_skip (f : Nat → Int) (a j : Nat) (h : f (a + j) < 0) : lwS f a (j + 1) = lwS f a j ∧ lwL f a (j + 1) = lwL f a j ∧ lwM f a (j + 1) = lwM f a j := by
  simp only [lwS, lwL, lwM, if_pos h, and_self]
theorem lw_first (f : Nat → Int) (a j : Nat) (h : ¬ f (a + j) < 0) (hs : lwS f a j = false) : lwS f a (j + 1) = true ∧ lwL f a (j + 1) = f (a + j) ∧ lwM f a (j + 1) = f (a + j) := by
  simp only [lwS, lwL, lwM, if_neg h, hs]; simp
theorem lw_more (f : Nat → Int) (a j : Nat) (h : ¬ f (a + j) < 0) (hs : lwS f a j = true) : lwS f a (j + 1) = true ∧ lwL f a (j + 1) = lwL f a j ∧ lwM f a (j + 1) = f (a + j) := by
  simp only [lwS, lwL, lwM, if_neg h, hs]; simp

theorem lw_old (xs : List Int) (n : Nat) (f : Nat → Int) (hu : UpP (-1) n xs) (hf : ∀ i, i < xs.length → f i = xs.getD i 0) (a j : Nat) (hj : a + j ≤ xs.length ∨ j = 0) :
    (lwS f a j = false → spA xs a j = -1 ∧ spB xs a j = -1 ∧ lwL f a j = 0 ∧ lwM f a j = 0) ∧
    (lwS f a j = true → spA xs a j = lwL f a j ∧ 0 ≤ lwL f a j ∧ spB xs a j = lwM f a j ∧ lwM f a j ≠ -1 ∧ ∃ p, p < a + j ∧ xs[p]? = some (lwM f a j)) := by
  induction j with
  | zero => simp [lwS, spA, spB, lwL, lwM]
  | succ j ih =>
    have hlt : a + j < xs.length := by omega
    obtain ⟨i1, i2⟩ := ih (by omega)
    have hfx := hf (a + j) hlt
    have hget : xs[a + j]? = some (xs.getD (a + j) 0) := by simp [List.getD, hlt]
    by_cases h : f (a + j) < 0
    · obtain ⟨e1, e2, e3⟩ := lw_skip f a j h
      have hA : spA xs a (j + 1) = spA xs a j := spA_neg xs a j _ rfl (by omega)
      have hx : xs.getD (a + j) 0 = -1 := by
        by_cases e : xs.getD (a + j) 0 = -1
        · exact e
        · have := (hu.1 _ _ hget e).1; omega
      have hB : spB xs a (j + 1) = spB xs a j := by
        apply spB_old xs a j _ rfl
        rw [hx]
        cases hs : lwS f a j with
        | false => have := i1 hs; omega
        | true =>
          obtain ⟨_, _, b3, b4, p, _, hp⟩ := i2 hs
          have := (hu.1 p _ hp b4).1; omega
      rw [e1, e2, e3, hA, hB]
      refine ⟨i1, fun hs => ?_⟩
      obtain ⟨b1, b2, b3, b4, p, hp1, hp2⟩ := i2 hs
      exact ⟨b1, b2, b3, b4, p, by omega, hp2⟩
    · have hx : xs.getD (a + j) 0 ≠ -1 := by omega
      cases hs : lwS f a j with
      | false =>
        obtain ⟨e1, e2, e3⟩ := lw_first f a j h hs
        obtain ⟨b1, b2, _, _⟩ := i1 hs
        rw [e1, e2, e3]
        refine ⟨by simp, fun _ => ⟨?_, by omega, ?_, by omega, a + j, by omega, by rw [hfx]; exact hget⟩⟩
        · rw [hfx]; exact spA_pos xs a j _ rfl (by omega) (by omega)
        · rw [hfx]; exact spB_new xs a j _ rfl (by omega)
      | true =>
        obtain ⟨e1, e2, e3⟩ := lw_more f a j h hs
        obtain ⟨b1, b2, b3, b4, p, hp1, hp2⟩ := i2 hs
        rw [e1, e2, e3]
        have hlt2 := hu.2 p (a + j) _ _ hp1 hp2 hget b4 hx
        refine ⟨by simp, fun _ => ⟨?_, b2, ?_, by omega, a + j, by omega, by rw [hfx]; exact hget⟩⟩
        · rw [← b1]; exact spA_old xs a j _ rfl (by omega)
        · rw [hfx]; exact spB_new xs a j _ rfl (by omega)

theorem lw_new (f : Nat → Int) (a K : Nat) (hf : ∀ i, a + K ≤ i → ¬ f i < 0) (t : Nat) :
    lwS f a (K + (t + 1)) = true ∧ lwL f a (K + (t + 1)) = (if lwS f a K = true then lwL f a K else f (a + K)) ∧ lwM f a (K + (t + 1)) = f (a + (K + t)) := by
  induction t with
  | zero =>
    cases hs : lwS f a K with
    | false => obtain ⟨e1, e2, e3⟩ := lw_first f a K (hf _ (by omega)) hs; exact ⟨e1, by simp [e2], e3⟩
    | true => obtain ⟨e1, e2, e3⟩ := lw_more f a K (hf _ (by omega)) hs; exact ⟨e1, by simp [e2], e3⟩
  | succ t ih =>
    obtain ⟨i1, i2, i3⟩ := ih
    obtain ⟨e1, e2, e3⟩ := lw_more f a (K + (t + 1)) (hf _ (by omega)) i1
    exact ⟨e1, e2.trans i2, e3⟩

theorem span_law (xs : List Int) (n : Nat) (hu : UpP (-1) n xs) (a b : Nat) (hab : a ≤ b) :
    spanV xs n a b = .tuple #[.int .i64 (lwL (fun i => imageF xs n i) a (b + 1 - a)), .int .i64 (lwM (fun i => imageF xs n i) a (b + 1 - a)), .bool (lwS (fun i => imageF xs n i) a (b + 1 - a))] := by
  generalize hfd : (fun i : Nat => imageF xs n i) = f
  have hf : ∀ i : Nat, f i = imageF xs n i := fun i => by rw [← hfd]
  have hfo : ∀ i, i < xs.length → f i = xs.getD i 0 := fun i hi => by rw [hf, imageF_in _ _ _ (by omega) (by omega)]; simp
  have hfn : ∀ i, ¬ i < xs.length → ¬ f i < 0 := fun i hi => by rw [hf, imageF_out _ _ _ (by omega)]; omega
  obtain ⟨i1, i2⟩ := lw_old xs n f hu hfo a (spK xs a b) (by unfold spK; omega)
  by_cases hb : b < xs.length
  · have hK : spK xs a b = b + 1 - a := by unfold spK; omega
    simp only [spanV, spanA, spanB, if_pos hb]
    rw [hK] at i1 i2 ⊢
    cases hs : lwS f a (b + 1 - a) with
    | false =>
      obtain ⟨b1, _, b3, b4⟩ := i1 hs
      rw [if_pos (by omega), b3, b4]
    | true =>
      obtain ⟨b1, b2, b3, _⟩ := i2 hs
      rw [if_neg (by omega), b1, b3]
  · obtain ⟨t, ht⟩ : ∃ t, b + 1 - a = spK xs a b + (t + 1) := ⟨b + 1 - a - spK xs a b - 1, by unfold spK; omega⟩
    have haK : a + spK xs a b = max a xs.length := by unfold spK; omega
    have hbt : a + (spK xs a b + t) = b := by omega
    obtain ⟨n1, n2, n3⟩ := lw_new f a (spK xs a b) (fun i hi => hfn i (by omega)) t
    rw [ht, n1, n2, n3, hbt, haK]
    have hmx := hfn (max a xs.length) (by omega)
    simp only [spanV, spanA, spanB, if_neg hb, ← hf]
    cases hs : lwS f a (spK xs a b) with
    | false =>
      obtain ⟨b1, _⟩ := i1 hs
      rw [b1]
      simp [hmx]
    | true =>
      obtain ⟨b1, b2, _⟩ := i2 hs
      rw [if_neg (show ¬ spA xs a (spK xs a b) < 0 by omega), if_neg (by omega), b1]
      simp

end Go.Proofs.Ytdccpnaolcpohaa
