/- The contract of the reference's Back. -/
import Derived.Test.YtdccpnaolcpohaaQ
namespace Go.Proofs.Ytdccpnaolcpohaa
open Go.RowKit

/-- The place of an owned slice of at least one element. -/
theorem Own.place {w : World} {B : Nat} {v : Value} {xs : List Int} (h : Own w B v xs) (h0 : 0 < xs.length) :
    ∃ g cv, v = .slice (some ⟨g, 0, none⟩) xs.length cv ∧ B ≤ g ∧ g < w.heap.size ∧ (∀ j, w.frozen? ⟨g, j, none⟩ = false) ∧ ∀ j, j < xs.length → w.cell? ⟨g, j, none⟩ = some (.int .i64 (xs.getD j 0)) := by
  obtain ⟨a, cv, e, hr⟩ := h.row
  obtain ⟨_, ⟨e', hn⟩ | ⟨g, cap, cur, e', hB, hh, _⟩⟩ := h
  · omega
  · rw [e] at e'
    simp only [Value.slice.injEq] at e'
    obtain ⟨rfl, _, rfl⟩ := e'
    refine ⟨g, cv, e, hB, (Array.getElem?_eq_some_iff.1 hh).1, fun j => by simp [World.frozen?, hh], fun j hj => ?_⟩
    obtain ⟨b, off, e1, _, _, hc⟩ := hr.at j hj
    simp only [Option.some.injEq, Addr.mk.injEq] at e1
    obtain ⟨rfl, rfl, _⟩ := e1
    simpa using hc

theorem Own.set_at {w : World} {B g n cv : Nat} {xs : List Int} (h : Own w B (.slice (some ⟨g, 0, none⟩) n cv) xs) (j : Nat) (x : Int) :
    Own (w.setCell ⟨g, j, none⟩ (.int .i64 x)) B (.slice (some ⟨g, 0, none⟩) n cv) (xs.set j x) := by
  obtain ⟨h1, ⟨e', hn⟩ | ⟨g', cap, cur, e', hB, hh, hle, hm, hs, ht⟩⟩ := h
  · simp at e'
  · simp only [Value.slice.injEq, Option.some.injEq, Addr.mk.injEq] at e'
    obtain ⟨⟨rfl, _⟩, rfl, rfl⟩ := e'
    refine ⟨by simp [ints], .inr ⟨g, cv, cur.setIfInBounds j (.int .i64 x), by simp, hB, ?_, by simp only [List.length_set]; exact hle, hm, by simpa using hs, ?_⟩⟩
    · show (w.heap.modify g _)[g]? = _
      rw [Array.getElem?_modify, if_pos rfl, hh]; simp
    · simp only [List.length_set, Nat.mul_one] at ht ⊢
      rw [Array.toList_setIfInBounds, List.take_set, ht]
      simp [ints]

def rbF (xs : List Int) (n : Nat) : Nat → List Int
  | 0 => List.replicate n (-1)
  | k + 1 => if xs.getD k 0 ≥ 0 then (rbF xs n k).set (xs.getD k 0).toNat k else rbF xs n k
theorem rbF_length (xs : List Int) (n k : Nat) : (rbF xs n k).length = n := by
  induction k with
  | zero => simp [rbF]
  | succ k ih => rw [rbF]; split <;> simp [ih]
theorem rbF_set (xs : List Int) (n k : Nat) (x : Int) (hx : xs.getD k 0 = x) (h : x ≥ 0) : rbF xs n (k + 1) = (rbF xs n k).set x.toNat k := by rw [rbF, hx, if_pos h]
theorem rbF_skip (xs : List Int) (n k : Nat) (x : Int) (hx : xs.getD k 0 = x) (h : ¬ x ≥ 0) : rbF xs n (k + 1) = rbF xs n k := by rw [rbF, hx, if_neg h]

theorem tab_set (g : Nat → Int) (n m : Nat) (v : Int) : (tab g n).set m v = tab (fun j => if j = m then v else g j) n := by
  apply List.ext_getElem?
  intro i
  rw [List.getElem?_set]
  by_cases hi : i < n
  · rw [tab_get (fun j => if j = m then v else g j) _ _ hi]
    by_cases e : m = i
    · subst e; rw [if_pos rfl, if_pos (by rw [tab_length]; exact hi), if_pos rfl]
    · rw [if_neg e, tab_get _ _ _ hi, if_neg (fun h => e h.symm)]
  · have h1 : ∀ f : Nat → Int, (tab f n)[i]? = none := fun f => List.getElem?_eq_none (by rw [tab_length]; omega)
    rw [h1, h1]
    split
    · rw [if_neg (by rw [tab_length]; omega)]
    · rfl

theorem idxF_none (xs : List Int) (j : Nat) (h : (j : Int) ∉ xs) : idxF xs j = -1 := by unfold idxF indexF; rw [if_neg h]
theorem idxF_at (xs : List Int) (lo hi : Int) (h : UpP lo hi xs) (j k : Nat) (hk : xs[k]? = some (j : Int)) : idxF xs j = k := by
  rcases idxF_cases xs j with ⟨_, e⟩ | ⟨k1, e, _, h1⟩
  · exact absurd (List.mem_of_getElem? hk) e
  · have := up_inj h h1 hk (by omega); omega

theorem rbF_tab (xs : List Int) (n : Nat) (h : UpP (-1) n xs) (k : Nat) (hk : k ≤ xs.length) : rbF xs n k = tab (idxF (xs.take k)) n := by
  induction k with
  | zero =>
    apply List.ext_getElem (by simp [rbF, tab_length])
    intro i h1 h2
    simp [rbF, tab, idxF, indexF]
  | succ k ih =>
    have hlt : k < xs.length := by omega
    have hxk : xs[k]? = some (xs.getD k 0) := by simp [List.getD, hlt]
    have htk : xs.take (k + 1) = xs.take k ++ [xs.getD k 0] := by rw [List.take_succ_eq_append_getElem hlt]; simp [List.getD, hlt]
    have hup := h.take (k + 1)
    have hup0 := h.take k
    generalize hx : xs.getD k 0 = x at *
    by_cases h0 : x ≥ 0
    · rw [rbF_set xs n k x hx h0, ih (by omega), tab_set]
      apply tab_ext
      intro j hj
      have hlk : (xs.take k).length = k := by simp; omega
      by_cases e : j = x.toNat
      · rw [if_pos e]
        exact (idxF_at _ _ _ hup j k (by rw [htk, List.getElem?_append_right (by omega), hlk]; simp; omega)).symm
      · rw [if_neg e]
        rcases idxF_cases (xs.take k) j with ⟨e1, e2⟩ | ⟨k1, e1, hk1, e2⟩
        · rw [e1, idxF_none]
          rw [htk, List.mem_append]
          rintro (hm | hm)
          · exact e2 hm
          · simp at hm; omega
        · rw [e1]
          exact (idxF_at _ _ _ hup j k1 (by rw [htk, List.getElem?_append_left hk1]; exact e2)).symm
    · rw [rbF_skip xs n k x hx h0, ih (by omega)]
      apply tab_ext
      intro j hj
      rcases idxF_cases (xs.take k) j with ⟨e1, e2⟩ | ⟨k1, e1, hk1, e2⟩
      · rw [e1, idxF_none]
        rw [htk, List.mem_append]
        rintro (hm | hm)
        · exact e2 hm
        · simp at hm; omega
      · rw [e1]
        exact (idxF_at _ _ _ hup j k1 (by rw [htk, List.getElem?_append_left hk1]; exact e2)).symm

theorem rbF_back (xs : List Int) (n : Nat) (h : UpP (-1) n xs) : rbF xs n xs.length = bck xs n := by
  rw [rbF_tab xs n h _ (Nat.le_refl _), List.take_length]; rfl

end Go.Proofs.Ytdccpnaolcpohaa
