/- Plain law: where one side stayed as it was, what comes of both is the other. -/
import Derived.Test.YtdccpnaolcpohaaAC
namespace Go.Proofs.Ytdccpnaolcpohaa

theorem gones_tab (n : Nat) : gones n = tab (fun _ => -1) n := by
  apply List.ext_getElem?
  intro i
  by_cases h : i < n
  · rw [tab_get _ _ _ h]; simp [gones, h]
  · simp [gones, tab, h]
theorem plc_tab (g : Nat → Int) (n f v c : Nat) : plc (tab g n) f v c = tab (fun j => if f ≤ j ∧ j < f + c then ((v + (j - f) : Nat) : Int) else g j) n := by
  induction c with
  | zero => rw [plc]; apply tab_ext; intro j _; rw [if_neg (by omega)]
  | succ c ih =>
    rw [plc, ih, tab_set]
    apply tab_ext; intro j _
    by_cases e : j = f + c
    · subst e
      rw [if_pos rfl, if_pos ⟨by omega, by omega⟩, show f + c - f = c from by omega]
    · rw [if_neg e]
      by_cases h : f ≤ j ∧ j < f + c
      · rw [if_pos h, if_pos ⟨h.1, by omega⟩]
      · rw [if_neg h, if_neg (by omega)]
theorem tab_self (xs : List Int) : tab (fun i => xs.getD i 0) xs.length = xs := by
  apply List.ext_getElem?
  intro i
  by_cases h : i < xs.length
  · rw [tab_get _ _ _ h]; simp [List.getD, h]
  · simp [tab, h]

theorem mem_idx (n k : Nat) (h : k < n) : ((k : Nat) : Int) ∈ tab idx n := by
  simp only [tab, List.mem_map, List.mem_range]; exact ⟨k, h, rfl⟩
theorem cnt_idx (n : Nat) (g : Int) : cntF (tab idx n) n g = 0 := by
  unfold cntF
  split
  · rfl
  · apply runF_stop
    by_cases h : n ≤ fromF (tab idx n) g
    · exact .inl h
    · exact .inr (by simp only [hasF, decide_eq_true_eq]; exact mem_idx _ _ (by omega))
theorem stepB_none {B : List Int} {nb : Nat} {g : Int} (h : cntF B nb g = 0) (s : FS) : stepB B nb g s = s := by
  simp [stepB, h, plc]
theorem stepA_none {B : List Int} {nb : Nat} {g : Int} (h : cntF B nb g = 0) (s : FS) : stepA B nb g s = s := by
  simp [stepA, h, plc]

theorem fuse_one_k {xs : List Int} {n : Nat} (hu : UpP (-1) n xs) (k : Nat) (hk : k ≤ xs.length) :
    ∃ f, Fr xs n k f ∧ fuseS xs (tab idx xs.length) n xs.length (k + 1) =
      ⟨tab (fun i => if i < k then xs.getD i 0 else -1) xs.length, tab (fun p => if p < f then (p : Int) else -1) n, tab (fun i => if i < k then xs.getD i 0 else -1) xs.length, f⟩ := by
  induction k with
  | zero =>
    obtain ⟨h1, h2, _⟩ := fr_start hu
    refine ⟨_, h1, ?_⟩
    rw [fuseS, stepB_none (cnt_idx _ _)]
    simp only [fuseS, stepO, stepA, Int.natCast_zero, Int.zero_sub, h2]
    rw [if_neg (by simp [both])]
    simp only [gones_tab, plc_tab, Nat.zero_add, tab_length]
    congr 1
    · apply tab_ext; intro j _
      by_cases h : j < cntF xs n (-1)
      · rw [if_pos ⟨by omega, h⟩, if_pos h]; simp
      · rw [if_neg (by omega), if_neg h]
  | succ k ih =>
    obtain ⟨f, hf, hs⟩ := ih (by omega)
    have hg : ((k + 1 : Nat) : Int) - 1 = k := by omega
    have hbk : (tab idx xs.length).getD k 0 = k := tab_getD _ _ _ (by omega)
    rw [fuseS, stepB_none (cnt_idx _ _), hs, hg]
    by_cases hx : 0 ≤ xs.getD k 0
    · obtain ⟨a1, a2, a3, a4, _⟩ := fr_kept hf hu (by omega) hx
      refine ⟨_, a4, ?_⟩
      rw [stepO, if_pos (by simp only [both, decide_eq_true_eq, Int.toNat_natCast, hbk]; omega)]
      simp only [stepA, a3, Int.toNat_natCast, a1, hbk, tab_set, plc_tab]
      congr 1
      · apply tab_ext; intro j _
        by_cases e : j = k
        · subst e; rw [if_pos rfl, if_pos (by omega), a1]
        · rw [if_neg e]
          by_cases h : j < k
          · rw [if_pos h, if_pos (by omega)]
          · rw [if_neg h, if_neg (by omega)]
      · apply tab_ext; intro j _
        by_cases h : j < f + 1 + cntF xs n k
        · rw [if_pos h]
          by_cases h2 : f + 1 ≤ j
          · rw [if_pos ⟨h2, h⟩]; congr 1; omega
          · rw [if_neg (by omega)]
            by_cases h3 : j = f
            · rw [if_pos h3, h3]
            · rw [if_neg h3, if_pos (by omega)]
        · rw [if_neg h, if_neg (by omega), if_neg (by omega), if_neg (by omega)]
      · apply tab_ext; intro j _
        by_cases e : j = k
        · subst e; rw [if_pos rfl, if_pos (by omega), a1]
        · rw [if_neg e]
          by_cases h : j < k
          · rw [if_pos h, if_pos (by omega)]
          · rw [if_neg h, if_neg (by omega)]
    · refine ⟨_, fr_gone hf (by omega), ?_⟩
      have hn := up_neg hu (show k < xs.length by omega) (by omega)
      rw [stepO_no (both_no (fun h => hx h.1)), stepA_none (cnt_gone (by omega))]
      have : tab (fun i => if i < k then xs.getD i 0 else -1) xs.length = tab (fun i => if i < k + 1 then xs.getD i 0 else -1) xs.length := by
        apply tab_ext; intro j _
        by_cases e : j = k
        · subst e; rw [if_neg (by omega), if_pos (by omega), hn]
        · by_cases h : j < k
          · rw [if_pos h, if_pos (by omega)]
          · rw [if_neg h, if_neg (by omega)]
      rw [this]

theorem fuse_one {xs : List Int} {n : Nat} (hu : UpP (-1) n xs) : fuseS xs (tab idx xs.length) n xs.length (xs.length + 1) = ⟨xs, tab idx n, xs, n⟩ := by
  obtain ⟨f, hf, hs⟩ := fuse_one_k hu xs.length (Nat.le_refl _)
  rw [hs, fr_end hf]
  have h1 : tab (fun i => if i < xs.length then xs.getD i 0 else -1) xs.length = xs := by
    rw [show tab (fun i => if i < xs.length then xs.getD i 0 else -1) xs.length = tab (fun i => xs.getD i 0) xs.length from tab_ext _ _ _ fun j h => if_pos h, tab_self]
  rw [h1]
  congr 1
  exact tab_ext _ _ _ fun j h => if_pos h

theorem fuse_swap {A B : List Int} {na nb : Nat} (hl : A.length = B.length) (hz : ∀ g, cntF B nb g = 0) (k : Nat) : fuseS B A nb na k = (fuseS A B na nb k).swap := by
  induction k with
  | zero => simp [fuseS, FS.swap, hl]
  | succ k ih =>
    rw [fuseS, fuseS, stepB_none (hz _), stepA_none (hz _), ih]
    generalize fuseS A B na nb k = s
    generalize (k : Int) - 1 = g
    unfold stepO stepB stepA
    rw [both_swap B A g]
    split <;> rfl

theorem fuse_one' {xs : List Int} {n : Nat} (hu : UpP (-1) n xs) : fuseS (tab idx xs.length) xs xs.length n (xs.length + 1) = ⟨xs, xs, tab idx n, n⟩ := by
  rw [fuse_swap (A := xs) (na := n) (by simp [tab_length]) (fun g => cnt_idx _ g), fuse_one hu]; rfl

end Go.Proofs.Ytdccpnaolcpohaa
