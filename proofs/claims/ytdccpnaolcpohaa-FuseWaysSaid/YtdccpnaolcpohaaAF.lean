/- Plain law: what the two ways lead to. -/
import Derived.Test.YtdccpnaolcpohaaAC
namespace Go.Proofs.Ytdccpnaolcpohaa

theorem has_mem {T : List Int} {v : Nat} : Has T v ↔ (v : Int) ∈ T := by
  constructor
  · rintro ⟨i, hi⟩; exact List.mem_iff_getElem?.2 ⟨i, hi⟩
  · intro h; obtain ⟨i, hi⟩ := List.mem_iff_getElem?.1 h; exact ⟨i, hi⟩
theorem idxF_neg {T : List Int} {v : Nat} : idxF T v < 0 ↔ ¬ Has T v := by
  rw [has_mem]; unfold idxF indexF
  by_cases h : (v : Int) ∈ T
  · rw [if_pos h]; simp [h]
  · rw [if_neg h]; simp [h]

theorem cnt_le (p q : Nat → Bool) (h : ∀ i, p i = true → q i = true) (k : Nat) : cnt p k ≤ cnt q k := by
  induction k with
  | zero => exact Nat.le_refl _
  | succ k ih =>
    simp only [cnt]
    by_cases c : p k = true
    · rw [if_pos c, if_pos (h k c)]; omega
    · rw [if_neg c]; omega
theorem cnt_max (p : Nat → Bool) (k : Nat) : cnt p k ≤ k := by
  induction k with
  | zero => exact Nat.le_refl _
  | succ k ih => simp only [cnt]; split <;> omega

/-- What the law asks of the three lists. -/
structure Ways (A B : List Int) (na nb : Nat) (s : FS) : Prop where
  lo : s.o.length = A.length
  la : s.ta.length = na
  lb : s.tb.length = nb
  uo : UpP (-1) s.now s.o
  ua : UpP (-1) s.now s.ta
  ub : UpP (-1) s.now s.tb
  le : s.now ≤ na + nb
  ko : ∀ i, i < A.length → (0 ≤ s.o.getD i 0 ↔ (0 ≤ A.getD i 0 ∧ 0 ≤ B.getD i 0))
  wa : ∀ i, i < A.length → 0 ≤ A.getD i 0 → 0 ≤ B.getD i 0 → s.ta.getD (A.getD i 0).toNat 0 = s.o.getD i 0
  wb : ∀ i, i < A.length → 0 ≤ A.getD i 0 → 0 ≤ B.getD i 0 → s.tb.getD (B.getD i 0).toNat 0 = s.o.getD i 0
  ga : ∀ i, i < A.length → 0 ≤ A.getD i 0 → B.getD i 0 < 0 → s.ta.getD (A.getD i 0).toNat 0 < 0
  gb : ∀ i, i < A.length → 0 ≤ B.getD i 0 → A.getD i 0 < 0 → s.tb.getD (B.getD i 0).toNat 0 < 0
  some : ∀ v, v < s.now → 0 ≤ idxF s.ta v ∨ 0 ≤ idxF s.tb v
  two : ∀ v, v < s.now → 0 ≤ idxF s.ta v → 0 ≤ idxF s.tb v → 0 ≤ idxF s.o v
  num : s.now + cnt (keptB A) A.length + cnt (keptB B) A.length = na + nb + cnt (fun i => both A B i) A.length

theorem getD_def {T : List Int} {i : Nat} (h : i < T.length) (d e : Int) : T.getD i d = T.getD i e := by simp [List.getD, h]

theorem fuse_ways {A B : List Int} {na nb : Nat} (hl : A.length = B.length) (hua : UpP (-1) na A) (hub : UpP (-1) nb B) : Ways A B na nb (fuseS A B na nb (A.length + 1)) := by
  obtain ⟨fa, fb, h1, h2, h, hc⟩ := fuse_inv hl hua hub A.length (Nat.le_refl _)
  have e1 := fr_end h1
  have e2 : fb = nb := fr_end (by rw [← hl]; exact h2)
  subst e1 e2
  have c1 : cnt (fun i => both A B i) A.length ≤ cnt (keptB A) A.length := cnt_le _ _ (fun i hi => by
    simp only [keptB, decide_eq_true_eq]; exact (both_iff.1 hi).1) _
  refine ⟨h.l.1, h.l.2.1, h.l.2.2, h.uo, h.ua, h.ub, by omega, fun i hi => ?_, fun i hi h0 h1 => h.wa i hi hi (both_iff.2 ⟨h0, h1⟩), fun i hi h0 h1 => h.wb i hi hi (both_iff.2 ⟨h0, h1⟩), fun i hi h0 h1 => ?_, fun i hi h0 h1 => ?_, fun v hv => ?_, fun v hv h0 h1 => ?_, by omega⟩
  · rw [h.ko i hi hi, both_iff]
  · have := h.ga i hi h0 (by rw [Bool.eq_false_iff]; intro c; have := both_iff.1 c; omega)
    have hb := up_hi hua hi h0
    rw [getD_def (by have := h.l.2.1; omega) 0 (-1), this]; omega
  · have := h.gb i hi h0 (by rw [Bool.eq_false_iff]; intro c; have := both_iff.1 c; omega)
    have hb := up_hi hub (by omega) h0
    rw [getD_def (by have := h.l.2.2; omega) 0 (-1), this]; omega
  · rcases h.sj v hv with c | c
    · exact .inl (Int.not_lt.1 fun e => idxF_neg.1 e c)
    · exact .inr (Int.not_lt.1 fun e => idxF_neg.1 e c)
  · exact Int.not_lt.1 fun e => idxF_neg.1 e (h.bo v (Classical.not_not.1 fun c => absurd (idxF_neg.2 c) (by omega)) (Classical.not_not.1 fun c => absurd (idxF_neg.2 c) (by omega)))

end Go.Proofs.Ytdccpnaolcpohaa
