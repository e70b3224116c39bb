/- Plain laws of fused places: how far the places of each side have come after each round, and what the three lists then hold. -/
import Derived.Test.YtdccpnaolcpohaaX
namespace Go.Proofs.Ytdccpnaolcpohaa

theorem run_spec (xs : List Int) (n : Nat) : ∀ d k, n - k = d → k ≤ n → k + runF xs n k ≤ n ∧ (k + runF xs n k = n ∨ ((k + runF xs n k : Nat) : Int) ∈ xs) ∧ ∀ p : Nat, k ≤ p → p < k + runF xs n k → (p : Int) ∉ xs := by
  intro d
  induction d with
  | zero => intro k hd hk; rw [runF_stop xs n k (.inl (by omega))]; exact ⟨by omega, .inl (by omega), fun p h1 h2 => by omega⟩
  | succ d ih =>
    intro k hd hk
    by_cases h : hasF xs k = true
    · rw [runF_stop xs n k (.inr h)]; exact ⟨by omega, .inr (by simpa [hasF] using h), fun p h1 h2 => by omega⟩
    · rw [runF_go xs n k (by omega) (by simpa using h)]
      obtain ⟨h1, h2, h3⟩ := ih (k + 1) (by omega) (by omega)
      refine ⟨by omega, ?_, fun p hp hp2 => ?_⟩
      · rcases h2 with h2 | h2
        · exact .inl (by omega)
        · exact .inr (by rw [show k + (runF xs n (k + 1) + 1) = k + 1 + runF xs n (k + 1) from by omega]; exact h2)
      · by_cases e : p = k
        · subst e; simpa [hasF] using h
        · exact h3 p (by omega) (by omega)

theorem getD_some {xs : List Int} {i : Nat} (h : i < xs.length) (d : Int) : xs[i]? = some (xs.getD i d) := by simp [List.getD, h]
theorem up_hi {n : Nat} {xs : List Int} (h : UpP (-1) n xs) {i : Nat} (hi : i < xs.length) (h0 : 0 ≤ xs.getD i 0) : xs.getD i 0 < n := (h.1 i _ (getD_some hi 0) (by omega)).2
theorem up_neg {n : Nat} {xs : List Int} (h : UpP (-1) n xs) {i : Nat} (hi : i < xs.length) (h0 : xs.getD i 0 < 0) : xs.getD i 0 = -1 := by
  by_cases e : xs.getD i 0 = -1
  · exact e
  · have := (h.1 i _ (getD_some hi 0) e).1; omega
theorem up_lt {n : Nat} {xs : List Int} (h : UpP (-1) n xs) {i j : Nat} (hij : i < j) (hj : j < xs.length) (h0 : 0 ≤ xs.getD i 0) (h1 : 0 ≤ xs.getD j 0) : xs.getD i 0 < xs.getD j 0 :=
  h.2 i j _ _ hij (getD_some (by omega) 0) (getD_some hj 0) (by omega) (by omega)
theorem mem_at {xs : List Int} {v : Int} (h : v ∈ xs) : ∃ i, i < xs.length ∧ xs.getD i 0 = v := by
  obtain ⟨i, hi, rfl⟩ := List.mem_iff_getElem.1 h
  exact ⟨i, hi, by simp [List.getD, hi]⟩
theorem at_mem {xs : List Int} {i : Nat} (h : i < xs.length) : xs.getD i 0 ∈ xs := by
  simp [List.getD, h]

/-- f is how far the places of xs have come when the old ones below k are done. -/
structure Fr (xs : List Int) (n k f : Nat) : Prop where
  le : f ≤ n
  lo : ∀ i, k ≤ i → i < xs.length → 0 ≤ xs.getD i 0 → (f : Int) ≤ xs.getD i 0
  hi : ∀ i, i < k → i < xs.length → 0 ≤ xs.getD i 0 → xs.getD i 0 < f
  at_ : f = n ∨ ∃ i, k ≤ i ∧ i < xs.length ∧ xs.getD i 0 = f

theorem cnt_start (xs : List Int) (n : Nat) : cntF xs n (-1) = runF xs n 0 := by
  rw [cntF, if_neg (by omega)]; rfl
theorem fr_start {xs : List Int} {n : Nat} (_h : UpP (-1) n xs) : Fr xs n 0 (cntF xs n (-1)) ∧ fromF xs (-1) = 0 ∧ ∀ p : Nat, p < cntF xs n (-1) → (p : Int) ∉ xs := by
  rw [cnt_start]
  obtain ⟨h1, h2, h3⟩ := run_spec xs n _ 0 rfl (by omega)
  rw [Nat.zero_add] at h1 h2
  refine ⟨⟨h1, fun i _ hi h0 => ?_, fun i hi => by omega, ?_⟩, rfl, fun p hp => h3 p (by omega) (by omega)⟩
  · by_cases c : (runF xs n 0 : Int) ≤ xs.getD i 0
    · exact c
    · exact absurd (at_mem hi) (by have := h3 (xs.getD i 0).toNat (by omega) (by omega); rwa [Int.toNat_of_nonneg h0] at this)
  · rcases h2 with h2 | h2
    · exact .inl h2
    · obtain ⟨i, hi, e⟩ := mem_at h2; exact .inr ⟨i, by omega, hi, e⟩

theorem cnt_gone {xs : List Int} {n k : Nat} (h : xs.getD k 0 < 0) : cntF xs n k = 0 := by
  rw [cntF, if_pos ⟨by omega, by simpa using h⟩]
theorem fr_gone {xs : List Int} {n k f : Nat} (h : Fr xs n k f) (hx : xs.getD k 0 < 0) : Fr xs n (k + 1) f := by
  refine ⟨h.le, fun i hi hl h0 => h.lo i (by omega) hl h0, fun i hi hl h0 => ?_, ?_⟩
  · by_cases e : i = k
    · subst e; omega
    · exact h.hi i (by omega) hl h0
  · rcases h.at_ with e | ⟨i, h1, h2, h3⟩
    · exact .inl e
    · refine .inr ⟨i, ?_, h2, h3⟩
      by_cases e : i = k
      · subst e; omega
      · omega

theorem fr_kept {xs : List Int} {n k f : Nat} (h : Fr xs n k f) (hu : UpP (-1) n xs) (hk : k < xs.length) (hx : 0 ≤ xs.getD k 0) :
    xs.getD k 0 = f ∧ f < n ∧ fromF xs k = f + 1 ∧ Fr xs n (k + 1) (f + 1 + cntF xs n k) ∧ ∀ p : Nat, f + 1 ≤ p → p < f + 1 + cntF xs n k → (p : Int) ∉ xs := by
  have hlt := up_hi hu hk hx
  have e : xs.getD k 0 = f := by
    have h1 := h.lo k (Nat.le_refl _) hk hx
    rcases h.at_ with e | ⟨i, a1, a2, a3⟩
    · omega
    · by_cases e : i = k
      · subst e; omega
      · have := up_lt hu (show k < i by omega) a2 hx (by omega); omega
  have hf : fromF xs k = f + 1 := by
    rw [fromF, if_neg (by omega), Int.toNat_natCast, e]; omega
  have hc : cntF xs n k = runF xs n (f + 1) := by
    rw [cntF, if_neg (by rw [Int.toNat_natCast]; omega), hf]
  obtain ⟨r1, r2, r3⟩ := run_spec xs n _ (f + 1) rfl (by omega)
  rw [hc]
  refine ⟨e, by omega, hf, ⟨r1, fun i hi hl h0 => ?_, fun i hi hl h0 => ?_, ?_⟩, r3⟩
  · have := up_lt hu (show k < i by omega) hl hx h0
    by_cases c : ((f + 1 + runF xs n (f + 1) : Nat) : Int) ≤ xs.getD i 0
    · exact c
    · exact absurd (at_mem hl) (by have := r3 (xs.getD i 0).toNat (by omega) (by omega); rwa [Int.toNat_of_nonneg h0] at this)
  · by_cases c : i = k
    · subst c; omega
    · have := h.hi i (by omega) hl h0; omega
  · rcases r2 with r2 | r2
    · exact .inl r2
    · obtain ⟨i, hi, e2⟩ := mem_at r2
      refine .inr ⟨i, ?_, hi, e2⟩
      by_cases c : i < k
      · have := h.hi i c hi (by omega); omega
      · by_cases c2 : i = k
        · subst c2; omega
        · omega

theorem fr_end {xs : List Int} {n f : Nat} (h : Fr xs n xs.length f) : f = n := by
  rcases h.at_ with e | ⟨i, h1, h2, _⟩
  · exact e
  · omega

/-- How many below k. -/
def cnt (p : Nat → Bool) : Nat → Nat
  | 0 => 0
  | k + 1 => cnt p k + if p k = true then 1 else 0

/-- A number is given to a place behind which nothing stands. -/
theorem up_set {m p : Nat} {T : List Int} (h : UpP (-1) m T) (h0 : ∀ j, p ≤ j → T.getD j (-1) = -1) : UpP (-1) ((m + 1 : Nat) : Int) (T.set p m) := by
  have get : ∀ (i : Nat) (x : Int), (T.set p m)[i]? = some x → (i = p ∧ x = m) ∨ (i ≠ p ∧ T[i]? = some x) := by
    intro i x hx
    by_cases e : p = i
    · subst e; rw [List.getElem?_set_self'] at hx
      cases hT : T[p]? with
      | none => rw [hT] at hx; cases hx
      | some y => rw [hT] at hx; simp at hx; exact .inl ⟨rfl, hx.symm⟩
    · rw [List.getElem?_set_ne e] at hx; exact .inr ⟨fun h => e h.symm, hx⟩
  have lt : ∀ (i : Nat) (x : Int), T[i]? = some x → x ≠ -1 → i < p := by
    intro i x hx hne
    by_cases c : i < p
    · exact c
    · have := h0 i (by omega); simp [List.getD, hx] at this; exact absurd this hne
  refine ⟨fun i x hx hne => ?_, fun i j x y hij hx hy hnx hny => ?_⟩
  · rcases get i x hx with ⟨_, rfl⟩ | ⟨_, h2⟩
    · omega
    · have := h.1 i x h2 hne; omega
  · rcases get i x hx with ⟨e1, rfl⟩ | ⟨e1, h2⟩
    · rcases get j y hy with ⟨e2, rfl⟩ | ⟨e2, h3⟩
      · omega
      · have := lt j y h3 hny; omega
    · rcases get j y hy with ⟨e2, rfl⟩ | ⟨e2, h3⟩
      · exact (h.1 i x h2 hnx).2
      · exact h.2 i j x y hij h2 h3 hnx hny

theorem set_getD {T : List Int} {p j : Nat} (m d : Int) (h : j ≠ p) : (T.set p m).getD j d = T.getD j d := by
  simp [List.getD, List.getElem?_set_ne (fun e => h e.symm)]
theorem set_getD_self {T : List Int} {p : Nat} (m d : Int) (h : p < T.length) : (T.set p m).getD p d = m := by
  simp [List.getD, h]
theorem set_tail {T : List Int} {p : Nat} (m : Int) (h : ∀ j, p ≤ j → T.getD j (-1) = -1) : ∀ j, p + 1 ≤ j → (T.set p m).getD j (-1) = -1 := fun j hj => by
  rw [set_getD m _ (by omega)]; exact h j (by omega)

/-- v stands somewhere. -/
def Has (T : List Int) (v : Nat) : Prop := ∃ i : Nat, T[i]? = some (v : Int)
theorem Has.set {T : List Int} {p v : Nat} {m : Int} (h : Has T v) (h0 : ∀ j, p ≤ j → T.getD j (-1) = -1) : Has (T.set p m) v := by
  obtain ⟨i, hi⟩ := h
  refine ⟨i, ?_⟩
  rw [List.getElem?_set_ne]; exact hi
  intro e; subst e
  have := h0 p (Nat.le_refl _); simp [List.getD, hi] at this
theorem Has.self {T : List Int} {p m : Nat} (h : p < T.length) : Has (T.set p m) m := ⟨p, by simp [h]⟩
theorem Has.of_set {T : List Int} {p v : Nat} {m : Nat} (h : Has (T.set p m) v) (hv : v ≠ m) : Has T v := by
  obtain ⟨i, hi⟩ := h
  refine ⟨i, ?_⟩
  by_cases e : p = i
  · subst e; rw [List.getElem?_set_self'] at hi
    cases hT : T[p]? with
    | none => rw [hT] at hi; cases hi
    | some y => rw [hT] at hi; simp at hi; omega
  · rwa [List.getElem?_set_ne e] at hi
theorem Has.lt {T : List Int} {m v : Nat} (h : Has T v) (hu : UpP (-1) m T) : v < m := by
  obtain ⟨i, hi⟩ := h
  have := (hu.1 i _ hi (by omega)).2; omega

/-- What the three lists hold when the old places below g are done and the sides have come to fa and fb. -/
structure Inv (A B : List Int) (na nb : Nat) (s : FS) (g fa fb : Nat) : Prop where
  l : FLen A na nb s
  o0 : ∀ j, g ≤ j → s.o.getD j (-1) = -1
  a0 : ∀ j, fa ≤ j → s.ta.getD j (-1) = -1
  b0 : ∀ j, fb ≤ j → s.tb.getD j (-1) = -1
  uo : UpP (-1) s.now s.o
  ua : UpP (-1) s.now s.ta
  ub : UpP (-1) s.now s.tb
  sj : ∀ v, v < s.now → Has s.ta v ∨ Has s.tb v
  bo : ∀ v, Has s.ta v → Has s.tb v → Has s.o v
  ko : ∀ i, i < g → i < A.length → (0 ≤ s.o.getD i 0 ↔ both A B i = true)
  wa : ∀ i, i < g → i < A.length → both A B i = true → s.ta.getD (A.getD i 0).toNat 0 = s.o.getD i 0
  wb : ∀ i, i < g → i < A.length → both A B i = true → s.tb.getD (B.getD i 0).toNat 0 = s.o.getD i 0
  ga : ∀ i, i < A.length → 0 ≤ A.getD i 0 → both A B i = false → s.ta.getD (A.getD i 0).toNat (-1) = -1
  gb : ∀ i, i < A.length → 0 ≤ B.getD i 0 → both A B i = false → s.tb.getD (B.getD i 0).toNat (-1) = -1

def FS.swap (s : FS) : FS := ⟨s.o, s.tb, s.ta, s.now⟩
theorem both_swap (A B : List Int) (g : Int) : both A B g = both B A g := by
  simp only [both]; congr 1; exact propext ⟨fun ⟨a, b, c⟩ => ⟨a, c, b⟩, fun ⟨a, b, c⟩ => ⟨a, c, b⟩⟩
theorem Inv.swap {A B : List Int} {na nb : Nat} {s : FS} {g fa fb : Nat} (h : Inv A B na nb s g fa fb) (hl : A.length = B.length) : Inv B A nb na s.swap g fb fa :=
  ⟨⟨by rw [← hl]; exact h.l.1, h.l.2.2, h.l.2.1⟩, h.o0, h.b0, h.a0, h.uo, h.ub, h.ua, fun v hv => (h.sj v hv).symm, fun v h1 h2 => h.bo v h2 h1,
    fun i hi hl' => by rw [both_swap]; exact h.ko i hi (by omega), fun i hi hl' hb => h.wb i hi (by omega) (by rw [both_swap]; exact hb), fun i hi hl' hb => h.wa i hi (by omega) (by rw [both_swap]; exact hb),
    fun i hi h0 hb => h.gb i (by omega) h0 (by rw [both_swap]; exact hb), fun i hi h0 hb => h.ga i (by omega) h0 (by rw [both_swap]; exact hb)⟩

theorem Inv.ownA {A B : List Int} {na nb : Nat} {s : FS} {g fa fb : Nat} (h : Inv A B na nb s g fa fb) (hf : fa < na) (hn : (fa : Int) ∉ A) :
    Inv A B na nb ⟨s.o, s.ta.set fa s.now, s.tb, s.now + 1⟩ g (fa + 1) fb := by
  obtain ⟨l1, l2, l3⟩ := h.l
  have ne : ∀ i, i < A.length → 0 ≤ A.getD i 0 → (A.getD i 0).toNat ≠ fa := fun i hi h0 e => hn (by rw [← e, Int.toNat_of_nonneg h0]; exact at_mem hi)
  refine ⟨⟨l1, by simpa using l2, l3⟩, h.o0, set_tail _ h.a0, h.b0, h.uo.mono (show (s.now : Int) ≤ ((s.now + 1 : Nat) : Int) by omega), up_set h.ua h.a0, h.ub.mono (show (s.now : Int) ≤ ((s.now + 1 : Nat) : Int) by omega), fun v hv => ?_, fun v h1 h2 => ?_, h.ko, fun i hi hl hb => ?_, h.wb, fun i hi h0 hb => ?_, h.gb⟩
  · by_cases e : v = s.now
    · subst e; exact .inl (Has.self (by omega))
    · rcases h.sj v (by simp at hv; omega) with h1 | h1
      · exact .inl (h1.set h.a0)
      · exact .inr h1
  · have := h2.lt h.ub
    exact h.bo v (h1.of_set (by omega)) h2
  · simp only [both, decide_eq_true_eq, Int.toNat_natCast] at hb
    rw [set_getD _ _ (ne i hl hb.2.1)]
    exact h.wa i hi hl (by simp only [both, decide_eq_true_eq, Int.toNat_natCast]; exact hb)
  · rw [set_getD _ _ (ne i hi h0)]; exact h.ga i hi h0 hb

theorem Inv.runA {A B : List Int} {na nb : Nat} {s : FS} {g fa fb : Nat} (h : Inv A B na nb s g fa fb) (c : Nat) (hf : fa + c ≤ na) (hn : ∀ p : Nat, fa ≤ p → p < fa + c → (p : Int) ∉ A) :
    Inv A B na nb ⟨s.o, plc s.ta fa s.now c, s.tb, s.now + c⟩ g (fa + c) fb := by
  induction c with
  | zero => exact h
  | succ c ih => exact (ih (by omega) fun p h1 h2 => hn p h1 (by omega)).ownA (by omega) (hn _ (by omega) (by omega))

theorem Inv.runB {A B : List Int} {na nb : Nat} {s : FS} {g fa fb : Nat} (h : Inv A B na nb s g fa fb) (hl : A.length = B.length) (c : Nat) (hf : fb + c ≤ nb) (hn : ∀ p : Nat, fb ≤ p → p < fb + c → (p : Int) ∉ B) :
    Inv A B na nb ⟨s.o, s.ta, plc s.tb fb s.now c, s.now + c⟩ g fa (fb + c) := ((h.swap hl).runA c hf hn).swap hl.symm

theorem Inv.none {A B : List Int} {na nb : Nat} {s : FS} {g fa fb : Nat} (h : Inv A B na nb s g fa fb) (hb : both A B g = false) {fa' fb' : Nat} (ha : fa ≤ fa') (hb' : fb ≤ fb') : Inv A B na nb s (g + 1) fa' fb' := by
  refine ⟨h.l, fun j hj => h.o0 j (by omega), fun j hj => h.a0 j (by omega), fun j hj => h.b0 j (by omega), h.uo, h.ua, h.ub, h.sj, h.bo, fun i hi hl => ?_, fun i hi hl hbi => ?_, fun i hi hl hbi => ?_, h.ga, h.gb⟩
  · by_cases e : i = g
    · subst e
      have := h.o0 i (Nat.le_refl _)
      have h2 : s.o.getD i 0 = s.o.getD i (-1) := by have := h.l.1; simp [List.getD, show i < s.o.length by omega]
      rw [h2, this, hb]; simp
    · exact h.ko i (by omega) hl
  · exact h.wa i (by by_cases e : i = g; · subst e; rw [hb] at hbi; cases hbi
                     · omega) hl hbi
  · exact h.wb i (by by_cases e : i = g; · subst e; rw [hb] at hbi; cases hbi
                     · omega) hl hbi

theorem Inv.two {A B : List Int} {na nb : Nat} {s : FS} {g fa fb : Nat} (h : Inv A B na nb s g fa fb) (hl : A.length = B.length) (hg : g < A.length) (hua : UpP (-1) na A) (hub : UpP (-1) nb B) (hA : A.getD g 0 = fa) (hB : B.getD g 0 = fb) (hfa : fa < na) (hfb : fb < nb) :
    Inv A B na nb ⟨s.o.set g s.now, s.ta.set fa s.now, s.tb.set fb s.now, s.now + 1⟩ (g + 1) (fa + 1) (fb + 1) := by
  obtain ⟨l1, l2, l3⟩ := h.l
  have bb : both A B g = true := by simp only [both, decide_eq_true_eq, Int.toNat_natCast]; omega
  have neA : ∀ i, i < A.length → 0 ≤ A.getD i 0 → i ≠ g → (A.getD i 0).toNat ≠ fa := fun i hi h0 hne e => by
    rcases Nat.lt_or_gt_of_ne hne with c | c
    · have := up_lt hua c hg h0 (by omega); omega
    · have := up_lt hua c hi (by omega) h0; omega
  have neB : ∀ i, i < A.length → 0 ≤ B.getD i 0 → i ≠ g → (B.getD i 0).toNat ≠ fb := fun i hi h0 hne e => by
    rcases Nat.lt_or_gt_of_ne hne with c | c
    · have := up_lt hub c (by omega) h0 (by omega); omega
    · have := up_lt hub c (by omega) (by omega) h0; omega
  have pr : ∀ i : Nat, both A B i = true → 0 ≤ A.getD i 0 ∧ 0 ≤ B.getD i 0 := fun i hb => by
    simp only [both, decide_eq_true_eq, Int.toNat_natCast] at hb; exact hb.2
  refine ⟨⟨by simpa using l1, by simpa using l2, by simpa using l3⟩, set_tail _ h.o0, set_tail _ h.a0, set_tail _ h.b0, up_set h.uo h.o0, up_set h.ua h.a0, up_set h.ub h.b0, fun v hv => ?_, fun v h1 h2 => ?_, fun i hi hil => ?_, fun i hi hil hb => ?_, fun i hi hil hb => ?_, fun i hi h0 hb => ?_, fun i hi h0 hb => ?_⟩
  · by_cases e : v = s.now
    · subst e; exact .inl (Has.self (by omega))
    · rcases h.sj v (by simp at hv; omega) with h1 | h1
      · exact .inl (h1.set h.a0)
      · exact .inr (h1.set h.b0)
  · by_cases e : v = s.now
    · subst e; exact Has.self (by omega)
    · exact (h.bo v (h1.of_set e) (h2.of_set e)).set h.o0
  · by_cases e : i = g
    · subst e; simp only [set_getD_self (T := s.o) (s.now : Int) 0 (show i < s.o.length by omega), bb]; simp
    · simp only [set_getD (T := s.o) (s.now : Int) 0 e]; exact h.ko i (by omega) hil
  · by_cases e : i = g
    · subst e
      simp only [hA, Int.toNat_natCast, set_getD_self (T := s.o) (s.now : Int) 0 (show i < s.o.length by omega), set_getD_self (T := s.ta) (s.now : Int) 0 (show fa < s.ta.length by omega)]
    · simp only [set_getD (T := s.o) (s.now : Int) 0 e, set_getD (T := s.ta) (s.now : Int) 0 (neA i hil (pr i hb).1 e)]; exact h.wa i (by omega) hil hb
  · by_cases e : i = g
    · subst e
      simp only [hB, Int.toNat_natCast, set_getD_self (T := s.o) (s.now : Int) 0 (show i < s.o.length by omega), set_getD_self (T := s.tb) (s.now : Int) 0 (show fb < s.tb.length by omega)]
    · simp only [set_getD (T := s.o) (s.now : Int) 0 e, set_getD (T := s.tb) (s.now : Int) 0 (neB i hil (pr i hb).2 e)]; exact h.wb i (by omega) hil hb
  · have e : i ≠ g := fun e => by subst e; rw [bb] at hb; cases hb
    simp only [set_getD (T := s.ta) (s.now : Int) (-1) (neA i hi h0 e)]; exact h.ga i hi h0 hb
  · have e : i ≠ g := fun e => by subst e; rw [bb] at hb; cases hb
    simp only [set_getD (T := s.tb) (s.now : Int) (-1) (neB i hi h0 e)]; exact h.gb i hi h0 hb

theorem gones_getD (n j : Nat) : (gones n).getD j (-1) = -1 := by
  by_cases h : j < n
  · simp [gones, List.getD, h]
  · simp [gones, List.getD, h]
theorem gones_up (n m : Nat) : UpP (-1) m (gones n) := by
  refine ⟨fun i x h1 h2 => ?_, fun i j x y _ h1 _ h3 _ => ?_⟩
  · simp [gones, List.getElem?_replicate] at h1; omega
  · simp [gones, List.getElem?_replicate] at h1; omega
theorem Inv.start (A B : List Int) (na nb : Nat) : Inv A B na nb ⟨gones A.length, gones na, gones nb, 0⟩ 0 0 0 :=
  ⟨⟨gones_length _, gones_length _, gones_length _⟩, fun j _ => gones_getD _ j, fun j _ => gones_getD _ j, fun j _ => gones_getD _ j, gones_up _ _, gones_up _ _, gones_up _ _, fun v hv => by simp at hv,
    fun v h => by obtain ⟨i, hi⟩ := h; simp [gones, List.getElem?_replicate] at hi, fun i hi => by omega, fun i hi => by omega, fun i hi => by omega, fun i _ _ _ => gones_getD _ _, fun i _ _ _ => gones_getD _ _⟩

def keptB (A : List Int) (i : Nat) : Bool := decide (0 ≤ A.getD i 0)
theorem both_iff {A B : List Int} {i : Nat} : both A B i = true ↔ 0 ≤ A.getD i 0 ∧ 0 ≤ B.getD i 0 := by
  simp only [both, decide_eq_true_eq, Int.toNat_natCast]
  exact ⟨fun h => h.2, fun h => ⟨by omega, h⟩⟩
theorem both_no {A B : List Int} {k : Nat} (h : ¬ (0 ≤ A.getD k 0 ∧ 0 ≤ B.getD k 0)) : both A B k = false := by
  rw [Bool.eq_false_iff]; exact fun c => h (both_iff.1 c)
theorem stepO_yes {A B : List Int} {s : FS} {k : Nat} (h : both A B k = true) : stepO A B k s = ⟨s.o.set k s.now, s.ta.set (A.getD k 0).toNat s.now, s.tb.set (B.getD k 0).toNat s.now, s.now + 1⟩ := by
  rw [stepO, if_pos h]; simp only [Int.toNat_natCast]
theorem stepO_no {A B : List Int} {s : FS} {k : Nat} (h : both A B k = false) : stepO A B k s = s := by
  rw [stepO, if_neg (by rw [h]; decide)]
theorem kept_yes {A : List Int} {k : Nat} (h : 0 ≤ A.getD k 0) : keptB A k = true := by simp only [keptB, decide_eq_true_eq]; exact h
theorem kept_no {A : List Int} {k : Nat} (h : ¬ 0 ≤ A.getD k 0) : keptB A k = false := by simp only [keptB, decide_eq_false_iff_not]; exact h
theorem cnt_yes {p : Nat → Bool} {k : Nat} (h : p k = true) : cnt p (k + 1) = cnt p k + 1 := by simp only [cnt, h]; rfl
theorem cnt_no {p : Nat → Bool} {k : Nat} (h : p k = false) : cnt p (k + 1) = cnt p k := by simp only [cnt, h]; rfl
theorem fuse_inv {A B : List Int} {na nb : Nat} (hl : A.length = B.length) (hua : UpP (-1) na A) (hub : UpP (-1) nb B) (k : Nat) (hk : k ≤ A.length) :
    ∃ fa fb, Fr A na k fa ∧ Fr B nb k fb ∧ Inv A B na nb (fuseS A B na nb (k + 1)) k fa fb ∧ (fuseS A B na nb (k + 1)).now + cnt (keptB A) k + cnt (keptB B) k = fa + fb + cnt (fun i => both A B i) k := by
  induction k with
  | zero =>
    obtain ⟨h1, h2, h3⟩ := fr_start hua
    obtain ⟨h4, h5, h6⟩ := fr_start hub
    refine ⟨_, _, h1, h4, ?_, ?_⟩
    · have := ((Inv.start A B na nb).runA (cntF A na (-1)) (by have := h1.le; omega) (fun p _ hp => h3 p (by omega))).runB hl (cntF B nb (-1)) (by have := h4.le; omega) (fun p _ hp => h6 p (by omega))
      simp only [Nat.zero_add] at this
      simp only [fuseS, stepO, stepA, stepB, Int.natCast_zero, Int.zero_sub, h2, h5]
      rw [if_neg (by simp [both])]
      simp only [Nat.zero_add]
      exact this
    · simp only [fuseS, stepO, stepA, stepB, Int.natCast_zero, Int.zero_sub, cnt]
      rw [if_neg (by simp [both])]
      simp
  | succ k ih =>
    obtain ⟨fa, fb, ha, hb, hi, hc⟩ := ih (by omega)
    have hg : ((k + 1 : Nat) : Int) - 1 = k := by omega
    rw [fuseS, hg]
    generalize fuseS A B na nb (k + 1) = s at *
    by_cases ca : 0 ≤ A.getD k 0
    · obtain ⟨a1, a2, a3, a4, a5⟩ := fr_kept ha hua (by omega) ca
      by_cases cb : 0 ≤ B.getD k 0
      · obtain ⟨b1, b2, b3, b4, b5⟩ := fr_kept hb hub (by omega) cb
        have bt := both_iff.2 ⟨ca, cb⟩
        rw [stepO_yes bt, cnt_yes (kept_yes ca), cnt_yes (kept_yes cb), cnt_yes (p := fun i => both A B i) bt, a1, b1]
        refine ⟨_, _, a4, b4, ?_, ?_⟩
        · have := ((hi.two hl (by omega) hua hub a1 b1 a2 b2).runA (cntF A na k) a4.le a5).runB hl (cntF B nb k) b4.le b5
          simp only [stepA, stepB, a3, b3, Int.toNat_natCast]
          exact this
        · simp only [stepA, stepB]; omega
      · have hb0 := cnt_gone (xs := B) (n := nb) (k := k) (by omega)
        have bt := both_no (A := A) (B := B) (k := k) (fun h => cb h.2)
        rw [stepO_no bt, cnt_yes (kept_yes ca), cnt_no (kept_no cb), cnt_no (p := fun i => both A B i) bt]
        refine ⟨_, _, a4, fr_gone hb (by omega), ?_, ?_⟩
        · have := ((hi.none (g := k) bt (Nat.le_succ fa) (Nat.le_refl fb)).runA (cntF A na k) a4.le a5)
          simp only [stepA, stepB, a3, hb0, plc]
          exact this
        · simp only [stepA, stepB, hb0]; omega
    · have ha0 := cnt_gone (xs := A) (n := na) (k := k) (by omega)
      have bt := both_no (A := A) (B := B) (k := k) (fun h => ca h.1)
      by_cases cb : 0 ≤ B.getD k 0
      · obtain ⟨b1, b2, b3, b4, b5⟩ := fr_kept hb hub (by omega) cb
        rw [stepO_no bt, cnt_no (kept_no ca), cnt_yes (kept_yes cb), cnt_no (p := fun i => both A B i) bt]
        refine ⟨_, _, fr_gone ha (by omega), b4, ?_, ?_⟩
        · have := ((hi.none (g := k) bt (Nat.le_refl fa) (Nat.le_succ fb)).runB hl (cntF B nb k) b4.le b5)
          simp only [stepA, stepB, b3, ha0, plc, Nat.add_zero]
          exact this
        · simp only [stepA, stepB, ha0]; omega
      · have hb0 := cnt_gone (xs := B) (n := nb) (k := k) (by omega)
        rw [stepO_no bt, cnt_no (kept_no ca), cnt_no (kept_no cb), cnt_no (p := fun i => both A B i) bt]
        refine ⟨_, _, fr_gone ha (by omega), fr_gone hb (by omega), ?_, ?_⟩
        · simp only [stepA, stepB, ha0, hb0, plc, Nat.add_zero]
          exact hi.none bt (Nat.le_refl _) (Nat.le_refl _)
        · simp only [stepA, stepB, ha0, hb0]; omega

end Go.Proofs.Ytdccpnaolcpohaa
