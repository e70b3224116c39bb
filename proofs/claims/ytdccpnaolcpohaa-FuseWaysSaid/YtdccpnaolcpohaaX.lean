/- The pure functions of fuse.Fuse; its refusals. -/
import Derived.Test.YtdccpnaolcpohaaW
namespace Go.Proofs.Ytdccpnaolcpohaa
open Go.RowKit

set_option maxHeartbeats 1000000 in
theorem own_nil (w : World) (ps : Nat) (a : Option Addr) (cap : Nat) (xs : List Int) (n : Nat) (tv : Value) (k : Nat) (h : Row 0 w a xs) (hP : Blk w ps [.slice a xs.length cap, .int .i64 n, tv] 63) (hl : xs.length ≤ 4294967296)
    (hk : k < xs.length) (hx : xs.getD k 0 < 0) :
    Calls Try.prog 48 #[.pointer (some ⟨ps, 0, none⟩), .int .i64 k] w (RetRow w []) := by
  have hm0 := hP.cell 0 _ rfl
  obtain ⟨b, off, rfl, _, hb, hc⟩ := h.at k hk
  generalize xs.getD k 0 = x at *
  have hk0 : (0 : Int) ≤ (k : Int) := Int.natCast_nonneg _
  have hk1 : (k : Int) < (xs.length : Int) := by omega
  go_enter Try.func48, Try.ntmps48
  go_wp2
  go_ret
  exact ⟨none, 0, rfl, .inl rfl, Below.refl _ _⟩

/-- How many stand behind g. -/
def cntF (xs : List Int) (n : Nat) (g : Int) : Nat := if 0 ≤ g ∧ xs.getD g.toNat 0 < 0 then 0 else runF xs n (fromF xs g)
def ownP (xs : List Int) (n : Nat) (g : Int) : List Int := tab (shift (fromF xs g)) (cntF xs n g)
theorem ownP_length (xs : List Int) (n : Nat) (g : Int) : (ownP xs n g).length = cntF xs n g := tab_length _ _

theorem own_any (w : World) (ps : Nat) (a : Option Addr) (cap : Nat) (xs : List Int) (n : Nat) (tv : Value) (g : Int) (h : Row 0 w a xs) (hP : Blk w ps [.slice a xs.length cap, .int .i64 n, tv] 63) (hl : xs.length ≤ 4294967296) (hn : n ≤ 4294967296)
    (hg0 : -1 ≤ g) (hg : g < xs.length) (hu : UpP (-1) n xs) :
    Calls Try.prog 48 #[.pointer (some ⟨ps, 0, none⟩), .int .i64 g] w fun e w' => ∃ a' cap', e = .returned (.slice a' (cntF xs n g) cap') ∧ Row w.heap.size w' a' (ownP xs n g) ∧ Below w.heap.size w w' := by
  by_cases h0 : 0 ≤ g
  · obtain ⟨k, rfl⟩ := Int.eq_ofNat_of_zero_le h0
    have hk : k < xs.length := by omega
    by_cases hx : xs.getD k 0 < 0
    · have hc : cntF xs n k = 0 := by rw [cntF, if_pos ⟨h0, by simpa using hx⟩]
      refine (own_nil w ps a cap xs n tv k h hP hl hk hx).mono fun e w' ⟨a', c', h1, h2, h3⟩ => ⟨a', c', by rw [hc]; exact h1, ?_, h3⟩
      rw [ownP, hc]; exact h2
    · have hc : cntF xs n k = runF xs n (fromF xs k) := by rw [cntF, if_neg (by simpa using hx)]
      have hxb := hu.1 k _ (show xs[k]? = some (xs.getD k 0) by simp [List.getD, hk]) (by omega)
      refine (own_from w ps a cap xs n tv k h hP hl hn (.inr ⟨k, rfl, hk, by omega, by omega⟩)).mono fun e w' ⟨a', c', h1, h2, h3⟩ => ⟨a', c', ?_, ?_, h3⟩
      · rw [tab_length] at h1; rw [hc]; exact h1
      · rw [ownP, hc]; exact h2
  · have hc : cntF xs n g = runF xs n (fromF xs g) := by rw [cntF, if_neg (by omega)]
    refine (own_from w ps a cap xs n tv g h hP hl hn (.inl (by omega))).mono fun e w' ⟨a', c', h1, h2, h3⟩ => ⟨a', c', ?_, ?_, h3⟩
    · rw [tab_length] at h1; rw [hc]; exact h1
    · rw [ownP, hc]; exact h2

/-- c places from f on are told numbers from now on. -/
def plc (T : List Int) (f now : Nat) : Nat → List Int
  | 0 => T
  | c + 1 => (plc T f now c).set (f + c) ((now + c : Nat) : Int)
theorem plc_length (T : List Int) (f now c : Nat) : (plc T f now c).length = T.length := by induction c with | zero => rfl | succ c ih => simp [plc, ih]

structure FS where
  o : List Int
  ta : List Int
  tb : List Int
  now : Nat

def both (A B : List Int) (g : Int) : Bool := decide (0 ≤ g ∧ 0 ≤ A.getD g.toNat 0 ∧ 0 ≤ B.getD g.toNat 0)
def stepO (A B : List Int) (g : Int) (s : FS) : FS :=
  if both A B g = true then ⟨s.o.set g.toNat s.now, s.ta.set (A.getD g.toNat 0).toNat s.now, s.tb.set (B.getD g.toNat 0).toNat s.now, s.now + 1⟩ else s
def stepA (A : List Int) (na : Nat) (g : Int) (s : FS) : FS := ⟨s.o, plc s.ta (fromF A g) s.now (cntF A na g), s.tb, s.now + cntF A na g⟩
def stepB (B : List Int) (nb : Nat) (g : Int) (s : FS) : FS := ⟨s.o, s.ta, plc s.tb (fromF B g) s.now (cntF B nb g), s.now + cntF B nb g⟩
/-- The state after the rounds of g from -1 on, k of them. -/
def fuseS (A B : List Int) (na nb : Nat) : Nat → FS
  | 0 => ⟨gones A.length, gones na, gones nb, 0⟩
  | k + 1 => stepB B nb ((k : Int) - 1) (stepA A na ((k : Int) - 1) (stepO A B ((k : Int) - 1) (fuseS A B na nb k)))

def FLen (A : List Int) (na nb : Nat) (s : FS) : Prop := s.o.length = A.length ∧ s.ta.length = na ∧ s.tb.length = nb
theorem stepO_len {A B : List Int} {na nb : Nat} {g : Int} {s : FS} (h : FLen A na nb s) : FLen A na nb (stepO A B g s) := by
  unfold stepO; split
  · simpa [FLen] using h
  · exact h
theorem stepA_len {A B : List Int} {na nb : Nat} {g : Int} {s : FS} (h : FLen A na nb s) : FLen A na nb (stepA B na g s) := by simpa [FLen, stepA, plc_length] using h
theorem stepB_len {A B : List Int} {na nb : Nat} {g : Int} {s : FS} (h : FLen A na nb s) : FLen A na nb (stepB B nb g s) := by simpa [FLen, stepB, plc_length] using h
theorem fuseS_len (A B : List Int) (na nb k : Nat) : FLen A na nb (fuseS A B na nb k) := by
  induction k with
  | zero => simp [fuseS, FLen, gones_length]
  | succ k ih => exact stepB_len (stepA_len (stepO_len ih))
theorem stepO_now (A B : List Int) (g : Int) (s : FS) : (stepO A B g s).now ≤ s.now + 1 := by unfold stepO; split <;> simp
theorem cntF_le (xs : List Int) (n : Nat) (g : Int) : cntF xs n g ≤ n := by
  unfold cntF; split
  · omega
  · have := runF_le xs n (fromF xs g); omega
theorem fuseS_now (A B : List Int) (na nb k : Nat) : (fuseS A B na nb k).now ≤ k * (na + nb + 1) := by
  induction k with
  | zero => simp [fuseS]
  | succ k ih =>
    have h1 := stepO_now A B ((k : Int) - 1) (fuseS A B na nb k)
    have h2 := cntF_le A na ((k : Int) - 1)
    have h3 := cntF_le B nb ((k : Int) - 1)
    simp only [fuseS, stepB, stepA]
    rw [Nat.succ_mul]
    omega

end Go.Proofs.Ytdccpnaolcpohaa
