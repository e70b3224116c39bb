/- The walk of the law ShaHex. -/
import Derived.Test.YtogpecgbgfcdcaaSO
import Derived.Test.YtogpecgbgfcdcaaSK
namespace Go.Proofs.Ytogpecgbgfcdcaa
open Go.RowKit

theorem hexL_get : ∀ (bs : List UInt8) (k : Nat), k < bs.length → (hexL bs).getD (2 * k) 0 = hexd ((bs.getD k 0).toNat / 16) ∧ (hexL bs).getD (2 * k + 1) 0 = hexd ((bs.getD k 0).toNat % 16)
  | [], k, h => by simp at h
  | b :: bs, 0, _ => by simp [hexL]
  | b :: bs, k + 1, h => by
    have := hexL_get bs k (by simpa using h)
    rw [show 2 * (k + 1) = 2 * k + 1 + 1 from by omega, show 2 * k + 1 + 1 + 1 = (2 * k + 1) + 1 + 1 from by omega]
    simpa [hexL] using this
theorem nib_hexd (i : Nat) (h : i < 16) : nib (hexd i).toNat = some i := by rw [← digs_at i h]; exact nib_digs i h
theorem two_hexd (c : UInt8) : two (hexd (c.toNat / 16)) (hexd (c.toNat % 16)) = some c := by
  have h := c.toNat_lt
  unfold two
  rw [nib_hexd _ (by omega), nib_hexd _ (by omega)]
  simp only [show 16 * (c.toNat / 16) + c.toNat % 16 = c.toNat by omega, UInt8.ofNat_toNat]
theorem unP_hexL (bs : List UInt8) : ∀ k, k ≤ bs.length → unP (hexL bs) k = some (bs.take k) := by
  intro k
  induction k with
  | zero => intro _; simp [unP]
  | succ k ih =>
    intro hk
    rw [unP, ih (by omega), (hexL_get bs k (by omega)).1, (hexL_get bs k (by omega)).2, two_hexd, take_succ (by omega)]
theorem unhex_hex (bs : List UInt8) : unhexF (hexL bs) = some bs := by
  unfold unhexF
  rw [hexL_length, if_neg (by omega), show 2 * bs.length / 2 = bs.length by omega, unP_hexL bs _ (Nat.le_refl _), List.take_length]
theorem hexd_nib : ∀ c : Nat, c < 256 → ∀ x, nib c = some x → hexd x = UInt8.ofNat c := by
  have h : ∀ c : Nat, c < 256 → (match nib c with | some x => hexd x == UInt8.ofNat c | none => true) = true := by decide +kernel
  intro c hc x hx
  have := h c hc
  rw [hx] at this
  simpa using this
theorem two_inv {a c b : UInt8} (h : two a c = some b) : a = hexd (b.toNat / 16) ∧ c = hexd (b.toNat % 16) := by
  unfold two at h
  have ha := a.toNat_lt
  have hc := c.toNat_lt
  split at h
  · rename_i x y hx hy
    simp only [Option.some.injEq] at h
    have lx := nib_lt hx
    have ly := nib_lt hy
    have e : b.toNat = 16 * x + y := by rw [← h, UInt8.toNat_ofNat']; omega
    rw [e, show (16 * x + y) / 16 = x by omega, show (16 * x + y) % 16 = y by omega, hexd_nib _ ha _ hx, hexd_nib _ hc _ hy]
    simp
  · cases h
theorem hexL_unP {ts : List UInt8} : ∀ k l, 2 * k ≤ ts.length → unP ts k = some l → hexL l = ts.take (2 * k) := by
  intro k
  induction k with
  | zero => intro l _ h; simp [unP] at h; subst h; simp [hexL]
  | succ k ih =>
    intro l hk h
    rw [unP] at h
    split at h
    · rename_i l' b h1 h2
      simp only [Option.some.injEq] at h
      subst h
      obtain ⟨e1, e2⟩ := two_inv h2
      rw [hexL_append, ih l' (by omega) h1, show 2 * (k + 1) = 2 * k + 1 + 1 from by omega, take_succ (by omega), take_succ (by omega), e1, e2]
      simp [hexL]
    · cases h
theorem hex_unhex {ts l : List UInt8} (h : unhexF ts = some l) : hexL l = ts := by
  unfold unhexF at h
  split at h
  · cases h
  · have := hexL_unP _ l (by omega) h
    rw [show 2 * (ts.length / 2) = ts.length by omega, List.take_length] at this
    exact this
theorem unhexF_length {ts l : List UInt8} (h : unhexF ts = some l) : l.length ≤ ts.length := by
  have := congrArg List.length (hex_unhex h)
  rw [hexL_length] at this
  omega

set_option maxRecDepth 100000 in
set_option maxHeartbeats 8000000 in
theorem shaHex_walk (w : World) (bs ts : List UInt8) : Calls Try.prog 7 #[str bs, str ts] w fun e w' => e = .returned (.bool true) ∧ Below w.heap.size w w' := by
  have AW := Lib.hid awake_any
  unfold str
  by_cases c0 : bs.length > 300
  · have c0' : (bs.length : Int) > 300 := by omega
    go_enter Try.func7, Try.ntmps7
    go_wp2_with (go_at_call 10; refine (awake_any _).mono ?_; rintro e w1 ⟨rfl, hb⟩)
    go_ret
    exact ⟨rfl, hb⟩
  · have c0' : ¬ (bs.length : Int) > 300 := by omega
    by_cases c1 : ts.length > 300
    · have c1' : (ts.length : Int) > 300 := by omega
      go_enter Try.func7, Try.ntmps7
      go_wp2_with (go_at_call 10; refine (awake_any _).mono ?_; rintro e w1 ⟨rfl, hb⟩)
      go_ret
      exact ⟨rfl, hb⟩
    · have c1' : ¬ (ts.length : Int) > 300 := by omega
      have hll := hexL_length bs
      have H14 := Lib.hid (fun W => hex_any W bs (by omega))
      have H17 := Lib.hid (fun W => rhex_any W bs (by omega))
      have H15 := Lib.hid (fun W => unhex_any W (hexL bs) (by omega))
      have T15 := Lib.hid (fun W => unhex_any W ts (by omega))
      have T16 := Lib.hid (fun W => runhex_any W ts (by omega))
      rw [unhex_hex] at H15
      clear hll
      generalize hexL bs = hx at *
      cases hu : unhexF ts with
      | none =>
        rw [hu] at T15 T16
        unfold unV at H15 T15 T16
        unfold str at H14 H15 H17 T15 T16
        clear hu
        have hB : Below w.heap.size w w := Below.refl _ _
        go_enter Try.func7, Try.ntmps7
        go_wp2_with (first
          | (go_at_call 14; with_reducible refine (H14.out _).mono ?_; rintro e w1 ⟨rfl, hb1⟩; replace hB := hB.trans (hb1.mono hB.size); clear hb1)
          | (go_at_call 15; with_reducible refine (H15.out _).mono ?_; rintro e w1 ⟨rfl, hb1⟩; replace hB := hB.trans (hb1.mono hB.size); clear hb1)
          | (go_at_call 15; with_reducible refine (T15.out _).mono ?_; rintro e w1 ⟨rfl, hb1⟩; replace hB := hB.trans (hb1.mono hB.size); clear hb1)
          | (go_at_call 16; with_reducible refine (T16.out _).mono ?_; rintro e w1 ⟨rfl, hb1⟩; replace hB := hB.trans (hb1.mono hB.size); clear hb1)
          | (go_at_call 17; with_reducible refine (H17.out _).mono ?_; rintro e w1 ⟨rfl, hb1⟩; replace hB := hB.trans (hb1.mono hB.size); clear hb1)
          | (go_at_call 10; with_reducible refine (AW.out _).mono ?_; rintro e w1 ⟨rfl, hb1⟩; replace hB := hB.trans (hb1.mono hB.size); clear hb1))
        go_ret
        exact ⟨rfl, hB⟩
      | some l =>
        rw [hu] at T15 T16
        have hlen := unhexF_length hu
        have L14 := Lib.hid (fun W => hex_any W l (by omega))
        rw [hex_unhex hu] at L14
        unfold unV at H15 T15 T16
        unfold str at H14 H15 H17 T15 T16 L14
        clear hu hlen
        have hB : Below w.heap.size w w := Below.refl _ _
        go_enter Try.func7, Try.ntmps7
        go_wp2_with (first
          | (go_at_call 14; with_reducible refine (H14.out _).mono ?_; rintro e w1 ⟨rfl, hb1⟩; replace hB := hB.trans (hb1.mono hB.size); clear hb1)
          | (go_at_call 15; with_reducible refine (H15.out _).mono ?_; rintro e w1 ⟨rfl, hb1⟩; replace hB := hB.trans (hb1.mono hB.size); clear hb1)
          | (go_at_call 15; with_reducible refine (T15.out _).mono ?_; rintro e w1 ⟨rfl, hb1⟩; replace hB := hB.trans (hb1.mono hB.size); clear hb1)
          | (go_at_call 16; with_reducible refine (T16.out _).mono ?_; rintro e w1 ⟨rfl, hb1⟩; replace hB := hB.trans (hb1.mono hB.size); clear hb1)
          | (go_at_call 17; with_reducible refine (H17.out _).mono ?_; rintro e w1 ⟨rfl, hb1⟩; replace hB := hB.trans (hb1.mono hB.size); clear hb1)
          | (go_at_call 14; with_reducible refine (L14.out _).mono ?_; rintro e w1 ⟨rfl, hb1⟩; replace hB := hB.trans (hb1.mono hB.size); clear hb1)
          | (go_at_call 10; with_reducible refine (AW.out _).mono ?_; rintro e w1 ⟨rfl, hb1⟩; replace hB := hB.trans (hb1.mono hB.size); clear hb1))
        go_ret
        exact ⟨rfl, hB⟩

end Go.Proofs.Ytogpecgbgfcdcaa
