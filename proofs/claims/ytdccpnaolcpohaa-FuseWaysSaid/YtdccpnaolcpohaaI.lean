/- The walk of the law MapsTurns. -/
import Derived.Test.YtdccpnaolcpohaaH
namespace Go.Proofs.Ytdccpnaolcpohaa
open Go.RowKit

theorem sizeF_eq (n : Nat) (h : n ≤ 1048576) : sizeF n = n := by unfold sizeF; omega

def bhd (i : Nat) (j : Nat) : Int := behindF i j
def ahd (i : Nat) (j : Nat) : Int := aheadF i j
def butF (i : Nat) (j : Nat) : Int := if j = i then -1 else j

/-- A map of k places by a function. -/
def RetTab (w : World) (g : Nat → Int) (k : Nat) (new : Int) (e : Ending) (w' : World) : Prop :=
  ∃ a cap, e = .returned (.agg #[.slice a k cap, .int .i64 new]) ∧ Row w.heap.size w' a (tab g k) ∧ Below w.heap.size w w'
theorem RetMap.tab {w : World} {g : Nat → Int} {k : Nat} {new : Int} {e : Ending} {w' : World} (h : RetMap w (tab g k) new e w') : RetTab w g k new e w' := by
  obtain ⟨a, cap, h1, h2⟩ := h
  rw [tab_length] at h1
  exact ⟨a, cap, h1, h2⟩

theorem ins_at (W : World) (k i : Nat) (hk : k ≤ 1048576) (hi : i ≤ k) : Calls Try.prog 18 #[.int .i64 k, .int .i64 i] W (RetTab W (bhd i) k (k + 1)) := by
  have := ins_in W k i (by omega) (by rw [sizeF_eq k hk]; omega)
  rw [sizeF_eq k hk] at this
  exact this.mono fun _ _ h => h.tab
theorem del_at (W : World) (k i : Nat) (hk : k ≤ 1048576) (hi : i < k) : Calls Try.prog 19 #[.int .i64 k, .int .i64 i] W (RetTab W (ahd i) k (k - 1)) := by
  have := del_in W k i (by omega) (by rw [sizeF_eq k hk]; omega)
  rw [sizeF_eq k hk] at this
  exact this.mono fun _ _ h => h.tab
theorem same_at (W : World) (k : Nat) (hk : k ≤ 1048576) : Calls Try.prog 21 #[.int .i64 k] W (RetTab W idx k k) := by
  have := same_any W k
  rw [sizeF_eq k hk] at this
  exact this.mono fun _ _ h => h.tab

theorem tab_getD (g : Nat → Int) (n j : Nat) (h : j < n) : (tab g n).getD j 0 = g j := by simp [List.getD, tab_get g n j h]
theorem tab_ext (g h : Nat → Int) (n : Nat) (e : ∀ j, j < n → g j = h j) : tab g n = tab h n := by
  apply List.map_congr_left; intro j hj; exact e j (by simpa using hj)
theorem then_tab (g : Nat → Int) (n : Nat) (ys : List Int) (nb : Int) : thenF (tab g n) ys nb = tab (fun j => imageF ys nb (g j)) n := by
  simp [thenF, tab]
theorem image_tab (g : Nat → Int) (n : Nat) (nb x : Int) (h0 : 0 ≤ x) (h1 : x < n) : imageF (tab g n) nb x = g x.toNat := by
  rw [imageF_in _ _ _ (by omega) (by rw [tab_length]; exact h1), tab_getD _ _ _ (by omega)]

theorem turns_x (k i : Nat) (hi : i < k) : thenF (tab (bhd i) k) (tab (ahd i) (k + 1)) k = tab idx k := by
  rw [then_tab]
  apply tab_ext
  intro j hj
  simp only [bhd, idx, behindF]
  by_cases h : (j : Int) < i
  · rw [if_pos h, image_tab _ _ _ _ (by omega) (by omega)]
    simp only [ahd, aheadF]; rw [if_pos (by omega)]; exact Int.toNat_natCast _ ▸ rfl
  · rw [if_neg h, image_tab _ _ _ _ (by omega) (by omega)]
    simp only [ahd, aheadF]; rw [if_neg (by omega), if_neg (by omega)]; omega
theorem turns_y (k i : Nat) (hi : i < k) : thenF (tab (ahd i) k) (tab (bhd i) (k - 1)) k = tab (butF i) k := by
  rw [then_tab]
  apply tab_ext
  intro j hj
  simp only [ahd, aheadF, butF]
  by_cases h : (j : Int) < i
  · rw [if_pos h, image_tab _ _ _ _ (by omega) (by omega), if_neg (by omega)]
    simp only [bhd, behindF]; rw [if_pos (by omega)]; omega
  · rw [if_neg h]
    by_cases e : (j : Int) = i
    · rw [if_pos e, if_pos (by omega), imageF_gone]
    · rw [if_neg e, if_neg (by omega), image_tab _ _ _ _ (by omega) (by omega)]
      simp only [bhd, behindF]; rw [if_neg (by omega)]; omega

theorem tab_le (g : Nat → Int) (n : Nat) (B : Int) (h0 : 0 ≤ B) (h : ∀ j, j < n → g j ≤ B) (i : Nat) : (tab g n).getD i 0 ≤ B := by
  by_cases hi : i < n
  · rw [tab_getD _ _ _ hi]; exact h i hi
  · simp [List.getD, List.getElem?_eq_none (show (tab g n).length ≤ i by rw [tab_length]; omega), h0]

theorem bhd_le (i j : Nat) : bhd i j ≤ j + 1 := by simp only [bhd, behindF]; split <;> omega
theorem ahd_le (i j : Nat) : ahd i j ≤ j := by simp only [ahd, aheadF]; split; · omega
                                               split <;> omega

theorem turns_then_x (W : World) (aa ab : Option Addr) (ca cb : Nat) (k i : Nat) (hk : k ≤ 60) (hi : i < k) (ha : Row 0 W aa (tab (bhd i) k)) (hb : Row 0 W ab (tab (ahd i) (k + 1))) :
    Calls Try.prog 15 #[.agg #[.slice aa k ca, .int .i64 (k + 1)], .agg #[.slice ab (k + 1) cb, .int .i64 k]] W (RetTab W idx k k) := by
  have := then_any W ab aa cb ca _ _ k (k + 1) hb ha (by rw [tab_length]; omega) (by omega) (by omega) (tab_le _ _ _ (by omega) (fun j hj => by have := bhd_le i j; omega)) (by rw [tab_length]; omega)
  rw [tab_length, tab_length, turns_x k i hi] at this
  exact this.mono fun _ _ h => h.tab
theorem turns_then_y (W : World) (aa ab : Option Addr) (ca cb : Nat) (k i : Nat) (hk : k ≤ 60) (hi : i < k) (ha : Row 0 W aa (tab (ahd i) k)) (hb : Row 0 W ab (tab (bhd i) (k - 1))) :
    Calls Try.prog 15 #[.agg #[.slice aa k ca, .int .i64 ((k : Int) - 1)], .agg #[.slice ab (k - 1) cb, .int .i64 k]] W (RetTab W (butF i) k k) := by
  have := then_any W ab aa cb ca _ _ k ((k : Int) - 1) hb ha (by rw [tab_length]; omega) (by omega) (by omega) (tab_le _ _ _ (by omega) (fun j hj => by have := ahd_le i j; omega)) (by rw [tab_length]; omega)
  rw [tab_length, tab_length, turns_y k i hi] at this
  exact this.mono fun _ _ h => h.tab

set_option maxHeartbeats 2000000 in
theorem mapsTurns_walk (w : World) (n at_ : Int) (hn0 : 0 ≤ n) (hn1 : n ≤ 255) (ha0 : 0 ≤ at_) (ha1 : at_ ≤ 255) :
    Calls Try.prog 4 #[.int .u8 n, .int .u8 at_] w fun e w' => e = .returned (.bool true) ∧ Below w.heap.size w w' := by
  obtain ⟨k, hk⟩ := Int.eq_ofNat_of_zero_le (show 0 ≤ 1 + n % 60 by omega)
  have hkp : (0 : Int) < (k : Int) := by omega
  obtain ⟨i, hi⟩ := Int.eq_ofNat_of_zero_le (Int.emod_nonneg at_ (show (k : Int) ≠ 0 by omega))
  have hik := Int.emod_lt_of_pos at_ hkp
  rw [hi] at hik
  have hik' : i < k := by omega
  have hk60 : k ≤ 60 := by omega
  have hk1 : 1 ≤ k := by omega
  clear hkp hik
  have I1 := Lib.hid (fun W => ins_at W k i (by omega) (by omega))
  have D1 : Hid (∀ W, Calls Try.prog 19 #[.int .i64 ((k : Int) + 1), .int .i64 i] W (RetTab W (ahd i) (k + 1) k)) := fun W => by
    have := del_at W (k + 1) i (by omega) (by omega)
    rw [show ((k + 1 : Nat) : Int) = (k : Int) + 1 from by omega, show (k : Int) + 1 - 1 = k from by omega] at this
    exact this
  have D2 := Lib.hid (fun W => del_at W k i (by omega) hik')
  have I2 : Hid (∀ W, Calls Try.prog 18 #[.int .i64 ((k : Int) - 1), .int .i64 i] W (RetTab W (bhd i) (k - 1) k)) := fun W => by
    have := ins_at W (k - 1) i (by omega) (by omega)
    rw [show ((k - 1 : Nat) : Int) = (k : Int) - 1 from by omega, show (k : Int) - 1 + 1 = k from by omega] at this
    exact this
  go_enter Try.func4, Try.ntmps4
  go_wp2_with fail
  clear hk
  rw [hi]
  refine (I1.out _).mono ?_
  rintro e w1 ⟨a1, c1, rfl, r1, b1⟩
  go_wp2_with fail
  refine (D1.out _).mono ?_
  rintro e w2 ⟨a2, c2, rfl, r2, b2⟩
  go_wp2_with fail
  have q1 := (r1.below b2).from (Nat.zero_le _)
  have q2 := r2.from (Nat.zero_le _)
  have t12 := held_step b1 b2
  refine (turns_then_x _ a1 a2 c1 c2 k i hk60 hik' q1 q2).mono ?_
  rintro e w3 ⟨a3, c3, rfl, r3, b3⟩
  have t13 := held_step t12 b3
  clear r1 r2 q1 q2 b1 b2 b3 t12
  go_wp2_with fail
  refine (D2.out _).mono ?_
  rintro e w4 ⟨a4, c4, rfl, r4, b4⟩
  go_wp2_with fail
  refine (I2.out _).mono ?_
  rintro e w5 ⟨a5, c5, rfl, r5, b5⟩
  go_wp2_with fail
  have q4 := (r4.below b5).from (Nat.zero_le _)
  have q5 := r5.from (Nat.zero_le _)
  refine (turns_then_y _ a4 a5 c4 c5 k i hk60 hik' q4 q5).mono ?_
  rintro e w6 ⟨a6, c6, rfl, r6, b6⟩
  have r36 := ((((r3.below b4).below b5).below b6).from (Nat.zero_le _))
  have t16 := held_step (held_step (held_step t13 b4) b5) b6
  have r66 := r6.from (Nat.zero_le _)
  clear r3 r4 r5 r6 q4 q5 b4 b5 b6 t13
  go_wp2_with fail
  have hX := (Blk.made (w := w6) rfl [.slice a3 k c3, .int .i64 k] 26).alloc (.cells #[.slice a6 k c6, .int .i64 k] 26)
  have hY := Blk.made (w := w6.alloc (.cells #[.slice a3 k c3, .int .i64 k] 26)) rfl [.slice a6 k c6, .int .i64 k] 26
  have r37 := (r36.alloc (.cells #[.slice a3 k c3, .int .i64 k] 26)).alloc (.cells #[.slice a6 k c6, .int .i64 k] 26)
  have r67 := (r66.alloc (.cells #[.slice a3 k c3, .int .i64 k] 26)).alloc (.cells #[.slice a6 k c6, .int .i64 k] 26)
  have t17 := (t16.alloc t16.size (.cells #[.slice a3 k c3, .int .i64 k] 26)).alloc (by have := t16.size; simp <;> omega) (.cells #[.slice a6 k c6, .int .i64 k] 26)
  rw [World.size_alloc] at hY
  clear r36 r66 t16 I1 D1 D2 I2 hi
  generalize (w6.alloc (.cells #[.slice a3 k c3, .int .i64 k] 26)).alloc (.cells #[.slice a6 k c6, .int .i64 k] 26) = W7 at *
  generalize w6.heap.size = p7 at *
  have HCELLS : Hid (∀ w', Below W7.heap.size W7 w' → w'.cell? ⟨p7, 0, none⟩ = some (.slice a3 k c3) ∧ w'.cell? ⟨p7, 1, none⟩ = some (.int .i64 k) ∧
      w'.cell? ⟨p7 + 1, 0, none⟩ = some (.slice a6 k c6) ∧ w'.cell? ⟨p7 + 1, 1, none⟩ = some (.int .i64 k)) := fun w' h =>
    ⟨(hX.below h hX.lt).cell 0 _ rfl, (hX.below h hX.lt).cell 1 _ rfl, (hY.below h hY.lt).cell 0 _ rfl, (hY.below h hY.lt).cell 1 _ rfl⟩
  have HSAME : Hid (∀ W as_ cs, Row 0 W a3 (tab idx k) → Row 0 W as_ (tab idx k) → Calls Try.prog 20 #[.agg #[.slice a3 k c3, .int .i64 k], .agg #[.slice as_ k cs, .int .i64 k]] W fun e w' => e = .returned (.bool true) ∧ Below W.heap.size W w') := fun W as_ cs h h' => by
    have := sameMap_any W a3 as_ c3 cs (tab idx k) (tab idx k) k k h h' (by rw [tab_length]; omega) (by rw [tab_length]; omega)
    rw [tab_length, show sameF (tab idx k) k (tab idx k) k = true by simp [sameF, eqF]] at this
    exact this
  have HS := Lib.hid (fun W => same_at W k (by omega))
  clear hX
  go_region_held3 (fun w' => Below W7.heap.size W7 w' ∧ w'.cell? ⟨p7, 0, none⟩ = some (.slice a3 k c3) ∧ w'.cell? ⟨p7, 1, none⟩ = some (.int .i64 k) ∧
      w'.cell? ⟨p7 + 1, 0, none⟩ = some (.slice a6 k c6) ∧ w'.cell? ⟨p7 + 1, 1, none⟩ = some (.int .i64 k))
    (first
      | exact ⟨held_step hnow hbn, HCELLS.out _ (held_step hnow hbn)⟩
      | exact ⟨(Below.refl _ _).drew, HCELLS.out _ (Below.refl _ _).drew⟩
      | go_keep)
    (first
      | (go_at_call 21; have hnow : Below W7.heap.size W7 _ := (by go_split_ands; assumption); refine (HS.out _).mono ?_; rintro e wn ⟨as_, cs, rfl, hRs, hbn⟩)
      | (go_at_call 20; have hnow : Below W7.heap.size W7 _ := (by go_split_ands; assumption); refine (HSAME.out _ _ _ (r37.below hnow) (hRs.from (Nat.zero_le _))).mono ?_; rintro e wn ⟨rfl, hbn⟩))
  have hlast := held_step hnow hbn
  have hRy := r67.below hlast
  have hYn := hY.below hlast hY.lt
  have hy0 := hYn.cell 0 _ rfl
  have tn := held_step t17 hlast
  clear hnow hbn hRs hlast r37 r67 hY t17 hYn
  go_wp2_with fail
  go_loopg [9] k (fun g c wr => ∃ j : Nat, j ≤ k ∧ g = k - j ∧ c = .int .i64 j ∧ wn = wr)
  case atStart => exact ⟨0, Nat.zero_le _, rfl, rfl, rfl⟩
  case round =>
    obtain ⟨j, hj, rfl, rfl, rfl⟩ := hrel
    by_cases hlt : j < k
    · obtain ⟨b, off, rfl, _, hb, hc⟩ := hRy.at j (by rw [tab_length]; exact hlt)
      rw [tab_getD _ _ _ hlt] at hc
      by_cases e : j = i
      · have hc' : butF i j = -1 := by simp [butF, e]
        rw [hc'] at hc
        have e' : ((j : Int) == (i : Int)) = true := by simp [e]
        clear e hc'
        go_wp2
        go_roundg (k - (j + 1))
        case measure => omega
        case rel => exact ⟨j + 1, by omega, rfl, by go_num, rfl⟩
      · have hc' : butF i j = j := by simp [butF, e]
        rw [hc'] at hc
        have e' : ((j : Int) == (i : Int)) = false := by simp; omega
        clear e hc'
        go_wp2
        go_roundg (k - (j + 1))
        case measure => omega
        case rel => exact ⟨j + 1, by omega, rfl, by go_num, rfl⟩
    · go_wp2_with (go_at_call 13; refine (awake_any _).mono ?_; rintro e w8 ⟨rfl, hb8⟩)
      go_ret
      exact ⟨rfl, tn.trans (hb8.mono tn.size)⟩

end Go.Proofs.Ytdccpnaolcpohaa
