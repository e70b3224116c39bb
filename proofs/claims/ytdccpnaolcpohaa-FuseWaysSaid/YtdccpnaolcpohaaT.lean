/- The contract of the reference's Span. -/
import Derived.Test.YtdccpnaolcpohaaS
namespace Go.Proofs.Ytdccpnaolcpohaa
open Go.RowKit

theorem lw_all_neg (f : Nat → Int) (lo j : Nat) (h : ∀ i, i < j → f (lo + i) < 0) : lwS f lo j = false ∧ lwL f lo j = 0 ∧ lwM f lo j = 0 := by
  induction j with
  | zero => simp [lwS, lwL, lwM]
  | succ j ih =>
    obtain ⟨e1, e2, e3⟩ := lw_skip f lo j (h j (by omega))
    obtain ⟨i1, i2, i3⟩ := ih (fun i hi => h i (by omega))
    exact ⟨e1.trans i1, e2.trans i2, e3.trans i3⟩
theorem lw_hit (f : Nat → Int) (lo k : Nat) (h : ∀ i, i < k → f (lo + i) < 0) (hk : ¬ f (lo + k) < 0) (t : Nat) : lwS f lo (k + 1 + t) = true ∧ lwL f lo (k + 1 + t) = f (lo + k) := by
  induction t with
  | zero =>
    obtain ⟨e1, e2, _⟩ := lw_first f lo k hk (lw_all_neg f lo k h).1
    exact ⟨e1, e2⟩
  | succ t ih =>
    obtain ⟨i1, i2⟩ := ih
    by_cases hn : f (lo + (k + 1 + t)) < 0
    · obtain ⟨e1, e2, _⟩ := lw_skip f lo (k + 1 + t) hn
      exact ⟨e1.trans i1, e2.trans i2⟩
    · obtain ⟨e1, e2, _⟩ := lw_more f lo (k + 1 + t) hn i1
      exact ⟨e1, e2.trans i2⟩
theorem lwM_hit (f : Nat → Int) (lo m : Nat) (hm : ¬ f (lo + m) < 0) (t : Nat) (h : ∀ i, i < t → f (lo + (m + 1 + i)) < 0) : lwM f lo (m + 1 + t) = f (lo + m) := by
  induction t with
  | zero => simp only [lwM, Nat.add_zero, if_neg hm]
  | succ t ih =>
    have := (lw_skip f lo (m + 1 + t) (h t (by omega))).2.2
    exact this.trans (ih fun i hi => h i (by omega))

theorem imgN_in (xs : List Int) (n i : Nat) (h : i < xs.length) : imgN xs n i = xs.getD i 0 := by
  rw [imgN, imageF_in _ _ _ (by omega) (by omega)]; simp
theorem imgN_out (xs : List Int) (n i : Nat) (h : ¬ i < xs.length) : ¬ imgN xs n i < 0 := by
  rw [imgN, imageF_out _ _ _ (by omega)]; omega

theorem rspan_none (w : World) (a : Option Addr) (cap : Nat) (xs : List Int) (new lo hi : Int) (h : lo < 0 ∨ hi < lo) :
    Calls Try.prog 33 #[.agg #[.slice a xs.length cap, .int .i64 new], .int .i64 lo, .int .i64 hi] w fun e w' => e = .returned (.tuple #[.int .i64 0, .int .i64 0, .bool false]) ∧ Below w.heap.size w w' := by
  by_cases h0 : lo < 0
  · go_enter Try.func33, Try.ntmps33
    go_wp2
    go_ret3
    exact ⟨rfl, (Below.refl _ _).alloc (Nat.le_refl _) _⟩
  · have h1 : hi < lo := by omega
    clear h
    go_enter Try.func33, Try.ntmps33
    go_wp2
    go_ret3
    exact ⟨rfl, (Below.refl _ _).alloc (Nat.le_refl _) _⟩

set_option maxHeartbeats 4000000 in
theorem rspan_some (w : World) (a : Option Addr) (cap : Nat) (xs : List Int) (n : Nat) (hR : Row 0 w a xs) (hl : xs.length ≤ 4294967296) (hn : n ≤ 4294967296) (lo hi : Nat) (hle : lo ≤ hi) (hh : hi ≤ 2199023255552) :
    Calls Try.prog 33 #[.agg #[.slice a xs.length cap, .int .i64 n], .int .i64 lo, .int .i64 hi] w fun e w' =>
      e = .returned (.tuple #[.int .i64 (lwL (imgN xs n) lo (hi + 1 - lo)), .int .i64 (lwM (imgN xs n) lo (hi + 1 - lo)), .bool (lwS (imgN xs n) lo (hi + 1 - lo))]) ∧ Below w.heap.size w w' := by
  have B0 := (Below.refl w.heap.size w).alloc (Nat.le_refl _) (.cells #[.slice a xs.length cap, .int .i64 n] 26)
  have HR := Lib.hid hR
  have HI := Lib.hid (fun W i (hi : i ≤ 2199023255552) h => rimage_any W a cap xs n i h hl (by omega) (by omega) hi)
  have hR1 := hR.alloc (.cells #[.slice a xs.length cap, .int .i64 n] 26)
  have hBx := Blk.made (w := w) rfl [.slice a xs.length cap, .int .i64 n] 26
  clear hR
  have c0 : ¬ (lo : Int) < 0 := by omega
  have c1 : ¬ hi < lo := by omega
  go_enter Try.func33, Try.ntmps33
  go_wp2_with fail
  go_loopg [9] (hi + 1 - lo) (fun g vi wr => ∃ k : Nat, lo + k ≤ hi + 1 ∧ g = hi + 1 - lo - k ∧ vi = .int .i64 (lo + k) ∧ Hid (∀ i, i < k → imgN xs n (lo + i) < 0) ∧ w.alloc (.cells #[.slice a xs.length cap, .int .i64 n] 26) = wr)
  case atStart => exact ⟨0, by omega, rfl, by simp, fun i hi => absurd hi (Nat.not_lt_zero i), rfl⟩
  case round =>
    obtain ⟨k, hk, rfl, rfl, HN, rfl⟩ := hrel
    by_cases e1 : lo + k ≤ hi
    · have e1' : (lo : Int) + k ≤ hi := by omega
      by_cases e2 : lo + k < xs.length
      · have e2' : (lo : Int) + k < xs.length := by omega
        obtain ⟨b, off, rfl, _, hb, hc⟩ := HR.out.at (lo + k) e2
        have HIN := Lib.hid (imgN_in xs n (lo + k) e2)
        generalize xs.getD (lo + k) 0 = x at *
        by_cases f1 : x < 0
        · go_wp2
          go_roundg (hi + 1 - lo - (k + 1))
          case measure => omega
          case rel => exact ⟨k + 1, by omega, rfl, by rw [show ((lo : Int) + ((k + 1 : Nat) : Int)) = lo + k + 1 from by omega], fun i hi => by
            by_cases e : i = k
            · subst e; rw [HIN.out]; exact f1
            · exact HN.out i (by omega), rfl⟩
        · have hst := Lib.hid (show 0 ≤ imgN xs n (lo + k) by rw [HIN.out]; omega)
          have HEND : Hid (∀ m, lo + k ≤ m → m ≤ hi → 0 ≤ imgN xs n m → (∀ i, m < i → i ≤ hi → imgN xs n i < 0) →
              Ending.returned (.tuple #[.int .i64 (imageF xs n ((lo : Int) + k)), .int .i64 (imageF xs n m), .bool true]) = .returned (.tuple #[.int .i64 (lwL (imgN xs n) lo (hi + 1 - lo)), .int .i64 (lwM (imgN xs n) lo (hi + 1 - lo)), .bool (lwS (imgN xs n) lo (hi + 1 - lo))])) := by
            intro m hm1 hm2 hm3 hm4
            obtain ⟨x1, x2⟩ := lw_hit (imgN xs n) lo k HN.out (by have := hst.out; omega) (hi - (lo + k))
            have x3 := lwM_hit (imgN xs n) lo (m - lo) (by rw [show lo + (m - lo) = m from by omega]; omega) (hi - m) (fun i hi' => hm4 _ (by omega) (by omega))
            rw [show k + 1 + (hi - (lo + k)) = hi + 1 - lo from by omega] at x1 x2
            rw [show m - lo + 1 + (hi - m) = hi + 1 - lo from by omega, show lo + (m - lo) = m from by omega] at x3
            rw [x1, x2, x3, imgN, imgN, show ((lo + k : Nat) : Int) = (lo : Int) + k from by omega]
          have HA := Lib.hid (fun W h => HI.out W ((lo : Int) + k) (by omega) h)
          go_wp2_with fail
          go_loopg [10] hi (fun g vb ws => ∃ m : Nat, lo + k ≤ m ∧ m ≤ hi ∧ m = g ∧ vb = .int .i64 m ∧ Hid (∀ i, m < i → i ≤ hi → imgN xs n i < 0) ∧ w.alloc (.cells #[.slice (some ⟨b, off, none⟩) xs.length cap, .int .i64 n] 26) = ws)
          case atStart => exact ⟨hi, by omega, by omega, rfl, rfl, fun i h1 h2 => by omega, rfl⟩
          case round =>
            obtain ⟨m, hm1, hm2, rfl, rfl, HM, rfl⟩ := hrel
            have d1 : (m : Int) ≥ (lo : Int) + k := by omega
            by_cases d2 : m < xs.length
            · have d2' : (m : Int) < xs.length := by omega
              obtain ⟨b2, off2, eaa, _, hb2, hc2⟩ := HR.out.at m d2
              have HIN2 := Lib.hid (imgN_in xs n m d2)
              generalize xs.getD m 0 = y at *
              simp only [Option.some.injEq, Addr.mk.injEq] at eaa; obtain ⟨rfl, rfl, _⟩ := eaa
              by_cases f2 : y < 0
              · have hlt : lo + k < m := by
                  rcases Nat.lt_or_ge (lo + k) m with h | h
                  · exact h
                  · obtain rfl : lo + k = m := by omega
                    have h0 := hst.out; rw [HIN2.out] at h0; omega
                go_wp2
                go_roundg (m - 1)
                case measure => omega
                case rel => exact ⟨m - 1, by omega, by omega, rfl, by rw [show ((m - 1 : Nat) : Int) = m - 1 from by omega], fun i h1 h2 => by
                  by_cases e : i = m
                  · subst e; rw [HIN2.out]; exact f2
                  · exact HM.out i (by omega) h2, rfl⟩
              · have HF := Lib.hid (HEND.out m hm1 hm2 (by rw [HIN2.out]; omega) HM.out)
                have hc3 := (World.cell?_alloc_lt w (.cells #[.slice (some ⟨b, off, none⟩) xs.length cap, .int .i64 n] 26) ⟨b, off + m, none⟩ hb2).trans hc2
                have HB := Lib.hid (fun W h => HI.out W m (by omega) h)
                generalize imageF xs n ((lo : Int) + k) = u1 at *
                generalize imageF xs n m = u2 at *
                have x0 := hBx.cell 0 _ rfl
                have x1 := hBx.cell 1 _ rfl
                have hsz := B0.size
                have d3 : ¬ ((m : Int) < (lo : Int) + k) := by omega
                generalize w.alloc (.cells #[.slice (some ⟨b, off, none⟩) xs.length cap, .int .i64 n] 26) = W1 at *
                go_wp2_with fail
                go_region_held3 (fun w' => Below W1.heap.size W1 w' ∧ w'.cell? ⟨w.heap.size, 0, none⟩ = some (.slice (some ⟨b, off, none⟩) xs.length cap) ∧ w'.cell? ⟨w.heap.size, 1, none⟩ = some (.int .i64 n))
                  (first
                    | exact ⟨held_step hnow hbn, ((hBx.below (held_step hnow hbn) hBx.lt).cell 0 _ rfl), ((hBx.below (held_step hnow hbn) hBx.lt).cell 1 _ rfl)⟩
                    | exact ⟨(Below.refl _ _).drew, x0, x1⟩
                    | go_keep)
                  (first
                    | (go_at_call 34; have hnow : Below W1.heap.size W1 _ := (by go_split_ands; assumption); with_reducible refine (HA.out _ (hR1.below hnow)).mono ?_; rintro e wn ⟨rfl, hbn⟩)
                    | (go_at_call 34; have hnow : Below W1.heap.size W1 _ := (by go_split_ands; assumption); with_reducible refine (HB.out _ (hR1.below hnow)).mono ?_; rintro e wn ⟨rfl, hbn⟩))
                have hl3 := held_step hnow hbn
                go_wp2
                go_ret3
                exact ⟨HF.out, B0.trans (hl3.mono hsz)⟩
            · have d2' : ¬ (m : Int) < xs.length := by omega
              have HF := Lib.hid (HEND.out m hm1 hm2 (by have := imgN_out xs n m d2; omega) HM.out)
              have HB := Lib.hid (fun W h => HI.out W m (by omega) h)
              generalize imageF xs n ((lo : Int) + k) = u1 at *
              generalize imageF xs n m = u2 at *
              have x0 := hBx.cell 0 _ rfl
              have x1 := hBx.cell 1 _ rfl
              have hsz := B0.size
              have d3 : ¬ ((m : Int) < (lo : Int) + k) := by omega
              generalize w.alloc (.cells #[.slice (some ⟨b, off, none⟩) xs.length cap, .int .i64 n] 26) = W1 at *
              go_wp2_with fail
              go_region_held3 (fun w' => Below W1.heap.size W1 w' ∧ w'.cell? ⟨w.heap.size, 0, none⟩ = some (.slice (some ⟨b, off, none⟩) xs.length cap) ∧ w'.cell? ⟨w.heap.size, 1, none⟩ = some (.int .i64 n))
                (first
                  | exact ⟨held_step hnow hbn, ((hBx.below (held_step hnow hbn) hBx.lt).cell 0 _ rfl), ((hBx.below (held_step hnow hbn) hBx.lt).cell 1 _ rfl)⟩
                  | exact ⟨(Below.refl _ _).drew, x0, x1⟩
                  | go_keep)
                (first
                  | (go_at_call 34; have hnow : Below W1.heap.size W1 _ := (by go_split_ands; assumption); with_reducible refine (HA.out _ (hR1.below hnow)).mono ?_; rintro e wn ⟨rfl, hbn⟩)
                  | (go_at_call 34; have hnow : Below W1.heap.size W1 _ := (by go_split_ands; assumption); with_reducible refine (HB.out _ (hR1.below hnow)).mono ?_; rintro e wn ⟨rfl, hbn⟩))
              have hl3 := held_step hnow hbn
              go_wp2
              go_ret3
              exact ⟨HF.out, B0.trans (hl3.mono hsz)⟩
      · have e2' : ¬ (lo : Int) + k < xs.length := by omega
        have hst := Lib.hid (show 0 ≤ imgN xs n (lo + k) by have := imgN_out xs n (lo + k) e2; omega)
        have HEND : Hid (∀ m, lo + k ≤ m → m ≤ hi → 0 ≤ imgN xs n m → (∀ i, m < i → i ≤ hi → imgN xs n i < 0) →
            Ending.returned (.tuple #[.int .i64 (imageF xs n ((lo : Int) + k)), .int .i64 (imageF xs n m), .bool true]) = .returned (.tuple #[.int .i64 (lwL (imgN xs n) lo (hi + 1 - lo)), .int .i64 (lwM (imgN xs n) lo (hi + 1 - lo)), .bool (lwS (imgN xs n) lo (hi + 1 - lo))])) := by
          intro m hm1 hm2 hm3 hm4
          obtain ⟨x1, x2⟩ := lw_hit (imgN xs n) lo k HN.out (by have := hst.out; omega) (hi - (lo + k))
          have x3 := lwM_hit (imgN xs n) lo (m - lo) (by rw [show lo + (m - lo) = m from by omega]; omega) (hi - m) (fun i hi' => hm4 _ (by omega) (by omega))
          rw [show k + 1 + (hi - (lo + k)) = hi + 1 - lo from by omega] at x1 x2
          rw [show m - lo + 1 + (hi - m) = hi + 1 - lo from by omega, show lo + (m - lo) = m from by omega] at x3
          rw [x1, x2, x3, imgN, imgN, show ((lo + k : Nat) : Int) = (lo : Int) + k from by omega]
        have HA := Lib.hid (fun W h => HI.out W ((lo : Int) + k) (by omega) h)
        go_wp2_with fail
        go_loopg [10] hi (fun g vb ws => ∃ m : Nat, lo + k ≤ m ∧ m ≤ hi ∧ m = g ∧ vb = .int .i64 m ∧ Hid (∀ i, m < i → i ≤ hi → imgN xs n i < 0) ∧ w.alloc (.cells #[.slice a xs.length cap, .int .i64 n] 26) = ws)
        case atStart => exact ⟨hi, by omega, by omega, rfl, rfl, fun i h1 h2 => by omega, rfl⟩
        case round =>
          obtain ⟨m, hm1, hm2, rfl, rfl, HM, rfl⟩ := hrel
          have d1 : (m : Int) ≥ (lo : Int) + k := by omega
          by_cases d2 : m < xs.length
          · exfalso; omega
          · have d2' : ¬ (m : Int) < xs.length := by omega
            have HF := Lib.hid (HEND.out m hm1 hm2 (by have := imgN_out xs n m d2; omega) HM.out)
            have HB := Lib.hid (fun W h => HI.out W m (by omega) h)
            generalize imageF xs n ((lo : Int) + k) = u1 at *
            generalize imageF xs n m = u2 at *
            have x0 := hBx.cell 0 _ rfl
            have x1 := hBx.cell 1 _ rfl
            have hsz := B0.size
            have d3 : ¬ ((m : Int) < (lo : Int) + k) := by omega
            generalize w.alloc (.cells #[.slice a xs.length cap, .int .i64 n] 26) = W1 at *
            go_wp2_with fail
            go_region_held3 (fun w' => Below W1.heap.size W1 w' ∧ w'.cell? ⟨w.heap.size, 0, none⟩ = some (.slice a xs.length cap) ∧ w'.cell? ⟨w.heap.size, 1, none⟩ = some (.int .i64 n))
              (first
                | exact ⟨held_step hnow hbn, ((hBx.below (held_step hnow hbn) hBx.lt).cell 0 _ rfl), ((hBx.below (held_step hnow hbn) hBx.lt).cell 1 _ rfl)⟩
                | exact ⟨(Below.refl _ _).drew, x0, x1⟩
                | go_keep)
              (first
                | (go_at_call 34; have hnow : Below W1.heap.size W1 _ := (by go_split_ands; assumption); with_reducible refine (HA.out _ (hR1.below hnow)).mono ?_; rintro e wn ⟨rfl, hbn⟩)
                | (go_at_call 34; have hnow : Below W1.heap.size W1 _ := (by go_split_ands; assumption); with_reducible refine (HB.out _ (hR1.below hnow)).mono ?_; rintro e wn ⟨rfl, hbn⟩))
            have hl3 := held_step hnow hbn
            go_wp2
            go_ret3
            exact ⟨HF.out, B0.trans (hl3.mono hsz)⟩
    · have e1' : ¬ (lo : Int) + k ≤ hi := by omega
      obtain ⟨x1, x2, x3⟩ := lw_all_neg (imgN xs n) lo k HN.out
      have HF := Lib.hid (show Ending.returned (.tuple #[.int .i64 0, .int .i64 0, .bool false]) = .returned (.tuple #[.int .i64 (lwL (imgN xs n) lo (hi + 1 - lo)), .int .i64 (lwM (imgN xs n) lo (hi + 1 - lo)), .bool (lwS (imgN xs n) lo (hi + 1 - lo))]) by
        rw [show hi + 1 - lo = k from by omega, x1, x2, x3])
      have e3 : ¬ ((hi : Int) ≥ (lo : Int) + k) := by omega
      have e4 : (hi : Int) < (lo : Int) + k := by omega
      clear x1 x2 x3
      go_wp2_with fail
      refine wp_loop_rounds 1 ?_
      rw [rounds_succ]
      go_wp2
      go_ret3
      exact ⟨HF.out, B0⟩

end Go.Proofs.Ytdccpnaolcpohaa
