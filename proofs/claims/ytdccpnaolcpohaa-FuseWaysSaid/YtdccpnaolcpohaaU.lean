/- The walk of the law MapsMade. -/
import Derived.Test.YtdccpnaolcpohaaT
namespace Go.Proofs.Ytdccpnaolcpohaa
open Go.RowKit

theorem span_both (xs : List Int) (n : Nat) (hu : UpP (-1) n xs) (hl : xs.length ≤ 4294967296) (hn : n ≤ 4294967296) (lo hi : Int) (hh : hi ≤ 2199023255552) :
    ∃ (L M : Int) (S : Bool), (∀ W a cap, Row 0 W a xs → Calls Try.prog 22 #[.agg #[.slice a xs.length cap, .int .i64 n], .int .i64 lo, .int .i64 hi] W fun e w' => e = .returned (.tuple #[.int .i64 L, .int .i64 M, .bool S]) ∧ Below W.heap.size W w') ∧
      ∀ W a cap, Row 0 W a xs → Calls Try.prog 33 #[.agg #[.slice a xs.length cap, .int .i64 n], .int .i64 lo, .int .i64 hi] W fun e w' => e = .returned (.tuple #[.int .i64 L, .int .i64 M, .bool S]) ∧ Below W.heap.size W w' := by
  by_cases h : lo < 0 ∨ hi < lo
  · exact ⟨0, 0, false, fun W a cap _ => span_none W a cap xs n lo hi h, fun W a cap _ => rspan_none W a cap xs n lo hi h⟩
  · obtain ⟨l, rfl⟩ := Int.eq_ofNat_of_zero_le (show 0 ≤ lo by omega)
    obtain ⟨k, rfl⟩ := Int.eq_ofNat_of_zero_le (show 0 ≤ hi by omega)
    exact ⟨_, _, _, fun W a cap hR => span_three W a cap xs n hR hu hl hn l k (by omega), fun W a cap hR => rspan_some W a cap xs n hR hl hn l k (by omega) (by omega)⟩

theorem elem_le (xs : List Int) (n : Nat) (hu : UpP (-1) n xs) (hn : n ≤ 4294967296) (i : Nat) : xs.getD i 0 ≤ 2199023255552 := by
  by_cases hi : i < xs.length
  · by_cases e : xs.getD i 0 = -1
    · omega
    · have := (hu.1 i _ (by simp [List.getD, hi]) e).2; omega
  · simp [List.getD, List.getElem?_eq_none (Nat.le_of_not_lt hi)]

theorem RetMap.zero {w : World} {xs : List Int} {new : Int} {e : Ending} {w' : World} (h : RetMap w xs new e w') : RetMap0 w xs xs.length new e w' := by
  obtain ⟨a, c, h1, h2, h3⟩ := h
  exact ⟨a, c, h1, h2.from (Nat.zero_le _), h3⟩

set_option maxRecDepth 100000 in
set_option maxHeartbeats 8000000 in
theorem mapsMade_walk (w : World) (a0 a1 : Option Addr) (cap0 cap1 : Nat) (ns ms : List Int) (at_ lo hi : Int) (h0 : RowK .u8 0 w a0 ns) (h1 : RowK .u8 0 w a1 ms)
    (hl0 : ns.length ≤ 9223372036854775807) (hl1 : ms.length ≤ 9223372036854775807) (hb0 : ∀ i, 0 ≤ ns.getD i 0 ∧ ns.getD i 0 ≤ 255) (hb1 : ∀ i, 0 ≤ ms.getD i 0 ∧ ms.getD i 0 ≤ 255)
    (hk0 : 0 ≤ at_) (hk1 : at_ ≤ 255) (hlo0 : 0 ≤ lo) (hlo1 : lo ≤ 255) (hhi0 : 0 ≤ hi) (hhi1 : hi ≤ 255) :
    Calls Try.prog 11 #[.slice a0 ns.length cap0, .slice a1 ms.length cap1, .int .u8 at_, .int .u8 lo, .int .u8 hi] w fun e w' => e = .returned (.bool true) ∧ Below w.heap.size w w' := by
  by_cases c0 : ns.length > 100
  · have c0' : (ns.length : Int) > 100 := by omega
    clear hb0 hb1
    go_enter Try.func11, Try.ntmps11
    go_wp2_with (go_at_call 13; refine (awake_any _).mono ?_; rintro e w1 ⟨rfl, hb⟩)
    go_ret
    exact ⟨rfl, hb⟩
  · have c0' : ¬ (ns.length : Int) > 100 := by omega
    by_cases c1 : ms.length > 100
    · have c1' : (ms.length : Int) > 100 := by omega
      clear hb0 hb1
      go_enter Try.func11, Try.ntmps11
      go_wp2_with (go_at_call 13; refine (awake_any _).mono ?_; rintro e w1 ⟨rfl, hb⟩)
      go_ret
      exact ⟨rfl, hb⟩
    · have c1' : ¬ (ms.length : Int) > 100 := by omega
      obtain ⟨up0, np0⟩ := make_up ns (fun i => (hb0 i).1) ns.length (Nat.le_refl _)
      obtain ⟨up1, np1⟩ := make_up ms (fun i => (hb1 i).1) ms.length (Nat.le_refl _)
      obtain ⟨bl0, _, bn0⟩ := make_bd ns ns.length (Nat.le_refl _)
      obtain ⟨bl1, _, bn1⟩ := make_bd ms ms.length (Nat.le_refl _)
      have M0 := Lib.hid (fun W h => make_any W a0 cap0 ns h (by omega) hb0)
      have M1 := Lib.hid (fun W h => make_any W a1 cap1 ms h (by omega) hb1)
      clear hb0 hb1
      generalize makeTo ns ns.length = xs at *
      generalize makeTo ms ms.length = ys at *
      generalize makeNew ns ns.length = nx at *
      generalize makeNew ms ms.length = ny at *
      obtain ⟨n, rfl⟩ := Int.eq_ofNat_of_zero_le np0
      obtain ⟨m, rfl⟩ := Int.eq_ofNat_of_zero_le np1
      obtain ⟨k, rfl⟩ := Int.eq_ofNat_of_zero_le hk0
      obtain ⟨L, M, S, hs1, hs2⟩ := span_both xs n up0 (by omega) (by omega) (lo % 60 - 2) (hi % 60 - 2) (by omega)
      have HS1 := Lib.hid hs1
      have HS2 := Lib.hid hs2
      clear hs1 hs2
      have HMAY : Hid (∀ W a c, Row 0 W a xs → Calls Try.prog 16 #[.agg #[.slice a xs.length c, .int .i64 n]] W fun e w' => e = .returned (.bool true) ∧ Below W.heap.size W w') := fun W a c h => by
        have := may_any W a c xs n h (by omega)
        rwa [mayF_up xs n up0 (by omega) (by omega) (by omega)] at this
      have HI1 := Lib.hid (fun W a c h => image_any W a c xs n k h (by omega) (by omega) (by omega) (by omega))
      have HI2 := Lib.hid (fun W a c h => rimage_any W a c xs n k h (by omega) (by omega) (by omega) (by omega))
      have HT1 : Hid (∀ W a c a' c', Row 0 W a' ys → Row 0 W a xs → Calls Try.prog 15 #[.agg #[.slice a xs.length c, .int .i64 n], .agg #[.slice a' ys.length c', .int .i64 m]] W (RetMap0 W (thenF xs ys m) (thenF xs ys m).length m)) := fun W a c a' c' hy hx =>
        (then_any W a' a c' c ys xs m n hy hx (by omega) (by omega) (by omega) (elem_le xs n up0 (by omega)) (by omega)).mono fun _ _ h => h.zero
      have HT2 : Hid (∀ W a c a' c', Row 0 W a' ys → Row 0 W a xs → Calls Try.prog 35 #[.agg #[.slice a xs.length c, .int .i64 n], .agg #[.slice a' ys.length c', .int .i64 m]] W (RetMap0 W (thenF xs ys m) (thenF xs ys m).length m)) := fun W a c a' c' hy hx =>
        (rthen_any W a' a c' c ys xs m n hy hx (by omega) (by omega) (by omega) (elem_le xs n up0 (by omega)) (by omega)).mono fun _ _ h => h.zero
      have hcl : (thenF xs ys m).length ≤ 100 := by simp [thenF]; omega
      have HST : Hid (∀ W a c a' c', Row 0 W a (thenF xs ys m) → Row 0 W a' (thenF xs ys m) → Calls Try.prog 20 #[.agg #[.slice a (thenF xs ys m).length c, .int .i64 m], .agg #[.slice a' (thenF xs ys m).length c', .int .i64 m]] W fun e w' => e = .returned (.bool true) ∧ Below W.heap.size W w') := fun W a c a' c' h h' => by
        have := sameMap_any W a a' c c' (thenF xs ys m) (thenF xs ys m) m m h h' (by omega) (by omega)
        rwa [sameF_self] at this
      have HB1 : Hid (∀ W a c, Row 0 W a xs → Calls Try.prog 23 #[.agg #[.slice a xs.length c, .int .i64 n]] W (RetMap0 W (bck xs n) n xs.length)) := fun W a c h => back_at W a c xs n h (by omega) (by omega)
      have HB2 : Hid (∀ W a c, Row 0 W a xs → Calls Try.prog 30 #[.agg #[.slice a xs.length c, .int .i64 n]] W (RetMap0 W (bck xs n) n xs.length)) := fun W a c h => rback_any W a c xs n h up0 (by omega) (by omega)
      have HSB : Hid (∀ W a c a' c', Row 0 W a (bck xs n) → Row 0 W a' (bck xs n) → Calls Try.prog 20 #[.agg #[.slice a n c, .int .i64 xs.length], .agg #[.slice a' n c', .int .i64 xs.length]] W fun e w' => e = .returned (.bool true) ∧ Below W.heap.size W w') := fun W a c a' c' h h' => by
        have := sameMap_any W a a' c c' (bck xs n) (bck xs n) xs.length xs.length h h' (by rw [bck_length]; omega) (by rw [bck_length]; omega)
        rwa [sameF_self, bck_length] at this
      clear up0 up1
      generalize imageF xs n k = im at *
      generalize thenF xs ys m = ts at *
      generalize bck xs n = bs at *
      have hwk : IntKind.i64.wrap (k : Int) = k := by rw [IntKind.wrap_i64]; omega
      go_enter Try.func11, Try.ntmps11
      go_wp2_with fail
      refine (M0.out _ h0).mono ?_
      rintro e w1 ⟨va, rfl, hO1, hb1⟩
      go_wp2_with fail
      refine (M1.out _ (h1.below hb1)).mono ?_
      rintro e w2 ⟨vb, rfl, hO2, hb2⟩
      obtain ⟨aa, ca, rfl, hRa⟩ := hO1.row
      obtain ⟨ab, cb, rfl, hRb⟩ := hO2.row
      go_wp2_with fail
      have hA3 := (Blk.made (w := w2) rfl [.slice aa xs.length ca, .int .i64 n] 26).alloc (.cells #[.slice ab ys.length cb, .int .i64 m] 26)
      have hB3 := Blk.made (w := w2.alloc (.cells #[.slice aa xs.length ca, .int .i64 n] 26)) (b := w2.heap.size + 1) (by simp) [.slice ab ys.length cb, .int .i64 m] 26
      have hRa3 := (((hRa.below hb2).alloc (.cells #[.slice aa xs.length ca, .int .i64 n] 26)).alloc (.cells #[.slice ab ys.length cb, .int .i64 m] 26)).from (Nat.zero_le _)
      have hRb3 := ((hRb.alloc (.cells #[.slice aa xs.length ca, .int .i64 n] 26)).alloc (.cells #[.slice ab ys.length cb, .int .i64 m] 26)).from (Nat.zero_le _)
      have t3 := ((held_step hb1 hb2).alloc (held_step hb1 hb2).size (.cells #[.slice aa xs.length ca, .int .i64 n] 26)).alloc (by have := (held_step hb1 hb2).size; simp <;> omega) (.cells #[.slice ab ys.length cb, .int .i64 m] 26)
      clear hO1 hO2 hRa hRb hb1 hb2 h0 h1
      generalize (w2.alloc (.cells #[.slice aa xs.length ca, .int .i64 n] 26)).alloc (.cells #[.slice ab ys.length cb, .int .i64 m] 26) = W3 at *
      generalize w2.heap.size = p at *
      refine (HS1.out _ _ _ hRa3).mono ?_
      rintro e W4 ⟨rfl, hb4⟩
      have hA4 := hA3.below hb4 hA3.lt
      have hx0 := hA4.cell 0 _ rfl
      have hx1 := hA4.cell 1 _ rfl
      go_wp2_with fail
      refine (HS2.out _ _ _ (hRa3.below hb4)).mono ?_
      rintro e W5 ⟨rfl, hb5⟩
      have hA5 := hA4.below hb5 hA4.lt
      have hB5 := (hB3.below hb4 hB3.lt).below hb5 (by have := hb4.size; have := hB3.lt; omega)
      have hRa5 := (hRa3.below hb4).below hb5
      have hRb5 := (hRb3.below hb4).below hb5
      have t5 := held_step (held_step t3 hb4) hb5
      clear hA3 hB3 hRa3 hRb3 t3 hb4 hb5 hA4 hx0 hx1
      go_wp2_with fail
      have HCELLS : Hid (∀ w', Below W5.heap.size W5 w' → w'.cell? ⟨p, 0, none⟩ = some (.slice aa xs.length ca) ∧ w'.cell? ⟨p, 1, none⟩ = some (.int .i64 n) ∧
          w'.cell? ⟨p + 1, 0, none⟩ = some (.slice ab ys.length cb) ∧ w'.cell? ⟨p + 1, 1, none⟩ = some (.int .i64 m)) := fun w' h =>
        ⟨(hA5.below h hA5.lt).cell 0 _ rfl, (hA5.below h hA5.lt).cell 1 _ rfl, (hB5.below h hB5.lt).cell 0 _ rfl, (hB5.below h hB5.lt).cell 1 _ rfl⟩
      clear hA5 hB5
      go_region_held3 (fun w' => Below W5.heap.size W5 w' ∧ w'.cell? ⟨p, 0, none⟩ = some (.slice aa xs.length ca) ∧ w'.cell? ⟨p, 1, none⟩ = some (.int .i64 n) ∧
          w'.cell? ⟨p + 1, 0, none⟩ = some (.slice ab ys.length cb) ∧ w'.cell? ⟨p + 1, 1, none⟩ = some (.int .i64 m))
        (first
          | exact ⟨held_step hnow hbn, HCELLS.out _ (held_step hnow hbn)⟩
          | exact ⟨(Below.refl _ _).drew, HCELLS.out _ (Below.refl _ _).drew⟩
          | go_keep)
        (first
          | (go_at_call 16; have hnow : Below W5.heap.size W5 _ := (by go_split_ands; assumption); (with_reducible refine (HMAY.out _ _ _ (hRa5.below hnow)).mono ?_); rintro e wn ⟨rfl, hbn⟩)
          | (go_at_call 17; have hnow : Below W5.heap.size W5 _ := (by go_split_ands; assumption); (with_reducible refine (HI1.out _ _ _ (hRa5.below hnow)).mono ?_); rintro e wn ⟨rfl, hbn⟩)
          | (go_at_call 34; have hnow : Below W5.heap.size W5 _ := (by go_split_ands; assumption); (with_reducible refine (HI2.out _ _ _ (hRa5.below hnow)).mono ?_); rintro e wn ⟨rfl, hbn⟩)
          | (go_at_call 15; have hnow : Below W5.heap.size W5 _ := (by go_split_ands; assumption); (with_reducible refine (HT1.out _ _ _ _ _ (hRb5.below hnow) (hRa5.below hnow)).mono ?_); rintro e wn ⟨at1, ct1, rfl, hR1, hbn⟩)
          | (go_at_call 35; have hnow : Below W5.heap.size W5 _ := (by go_split_ands; assumption); (with_reducible refine (HT2.out _ _ _ _ _ (hRb5.below hnow) (hRa5.below hnow)).mono ?_); rintro e wn ⟨at2, ct2, rfl, hR2, hbn⟩; have hR1' := hR1.below hbn)
          | (go_at_call 20; have hnow : Below W5.heap.size W5 _ := (by go_split_ands; assumption); (with_reducible refine (HST.out _ _ _ _ _ hR1' hR2).mono ?_); rintro e wn ⟨rfl, hbn⟩)
          | (go_at_call 23; have hnow : Below W5.heap.size W5 _ := (by go_split_ands; assumption); (with_reducible refine (HB1.out _ _ _ (hRa5.below hnow)).mono ?_); rintro e wn ⟨at3, ct3, rfl, hR3, hbn⟩)
          | (go_at_call 30; have hnow : Below W5.heap.size W5 _ := (by go_split_ands; assumption); (with_reducible refine (HB2.out _ _ _ (hRa5.below hnow)).mono ?_); rintro e wn ⟨at4, ct4, rfl, hR4, hbn⟩; have hR3' := hR3.below hbn)
          | (go_at_call 20; have hnow : Below W5.heap.size W5 _ := (by go_split_ands; assumption); (with_reducible refine (HSB.out _ _ _ _ _ hR3' hR4).mono ?_); rintro e wn ⟨rfl, hbn⟩)
          | (go_at_call 13; have hnow : Below W5.heap.size W5 _ := (by go_split_ands; assumption); refine (awake_any _).mono ?_; rintro e wn ⟨rfl, hbn⟩))
      go_wp2
      go_ret
      exact ⟨rfl, held_step t5 (held_step hnow hbn)⟩

end Go.Proofs.Ytdccpnaolcpohaa
