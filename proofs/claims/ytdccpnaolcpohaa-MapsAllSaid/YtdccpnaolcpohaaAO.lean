/- The walk of the law MapsAll. -/
import Derived.Test.YtdccpnaolcpohaaAQ
import Derived.Deep.DeepCutAuto
namespace Go.Proofs.Ytdccpnaolcpohaa
open Go.RowKit

/-- Two functions that make one and the same map. -/
def Twin (f g : FuncId) (args : Array Value) : Prop :=
  ∃ (zs : List Int) (k : Int), zs.length ≤ 1048576 ∧ (∀ W, Calls Try.prog f args W (RetMap0 W zs zs.length k)) ∧ ∀ W, Calls Try.prog g args W (RetMap0 W zs zs.length k)
theorem RetMap.zero' {w : World} {xs : List Int} {new : Int} {e : Ending} {w' : World} (h : RetMap w xs new e w') : RetMap0 w xs xs.length new e w' := by
  obtain ⟨a, c, h1, h2, h3⟩ := h
  exact ⟨a, c, h1, h2.from (Nat.zero_le _), h3⟩
theorem twin_same (n : Int) : Twin 21 32 #[.int .i64 n] :=
  ⟨_, _, by rw [tab_length]; exact sizeF_le n, fun W => (same_any W n).mono fun _ _ h => h.zero', fun W => (rsame_any W n).mono fun _ _ h => h.zero'⟩
theorem twin_ins (n at_ : Int) : Twin 18 36 #[.int .i64 n, .int .i64 at_] := by
  by_cases h : at_ < 0 ∨ at_ > sizeF n
  · exact ⟨_, _, by rw [tab_length]; exact sizeF_le n, fun W => (ins_out W n at_ h).mono fun _ _ h => h.zero', fun W => (rins_out W n at_ h).mono fun _ _ h => h.zero'⟩
  · obtain ⟨p, rfl⟩ := Int.eq_ofNat_of_zero_le (show 0 ≤ at_ by omega)
    exact ⟨tab (bhd p) (sizeF n), sizeF n + 1, by rw [tab_length]; exact sizeF_le n, fun W => (ins_in W n p (by omega) (by omega)).mono fun _ _ h => h.zero', fun W => (rins_in W n p (by omega)).mono fun _ _ h => h.zero'⟩
theorem twin_del (n at_ : Int) : Twin 19 37 #[.int .i64 n, .int .i64 at_] := by
  by_cases h : at_ < 0 ∨ at_ ≥ sizeF n
  · exact ⟨_, _, by rw [tab_length]; exact sizeF_le n, fun W => (del_out W n at_ h).mono fun _ _ h => h.zero', fun W => (rdel_out W n at_ h).mono fun _ _ h => h.zero'⟩
  · obtain ⟨p, rfl⟩ := Int.eq_ofNat_of_zero_le (show 0 ≤ at_ by omega)
    exact ⟨tab (ahd p) (sizeF n), (sizeF n : Int) - 1, by rw [tab_length]; exact sizeF_le n, fun W => (del_in W n p (by omega) (by omega)).mono fun _ _ h => h.zero', fun W => (rdel_in W n p (by omega)).mono fun _ _ h => h.zero'⟩

set_option maxRecDepth 100000 in
set_option maxHeartbeats 16000000 in
theorem mapsAll_walk (w : World) (a0 a1 : Option Addr) (cap0 cap1 : Nat) (xs ys : List Int) (na nb n at_ lo hi : Int) (h0 : Row 0 w a0 xs) (h1 : Row 0 w a1 ys)
    (hl0 : xs.length ≤ 9223372036854775807) (hl1 : ys.length ≤ 9223372036854775807)
    (bh : -9223372036854775808 ≤ hi ∧ hi ≤ 9223372036854775807) (bl : -9223372036854775808 ≤ lo ∧ lo ≤ 9223372036854775807) :
    Calls Try.prog 12 #[.agg #[.slice a0 xs.length cap0, .int .i64 na], .agg #[.slice a1 ys.length cap1, .int .i64 nb], .int .i64 n, .int .i64 at_, .int .i64 lo, .int .i64 hi] w fun e w' => e = .returned (.bool true) ∧ Below w.heap.size w w' := by
  have B0 : Below w.heap.size w ((w.alloc (.cells #[.slice a0 xs.length cap0, .int .i64 na] 26)).alloc (.cells #[.slice a1 ys.length cap1, .int .i64 nb] 26)) := ((Below.refl _ _).alloc (Nat.le_refl _) _).alloc (by simp) _
  by_cases c0 : xs.length > 200
  · have c0' : (xs.length : Int) > 200 := by omega
    go_enter Try.func12, Try.ntmps12
    go_wp2_with (go_at_call 13; refine (awake_any _).mono ?_; rintro e w1 ⟨rfl, hb⟩)
    go_ret
    exact ⟨rfl, held_step B0 hb⟩
  · have c0' : ¬ (xs.length : Int) > 200 := by omega
    by_cases c1 : ys.length > 200
    · have c1' : (ys.length : Int) > 200 := by omega
      go_enter Try.func12, Try.ntmps12
      go_wp2_with (go_at_call 13; refine (awake_any _).mono ?_; rintro e w1 ⟨rfl, hb⟩)
      go_ret
      exact ⟨rfl, held_step B0 hb⟩
    · have c1' : ¬ (ys.length : Int) > 200 := by omega
      by_cases c2 : n > 300
      · go_enter Try.func12, Try.ntmps12
        go_wp2_with (go_at_call 13; refine (awake_any _).mono ?_; rintro e w1 ⟨rfl, hb⟩)
        go_ret
        exact ⟨rfl, held_step B0 hb⟩
      · obtain ⟨z1, k1, zl1, hS1, hS2⟩ := twin_same n
        obtain ⟨z2, k2, zl2, hI1, hI2⟩ := twin_ins n at_
        obtain ⟨z3, k3, zl3, hD1, hD2⟩ := twin_del n at_
        have HS1 := Lib.hid hS1
        have HS2 := Lib.hid hS2
        have HI1 := Lib.hid hI1
        have HI2 := Lib.hid hI2
        have HD1 := Lib.hid hD1
        have HD2 := Lib.hid hD2
        have HE1 := Lib.hid (fun W a b c d h h' => same_self W a b c d z1 k1 h h' (by omega))
        have HE2 := Lib.hid (fun W a b c d h h' => same_self W a b c d z2 k2 h h' (by omega))
        have HE3 := Lib.hid (fun W a b c d h h' => same_self W a b c d z3 k3 h h' (by omega))
        clear hS1 hS2 hI1 hI2 hD1 hD2
        have HMA := Lib.hid (fun W a c h => may_any W a c xs na h hl0)
        have HRA := Lib.hid (fun W a c h => rmay_any W a c xs na h hl0)
        have HRB := Lib.hid (fun W a c h => rmay_any W a c ys nb h hl1)
        have hA := (Blk.made (w := w) rfl [.slice a0 xs.length cap0, .int .i64 na] 26).alloc (.cells #[.slice a1 ys.length cap1, .int .i64 nb] 26)
        have hB := Blk.made (w := w.alloc (.cells #[.slice a0 xs.length cap0, .int .i64 na] 26)) (b := w.heap.size + 1) (by simp) [.slice a1 ys.length cap1, .int .i64 nb] 26
        have hRa := h0.keep (Nat.le_refl _) B0
        have hRb := h1.keep (Nat.le_refl _) B0
        clear h0 h1
        have HPA := Lib.hid (fun h : mayF xs na = true => may_parts h)
        have HPB := Lib.hid (fun h : mayF ys nb = true => may_parts h)
        generalize mayF xs na = ma at *
        generalize mayF ys nb = mb at *
        go_enter Try.func12, Try.ntmps12
        go_upto_region 3 with fail
        generalize (w.alloc (.cells #[.slice a0 xs.length cap0, .int .i64 na] 26)).alloc (.cells #[.slice a1 ys.length cap1, .int .i64 nb] 26) = W0 at *
        have HCELLS : Hid (∀ w', Below W0.heap.size W0 w' → w'.cell? ⟨w.heap.size, 0, none⟩ = some (.slice a0 xs.length cap0) ∧ w'.cell? ⟨w.heap.size, 1, none⟩ = some (.int .i64 na) ∧
            w'.cell? ⟨w.heap.size + 1, 0, none⟩ = some (.slice a1 ys.length cap1) ∧ w'.cell? ⟨w.heap.size + 1, 1, none⟩ = some (.int .i64 nb)) := fun w' h =>
          ⟨(hA.below h hA.lt).cell 0 _ rfl, (hA.below h hA.lt).cell 1 _ rfl, (hB.below h hB.lt).cell 0 _ rfl, (hB.below h hB.lt).cell 1 _ rfl⟩
        go_cut [66] (fun s wx => s = .bool false ∧ Below W0.heap.size W0 wx)
        case first =>
          have c0 := (HCELLS.out _ (Below.refl _ _)).1
          have c1 := (HCELLS.out _ (Below.refl _ _)).2.1
          have c2 := (HCELLS.out _ (Below.refl _ _)).2.2.1
          have c3 := (HCELLS.out _ (Below.refl _ _)).2.2.2
          clear hA hB
          go_region_held3 (fun w' => Below W0.heap.size W0 w' ∧ w'.cell? ⟨w.heap.size, 0, none⟩ = some (.slice a0 xs.length cap0) ∧ w'.cell? ⟨w.heap.size, 1, none⟩ = some (.int .i64 na) ∧
              w'.cell? ⟨w.heap.size + 1, 0, none⟩ = some (.slice a1 ys.length cap1) ∧ w'.cell? ⟨w.heap.size + 1, 1, none⟩ = some (.int .i64 nb))
            (first
              | exact ⟨held_step hnow hbn, HCELLS.out _ (held_step hnow hbn)⟩
              | exact ⟨(Below.refl _ _).drew, HCELLS.out _ (Below.refl _ _).drew⟩
              | go_keep)
            (first
              | (go_at_call 16; have hnow : Below W0.heap.size W0 _ := (by go_split_ands; assumption); (with_reducible refine (HMA.out _ _ _ (hRa.below hnow)).mono ?_); rintro e wn ⟨rfl, hbn⟩)
              | (go_at_call 29; have hnow : Below W0.heap.size W0 _ := (by go_split_ands; assumption); (with_reducible refine (HRA.out _ _ _ (hRa.below hnow)).mono ?_); rintro e wn ⟨rfl, hbn⟩)
              | (go_at_call 21; have hnow : Below W0.heap.size W0 _ := (by go_split_ands; assumption); (with_reducible refine (HS1.out _).mono ?_); rintro e wn ⟨b1, d1, rfl, hR1, hbn⟩)
              | (go_at_call 32; have hnow : Below W0.heap.size W0 _ := (by go_split_ands; assumption); (with_reducible refine (HS2.out _).mono ?_); rintro e wn ⟨b2, d2, rfl, hR2, hbn⟩; have hR1' := hR1.below hbn)
              | (go_at_call 20; have hnow : Below W0.heap.size W0 _ := (by go_split_ands; assumption); (with_reducible refine (HE1.out _ _ _ _ _ hR1' hR2).mono ?_); rintro e wn ⟨rfl, hbn⟩)
              | (go_at_call 18; have hnow : Below W0.heap.size W0 _ := (by go_split_ands; assumption); (with_reducible refine (HI1.out _).mono ?_); rintro e wn ⟨b3, d3, rfl, hR3, hbn⟩)
              | (go_at_call 36; have hnow : Below W0.heap.size W0 _ := (by go_split_ands; assumption); (with_reducible refine (HI2.out _).mono ?_); rintro e wn ⟨b4, d4, rfl, hR4, hbn⟩; have hR3' := hR3.below hbn)
              | (go_at_call 20; have hnow : Below W0.heap.size W0 _ := (by go_split_ands; assumption); (with_reducible refine (HE2.out _ _ _ _ _ hR3' hR4).mono ?_); rintro e wn ⟨rfl, hbn⟩)
              | (go_at_call 19; have hnow : Below W0.heap.size W0 _ := (by go_split_ands; assumption); (with_reducible refine (HD1.out _).mono ?_); rintro e wn ⟨b5, d5, rfl, hR5, hbn⟩)
              | (go_at_call 37; have hnow : Below W0.heap.size W0 _ := (by go_split_ands; assumption); (with_reducible refine (HD2.out _).mono ?_); rintro e wn ⟨b6, d6, rfl, hR6, hbn⟩; have hR5' := hR5.below hbn)
              | (go_at_call 20; have hnow : Below W0.heap.size W0 _ := (by go_split_ands; assumption); (with_reducible refine (HE3.out _ _ _ _ _ hR5' hR6).mono ?_); rintro e wn ⟨rfl, hbn⟩))
          go_wp2_with fail
          go_meet
          exact ⟨rfl, held_step hnow hbn⟩
        case rest =>
          obtain ⟨rfl, hb1⟩ := hcut
          have hRa1 := hRa.below hb1
          obtain ⟨c10, c11, c12, c13⟩ := HCELLS.out _ hb1
          clear HMA HS1 HS2 HI1 HI2 HD1 HD2 HE1 HE2 HE3 hA hB
          cases hma : ma with
          | false =>
            rw [hma] at HRA
            clear hma HPA HPB
            go_wp2_with (first
            | (go_at_call 29; with_reducible refine (HRA.out _ _ _ hRa1).mono ?_; rintro e v2 ⟨rfl, hv2⟩; have hc2 := held_step hb1 hv2; obtain ⟨c20, c21, c22, c23⟩ := HCELLS.out _ hc2; have hRb2 := hRb.below hc2)
            | (go_at_call 29; with_reducible refine (HRB.out _ _ _ hRb2).mono ?_; rintro e v3 ⟨rfl, hv3⟩; have hc3 := held_step hc2 hv3; obtain ⟨c30, c31, c32, c33⟩ := HCELLS.out _ hc3)
            | (go_at_call 13; with_reducible refine (awake_any _).mono ?_; rintro e v4 ⟨rfl, hv4⟩; have hc4 : Below W0.heap.size W0 v4 := (by first | exact held_step hc3 hv4 | exact held_step hc2 hv4)))
            go_ret
            exact ⟨rfl, held_step B0 hc4⟩
          | true =>
            rw [hma] at HRA
            obtain ⟨pa0, pa1, pa2, pau⟩ := HPA.out hma
            have PAU := Lib.hid pau
            clear hma HPA pau
            cases hmb : mb with
            | false =>
              rw [hmb] at HRB
              clear hmb HPB
              go_wp2_with (first
            | (go_at_call 29; with_reducible refine (HRA.out _ _ _ hRa1).mono ?_; rintro e v2 ⟨rfl, hv2⟩; have hc2 := held_step hb1 hv2; obtain ⟨c20, c21, c22, c23⟩ := HCELLS.out _ hc2; have hRb2 := hRb.below hc2)
            | (go_at_call 29; with_reducible refine (HRB.out _ _ _ hRb2).mono ?_; rintro e v3 ⟨rfl, hv3⟩; have hc3 := held_step hc2 hv3; obtain ⟨c30, c31, c32, c33⟩ := HCELLS.out _ hc3)
            | (go_at_call 13; with_reducible refine (awake_any _).mono ?_; rintro e v4 ⟨rfl, hv4⟩; have hc4 : Below W0.heap.size W0 v4 := (by first | exact held_step hc3 hv4 | exact held_step hc2 hv4)))
              go_ret
              exact ⟨rfl, held_step B0 hc4⟩
            | true =>
              rw [hmb] at HRB
              obtain ⟨pb0, pb1, pb2, pbu⟩ := HPB.out hmb
              clear hmb HPB pbu
              by_cases t1 : na > 300
              · go_wp2_with (first
            | (go_at_call 29; with_reducible refine (HRA.out _ _ _ hRa1).mono ?_; rintro e v2 ⟨rfl, hv2⟩; have hc2 := held_step hb1 hv2; obtain ⟨c20, c21, c22, c23⟩ := HCELLS.out _ hc2; have hRb2 := hRb.below hc2)
            | (go_at_call 29; with_reducible refine (HRB.out _ _ _ hRb2).mono ?_; rintro e v3 ⟨rfl, hv3⟩; have hc3 := held_step hc2 hv3; obtain ⟨c30, c31, c32, c33⟩ := HCELLS.out _ hc3)
            | (go_at_call 13; with_reducible refine (awake_any _).mono ?_; rintro e v4 ⟨rfl, hv4⟩; have hc4 : Below W0.heap.size W0 v4 := (by first | exact held_step hc3 hv4 | exact held_step hc2 hv4)))
                go_ret
                exact ⟨rfl, held_step B0 hc4⟩
              · by_cases t2 : at_ > 1099511627776
                · go_wp2_with (first
            | (go_at_call 29; with_reducible refine (HRA.out _ _ _ hRa1).mono ?_; rintro e v2 ⟨rfl, hv2⟩; have hc2 := held_step hb1 hv2; obtain ⟨c20, c21, c22, c23⟩ := HCELLS.out _ hc2; have hRb2 := hRb.below hc2)
            | (go_at_call 29; with_reducible refine (HRB.out _ _ _ hRb2).mono ?_; rintro e v3 ⟨rfl, hv3⟩; have hc3 := held_step hc2 hv3; obtain ⟨c30, c31, c32, c33⟩ := HCELLS.out _ hc3)
            | (go_at_call 13; with_reducible refine (awake_any _).mono ?_; rintro e v4 ⟨rfl, hv4⟩; have hc4 : Below W0.heap.size W0 v4 := (by first | exact held_step hc3 hv4 | exact held_step hc2 hv4)))
                  go_ret
                  exact ⟨rfl, held_step B0 hc4⟩
                · by_cases t3 : lo > 1099511627776
                  · go_wp2_with (first
            | (go_at_call 29; with_reducible refine (HRA.out _ _ _ hRa1).mono ?_; rintro e v2 ⟨rfl, hv2⟩; have hc2 := held_step hb1 hv2; obtain ⟨c20, c21, c22, c23⟩ := HCELLS.out _ hc2; have hRb2 := hRb.below hc2)
            | (go_at_call 29; with_reducible refine (HRB.out _ _ _ hRb2).mono ?_; rintro e v3 ⟨rfl, hv3⟩; have hc3 := held_step hc2 hv3; obtain ⟨c30, c31, c32, c33⟩ := HCELLS.out _ hc3)
            | (go_at_call 13; with_reducible refine (awake_any _).mono ?_; rintro e v4 ⟨rfl, hv4⟩; have hc4 : Below W0.heap.size W0 v4 := (by first | exact held_step hc3 hv4 | exact held_step hc2 hv4)))
                    go_ret
                    exact ⟨rfl, held_step B0 hc4⟩
                  · by_cases t4 : hi > 1099511627776
                    · go_wp2_with (first
            | (go_at_call 29; with_reducible refine (HRA.out _ _ _ hRa1).mono ?_; rintro e v2 ⟨rfl, hv2⟩; have hc2 := held_step hb1 hv2; obtain ⟨c20, c21, c22, c23⟩ := HCELLS.out _ hc2; have hRb2 := hRb.below hc2)
            | (go_at_call 29; with_reducible refine (HRB.out _ _ _ hRb2).mono ?_; rintro e v3 ⟨rfl, hv3⟩; have hc3 := held_step hc2 hv3; obtain ⟨c30, c31, c32, c33⟩ := HCELLS.out _ hc3)
            | (go_at_call 13; with_reducible refine (awake_any _).mono ?_; rintro e v4 ⟨rfl, hv4⟩; have hc4 : Below W0.heap.size W0 v4 := (by first | exact held_step hc3 hv4 | exact held_step hc2 hv4)))
                      go_ret
                      exact ⟨rfl, held_step B0 hc4⟩
                    · obtain ⟨nn, rfl⟩ := Int.eq_ofNat_of_zero_le pa0
                      obtain ⟨mm, rfl⟩ := Int.eq_ofNat_of_zero_le pb0
                      obtain ⟨L, M, S, hs1, hs2⟩ := span_both xs nn PAU.out (by omega) (by omega) lo hi (by omega)
                      have HS1 := Lib.hid hs1
                      have HS2 := Lib.hid hs2
                      clear hs1 hs2
                      have HI1 := Lib.hid (fun W a c h => image_any W a c xs nn at_ h (by omega) (by omega) (by omega) (by omega))
                      have HI2 := Lib.hid (fun W a c h => rimage_any W a c xs nn at_ h (by omega) (by omega) (by omega) (by omega))
                      have HT1 : Hid (∀ W a c a' c', Row 0 W a' ys → Row 0 W a xs → Calls Try.prog 15 #[.agg #[.slice a xs.length c, .int .i64 nn], .agg #[.slice a' ys.length c', .int .i64 mm]] W (RetMap0 W (thenF xs ys mm) (thenF xs ys mm).length mm)) := fun W a c a' c' hy hx =>
                        (then_any W a' a c' c ys xs mm nn hy hx (by omega) (by omega) (by omega) (elem_le xs nn PAU.out (by omega)) (by omega)).mono fun _ _ h => h.zero
                      have HT2 : Hid (∀ W a c a' c', Row 0 W a' ys → Row 0 W a xs → Calls Try.prog 35 #[.agg #[.slice a xs.length c, .int .i64 nn], .agg #[.slice a' ys.length c', .int .i64 mm]] W (RetMap0 W (thenF xs ys mm) (thenF xs ys mm).length mm)) := fun W a c a' c' hy hx =>
                        (rthen_any W a' a c' c ys xs mm nn hy hx (by omega) (by omega) (by omega) (elem_le xs nn PAU.out (by omega)) (by omega)).mono fun _ _ h => h.zero
                      have hcl : (thenF xs ys mm).length ≤ 4294967296 := by simp [thenF]; omega
                      have HST : Hid (∀ W a c a' c', Row 0 W a (thenF xs ys mm) → Row 0 W a' (thenF xs ys mm) → Calls Try.prog 20 #[.agg #[.slice a (thenF xs ys mm).length c, .int .i64 mm], .agg #[.slice a' (thenF xs ys mm).length c', .int .i64 mm]] W fun e w' => e = .returned (.bool true) ∧ Below W.heap.size W w') := fun W a c a' c' h h' => by
                        have := sameMap_any W a a' c c' (thenF xs ys mm) (thenF xs ys mm) mm mm h h' (by omega) (by omega)
                        rwa [sameF_self] at this
                      have HB1 : Hid (∀ W a c, Row 0 W a xs → Calls Try.prog 23 #[.agg #[.slice a xs.length c, .int .i64 nn]] W (RetMap0 W (bck xs nn) nn xs.length)) := fun W a c h => back_at W a c xs nn h (by omega) (by omega)
                      have HB2 : Hid (∀ W a c, Row 0 W a xs → Calls Try.prog 30 #[.agg #[.slice a xs.length c, .int .i64 nn]] W (RetMap0 W (bck xs nn) nn xs.length)) := fun W a c h => rback_any W a c xs nn h PAU.out (by omega) (by omega)
                      have HSB : Hid (∀ W a c a' c', Row 0 W a (bck xs nn) → Row 0 W a' (bck xs nn) → Calls Try.prog 20 #[.agg #[.slice a nn c, .int .i64 xs.length], .agg #[.slice a' nn c', .int .i64 xs.length]] W fun e w' => e = .returned (.bool true) ∧ Below W.heap.size W w') := fun W a c a' c' h h' => by
                        have := sameMap_any W a a' c c' (bck xs nn) (bck xs nn) xs.length xs.length h h' (by rw [bck_length]; omega) (by rw [bck_length]; omega)
                        rwa [sameF_self, bck_length] at this
                      clear PAU hcl
                      generalize imageF xs nn at_ = im at *
                      generalize thenF xs ys mm = ts at *
                      generalize bck xs nn = bs at *
                      have AWK := Lib.hid awake_any
                      by_cases hlo : 0 ≤ lo
                      · have hmx : max 0 lo = lo := by omega
                        go_wp2_with (first
            | (go_at_call 29; with_reducible refine (HRA.out _ _ _ hRa1).mono ?_; rintro e v2 ⟨rfl, hv2⟩; have hc2 := held_step hb1 hv2; obtain ⟨c20, c21, c22, c23⟩ := HCELLS.out _ hc2; have hRb2 := hRb.below hc2)
            | (go_at_call 29; with_reducible refine (HRB.out _ _ _ hRb2).mono ?_; rintro e v3 ⟨rfl, hv3⟩; have hc3 := held_step hc2 hv3; obtain ⟨c30, c31, c32, c33⟩ := HCELLS.out _ hc3)
            | (go_at_call 13; with_reducible refine (awake_any _).mono ?_; rintro e v4 ⟨rfl, hv4⟩; have hc4 : Below W0.heap.size W0 v4 := (by first | exact held_step hc3 hv4 | exact held_step hc2 hv4)))
                        all_goals (first
                          | (go_ret; exact ⟨rfl, held_step B0 hc4⟩)
                          | (refine (HS1.out _ _ _ (hRa.below hc3)).mono ?_
                             rintro e w4 ⟨rfl, hv4⟩
                             have hc4 := held_step hc3 hv4
                             obtain ⟨c40, c41, c42, c43⟩ := HCELLS.out _ hc4
                             clear c10 c11 c12 c13 c20 c21 c22 c23 c30 c31 c32 c33
                             go_wp2_with fail
                             refine (HS2.out _ _ _ (hRa.below hc4)).mono ?_
                             rintro e W5 ⟨rfl, hv5⟩
                             have hc5 := held_step hc4 hv5
                             clear c40 c41 c42 c43
                             go_upto_region 9 with fail
                             have HC5 : Hid (∀ w', Below W5.heap.size W5 w' → w'.cell? ⟨w.heap.size, 0, none⟩ = some (.slice a0 xs.length cap0) ∧ w'.cell? ⟨w.heap.size, 1, none⟩ = some (.int .i64 nn) ∧
                                 w'.cell? ⟨w.heap.size + 1, 0, none⟩ = some (.slice a1 ys.length cap1) ∧ w'.cell? ⟨w.heap.size + 1, 1, none⟩ = some (.int .i64 mm)) := fun w' h => HCELLS.out _ (held_step hc5 h)
                             have hRa5 := hRa.below hc5
                             have hRb5 := hRb.below hc5
                             clear hv2 hv3 hv4 hv5 hc2 hc3 hc4 hb1 hRa hRb hRa1 hRb2
                             go_region_held3 (fun w' => Below W5.heap.size W5 w' ∧ w'.cell? ⟨w.heap.size, 0, none⟩ = some (.slice a0 xs.length cap0) ∧ w'.cell? ⟨w.heap.size, 1, none⟩ = some (.int .i64 nn) ∧
                                 w'.cell? ⟨w.heap.size + 1, 0, none⟩ = some (.slice a1 ys.length cap1) ∧ w'.cell? ⟨w.heap.size + 1, 1, none⟩ = some (.int .i64 mm))
                               (first
                                 | with_reducible exact ⟨held_step hnow hbn, HC5.out _ (held_step hnow hbn)⟩
                                 | with_reducible exact ⟨(Below.refl _ _).drew, HC5.out _ (Below.refl _ _).drew⟩
                                 | go_keep)
                               (first
                                 | (go_at_call 17; have hnow : Below W5.heap.size W5 _ := (by go_split_ands; assumption); (with_reducible refine (HI1.out _ _ _ (hRa5.below hnow)).mono ?_); rintro e wn ⟨rfl, hbn⟩)
                                 | (go_at_call 34; have hnow : Below W5.heap.size W5 _ := (by go_split_ands; assumption); (with_reducible refine (HI2.out _ _ _ (hRa5.below hnow)).mono ?_); rintro e wn ⟨rfl, hbn⟩)
                                 | (go_at_call 15; have hnow : Below W5.heap.size W5 _ := (by go_split_ands; assumption); (with_reducible refine (HT1.out _ _ _ _ _ (hRb5.below hnow) (hRa5.below hnow)).mono ?_); rintro e wn ⟨at1, ct1, rfl, hR1, hbn⟩)
                                 | (go_at_call 35; have hnow : Below W5.heap.size W5 _ := (by go_split_ands; assumption); (with_reducible refine (HT2.out _ _ _ _ _ (hRb5.below hnow) (hRa5.below hnow)).mono ?_); rintro e wn ⟨at2, ct2, rfl, hR2, hbn⟩; have hR1' := hR1.below hbn)
                                 | (go_at_call 20; have hnow : Below W5.heap.size W5 _ := (by go_split_ands; assumption); (with_reducible refine (HST.out _ _ _ _ _ hR1' hR2).mono ?_); rintro e wn ⟨rfl, hbn⟩)
                                 | (go_at_call 23; have hnow : Below W5.heap.size W5 _ := (by go_split_ands; assumption); (with_reducible refine (HB1.out _ _ _ (hRa5.below hnow)).mono ?_); rintro e wn ⟨at3, ct3, rfl, hR3, hbn⟩)
                                 | (go_at_call 30; have hnow : Below W5.heap.size W5 _ := (by go_split_ands; assumption); (with_reducible refine (HB2.out _ _ _ (hRa5.below hnow)).mono ?_); rintro e wn ⟨at4, ct4, rfl, hR4, hbn⟩; have hR3' := hR3.below hbn)
                                 | (go_at_call 20; have hnow : Below W5.heap.size W5 _ := (by go_split_ands; assumption); (with_reducible refine (HSB.out _ _ _ _ _ hR3' hR4).mono ?_); rintro e wn ⟨rfl, hbn⟩)
                                 | (go_at_call 13; have hnow : Below W5.heap.size W5 _ := (by go_split_ands; assumption); (with_reducible refine (AWK.out _).mono ?_); rintro e wn ⟨rfl, hbn⟩))
                             go_wp2
                             go_ret
                             exact ⟨rfl, held_step B0 (held_step hc5 (held_step hnow hbn))⟩))
                      · have hmx : max 0 lo = 0 := by omega
                        have hw : IntKind.i64.wrap hi = hi := by rw [IntKind.wrap_i64]; omega
                        by_cases t5 : hi > 5000
                        · go_wp2_with (first
            | (go_at_call 29; with_reducible refine (HRA.out _ _ _ hRa1).mono ?_; rintro e v2 ⟨rfl, hv2⟩; have hc2 := held_step hb1 hv2; obtain ⟨c20, c21, c22, c23⟩ := HCELLS.out _ hc2; have hRb2 := hRb.below hc2)
            | (go_at_call 29; with_reducible refine (HRB.out _ _ _ hRb2).mono ?_; rintro e v3 ⟨rfl, hv3⟩; have hc3 := held_step hc2 hv3; obtain ⟨c30, c31, c32, c33⟩ := HCELLS.out _ hc3)
            | (go_at_call 13; with_reducible refine (awake_any _).mono ?_; rintro e v4 ⟨rfl, hv4⟩; have hc4 : Below W0.heap.size W0 v4 := (by first | exact held_step hc3 hv4 | exact held_step hc2 hv4)))
                          all_goals go_ret
                          all_goals exact ⟨rfl, held_step B0 hc4⟩
                        · go_wp2_with (first
            | (go_at_call 29; with_reducible refine (HRA.out _ _ _ hRa1).mono ?_; rintro e v2 ⟨rfl, hv2⟩; have hc2 := held_step hb1 hv2; obtain ⟨c20, c21, c22, c23⟩ := HCELLS.out _ hc2; have hRb2 := hRb.below hc2)
            | (go_at_call 29; with_reducible refine (HRB.out _ _ _ hRb2).mono ?_; rintro e v3 ⟨rfl, hv3⟩; have hc3 := held_step hc2 hv3; obtain ⟨c30, c31, c32, c33⟩ := HCELLS.out _ hc3)
            | (go_at_call 13; with_reducible refine (awake_any _).mono ?_; rintro e v4 ⟨rfl, hv4⟩; have hc4 : Below W0.heap.size W0 v4 := (by first | exact held_step hc3 hv4 | exact held_step hc2 hv4)))
                          refine (HS1.out _ _ _ (hRa.below hc3)).mono ?_
                          rintro e w4 ⟨rfl, hv4⟩
                          have hc4 := held_step hc3 hv4
                          obtain ⟨c40, c41, c42, c43⟩ := HCELLS.out _ hc4
                          clear c10 c11 c12 c13 c20 c21 c22 c23 c30 c31 c32 c33
                          go_wp2_with fail
                          refine (HS2.out _ _ _ (hRa.below hc4)).mono ?_
                          rintro e W5 ⟨rfl, hv5⟩
                          have hc5 := held_step hc4 hv5
                          clear c40 c41 c42 c43
                          go_upto_region 9 with fail
                          have HC5 : Hid (∀ w', Below W5.heap.size W5 w' → w'.cell? ⟨w.heap.size, 0, none⟩ = some (.slice a0 xs.length cap0) ∧ w'.cell? ⟨w.heap.size, 1, none⟩ = some (.int .i64 nn) ∧
                              w'.cell? ⟨w.heap.size + 1, 0, none⟩ = some (.slice a1 ys.length cap1) ∧ w'.cell? ⟨w.heap.size + 1, 1, none⟩ = some (.int .i64 mm)) := fun w' h => HCELLS.out _ (held_step hc5 h)
                          have hRa5 := hRa.below hc5
                          have hRb5 := hRb.below hc5
                          clear hv2 hv3 hv4 hv5 hc2 hc3 hc4 hb1 hRa hRb hRa1 hRb2
                          go_region_held3 (fun w' => Below W5.heap.size W5 w' ∧ w'.cell? ⟨w.heap.size, 0, none⟩ = some (.slice a0 xs.length cap0) ∧ w'.cell? ⟨w.heap.size, 1, none⟩ = some (.int .i64 nn) ∧
                              w'.cell? ⟨w.heap.size + 1, 0, none⟩ = some (.slice a1 ys.length cap1) ∧ w'.cell? ⟨w.heap.size + 1, 1, none⟩ = some (.int .i64 mm))
                            (first
                              | with_reducible exact ⟨held_step hnow hbn, HC5.out _ (held_step hnow hbn)⟩
                              | with_reducible exact ⟨(Below.refl _ _).drew, HC5.out _ (Below.refl _ _).drew⟩
                              | go_keep)
                            (first
                              | (go_at_call 17; have hnow : Below W5.heap.size W5 _ := (by go_split_ands; assumption); (with_reducible refine (HI1.out _ _ _ (hRa5.below hnow)).mono ?_); rintro e wn ⟨rfl, hbn⟩)
                              | (go_at_call 34; have hnow : Below W5.heap.size W5 _ := (by go_split_ands; assumption); (with_reducible refine (HI2.out _ _ _ (hRa5.below hnow)).mono ?_); rintro e wn ⟨rfl, hbn⟩)
                              | (go_at_call 15; have hnow : Below W5.heap.size W5 _ := (by go_split_ands; assumption); (with_reducible refine (HT1.out _ _ _ _ _ (hRb5.below hnow) (hRa5.below hnow)).mono ?_); rintro e wn ⟨at1, ct1, rfl, hR1, hbn⟩)
                              | (go_at_call 35; have hnow : Below W5.heap.size W5 _ := (by go_split_ands; assumption); (with_reducible refine (HT2.out _ _ _ _ _ (hRb5.below hnow) (hRa5.below hnow)).mono ?_); rintro e wn ⟨at2, ct2, rfl, hR2, hbn⟩; have hR1' := hR1.below hbn)
                              | (go_at_call 20; have hnow : Below W5.heap.size W5 _ := (by go_split_ands; assumption); (with_reducible refine (HST.out _ _ _ _ _ hR1' hR2).mono ?_); rintro e wn ⟨rfl, hbn⟩)
                              | (go_at_call 23; have hnow : Below W5.heap.size W5 _ := (by go_split_ands; assumption); (with_reducible refine (HB1.out _ _ _ (hRa5.below hnow)).mono ?_); rintro e wn ⟨at3, ct3, rfl, hR3, hbn⟩)
                              | (go_at_call 30; have hnow : Below W5.heap.size W5 _ := (by go_split_ands; assumption); (with_reducible refine (HB2.out _ _ _ (hRa5.below hnow)).mono ?_); rintro e wn ⟨at4, ct4, rfl, hR4, hbn⟩; have hR3' := hR3.below hbn)
                              | (go_at_call 20; have hnow : Below W5.heap.size W5 _ := (by go_split_ands; assumption); (with_reducible refine (HSB.out _ _ _ _ _ hR3' hR4).mono ?_); rintro e wn ⟨rfl, hbn⟩)
                              | (go_at_call 13; have hnow : Below W5.heap.size W5 _ := (by go_split_ands; assumption); (with_reducible refine (AWK.out _).mono ?_); rintro e wn ⟨rfl, hbn⟩))
                          go_wp2
                          go_ret
                          exact ⟨rfl, held_step B0 (held_step hc5 (held_step hnow hbn))⟩

end Go.Proofs.Ytdccpnaolcpohaa
