/- The contract of Fuse where both may be, at rising maps; the law's awake; Num. -/
import Derived.Test.YtdccpnaolcpohaaAB
import Derived.Test.YtdccpnaolcpohaaAD
namespace Go.Proofs.Ytdccpnaolcpohaa
open Go.RowKit

theorem num_any (w : World) (x : Int) (h0 : 0 ≤ x) (h1 : x ≤ 255) : Calls Try.prog 27 #[.int .i64 x] w fun e w' => e = .returned (.int .i64 x) ∧ Below w.heap.size w w' := by
  go_enter Try.func27, Try.ntmps27
  go_wp2
  go_ret
  exact ⟨rfl, Below.refl _ _⟩

theorem fuse_ok (w : World) (aa ab : Option Addr) (ca cb : Nat) (xs ys : List Int) (na nb : Nat) (hx : Row 0 w aa xs) (hy : Row 0 w ab ys) (hlx : xs.length ≤ 1048576) (hna : na ≤ 1048576) (hnb : nb ≤ 1048576)
    (hne : xs.length = ys.length) (hux : UpP (-1) na xs) (huy : UpP (-1) nb ys) :
    Calls Try.prog 25 #[.agg #[.slice aa xs.length ca, .int .i64 na], .agg #[.slice ab ys.length cb, .int .i64 nb]] w (RetFuse w (fuseS xs ys na nb (xs.length + 1))) :=
  fuse_yes w aa ab ca cb xs ys na nb hx hy (by omega) hna hnb (mayF_up xs na hux (by omega) (by omega) hlx) (mayF_up ys nb huy (by omega) (by omega) (by omega)) hne hux huy

theorem same_self (W : World) (a b : Option Addr) (c d : Nat) (xs : List Int) (n : Int) (h : Row 0 W a xs) (h' : Row 0 W b xs) (hl : xs.length ≤ 4294967296) :
    Calls Try.prog 20 #[.agg #[.slice a xs.length c, .int .i64 n], .agg #[.slice b xs.length d, .int .i64 n]] W fun e w' => e = .returned (.bool true) ∧ Below W.heap.size W w' := by
  have := sameMap_any W a b c d xs xs n n h h' hl hl
  rwa [sameF_self] at this

theorem idx_up (n : Nat) : UpP (-1) n (tab idx n) := by
  refine ⟨fun i x h _ => ?_, fun i j x y hij h1 h2 _ _ => ?_⟩
  · by_cases hi : i < n
    · rw [tab_get _ _ _ hi] at h; simp [idx] at h; omega
    · rw [List.getElem?_eq_none (by rw [tab_length]; omega)] at h; cases h
  · by_cases hj : j < n
    · rw [tab_get _ _ _ hj] at h2; rw [tab_get _ _ _ (by omega)] at h1; simp [idx] at h1 h2; omega
    · rw [List.getElem?_eq_none (by rw [tab_length]; omega)] at h2; cases h2

theorem size_id (n : Nat) (h : n ≤ 1048576) : sizeF n = n := by unfold sizeF; omega
theorem rsame_at (w : World) (n : Nat) (h : n ≤ 1048576) : Calls Try.prog 32 #[.int .i64 n] w (RetMap0 w (tab idx n) n n) := by
  refine (rsame_any w n).mono fun e w' ⟨a, c, h1, h2, h3⟩ => ?_
  rw [size_id n h] at h1 h2
  rw [tab_length] at h1
  exact ⟨a, c, h1, h2.from (Nat.zero_le _), h3⟩

theorem tab01 : tab idx 2 = [0, 1] := by decide +kernel
set_option maxRecDepth 100000 in
set_option maxHeartbeats 8000000 in
theorem awake19 (w : World) : Calls Try.prog 24 #[] w fun e w' => e = .returned (.bool true) ∧ Below w.heap.size w w' := by
  have HR : Hid (∀ W, Calls Try.prog 32 #[.int .i64 2] W (RetMap0 W [0, 1] 2 2)) := fun W => by
    have := rsame_at W 2 (by omega); rwa [tab01] at this
  have HF : Hid (∀ W a b c d, Row 0 W a [0, 1] → Row 0 W b [0, 1] → Calls Try.prog 25 #[.agg #[.slice a 2 c, .int .i64 2], .agg #[.slice b 2 d, .int .i64 2]] W (RetFuse W ⟨[0, 1], [0, 1], [0, 1], 2⟩)) := fun W a b c d h h' => by
    have u := idx_up 2
    have := fuse_ok W a b c d [0, 1] [0, 1] 2 2 h h' (by decide) (by decide) (by decide) rfl (by rw [← tab01]; exact u) (by rw [← tab01]; exact u)
    have e := fuse_one (xs := [0, 1]) (n := 2) (by rw [← tab01]; exact u)
    rw [show ([0, 1] : List Int).length = 2 from rfl, tab01] at e
    rw [show ([0, 1] : List Int).length + 1 = 2 + 1 from rfl, e] at this
    exact this
  have HS : Hid (∀ W a b c d, Row 0 W a [0, 1] → Row 0 W b [0, 1] → Calls Try.prog 20 #[.agg #[.slice a 2 c, .int .i64 2], .agg #[.slice b 2 d, .int .i64 2]] W fun e w' => e = .returned (.bool true) ∧ Below W.heap.size W w') := fun W a b c d h h' =>
    same_self W a b c d [0, 1] 2 h h' (by decide)
  go_enter Try.func24, Try.ntmps24
  go_wp2_with fail
  refine (HR.out _).mono ?_
  rintro e w1 ⟨a1, c1, rfl, hR1, hb1⟩
  go_wp2_with fail
  refine (HR.out _).mono ?_
  rintro e w2 ⟨a2, c2, rfl, hR2, hb2⟩
  go_wp2_with fail
  refine (HF.out _ _ _ _ _ (hR1.below hb2) hR2).mono ?_
  rintro e w3 ⟨ao, aa, ab, co, ca, cb, rfl, hO, hA, hB, hb3⟩
  simp only [show ([0, 1] : List Int).length = 2 from rfl, show ((2 : Nat) : Int) = 2 from rfl]
  go_wp2_with fail
  have hO4 := ((hO.alloc (.cells #[.slice ao 2 co, .int .i64 2] 26)).alloc (.cells #[.slice aa 2 ca, .int .i64 2] 26)).alloc (.cells #[.slice ab 2 cb, .int .i64 2] 26)
  have hA4 := ((hA.alloc (.cells #[.slice ao 2 co, .int .i64 2] 26)).alloc (.cells #[.slice aa 2 ca, .int .i64 2] 26)).alloc (.cells #[.slice ab 2 cb, .int .i64 2] 26)
  have hB4 := ((hB.alloc (.cells #[.slice ao 2 co, .int .i64 2] 26)).alloc (.cells #[.slice aa 2 ca, .int .i64 2] 26)).alloc (.cells #[.slice ab 2 cb, .int .i64 2] 26)
  have q0 := ((Blk.made (w := w3) rfl [.slice ao 2 co, .int .i64 2] 26).alloc (.cells #[.slice aa 2 ca, .int .i64 2] 26)).alloc (.cells #[.slice ab 2 cb, .int .i64 2] 26)
  have q1 := (Blk.made (w := w3.alloc (.cells #[.slice ao 2 co, .int .i64 2] 26)) (b := w3.heap.size + 1) (by simp) [.slice aa 2 ca, .int .i64 2] 26).alloc (.cells #[.slice ab 2 cb, .int .i64 2] 26)
  have q2 := Blk.made (w := (w3.alloc (.cells #[.slice ao 2 co, .int .i64 2] 26)).alloc (.cells #[.slice aa 2 ca, .int .i64 2] 26)) (b := w3.heap.size + 1 + 1) (by simp) [.slice ab 2 cb, .int .i64 2] 26
  have t3 := held_step (held_step hb1 hb2) hb3
  have t4 := ((t3.alloc t3.size (.cells #[.slice ao 2 co, .int .i64 2] 26)).alloc (by have := t3.size; simp <;> omega) (.cells #[.slice aa 2 ca, .int .i64 2] 26)).alloc (by have := t3.size; simp <;> omega) (.cells #[.slice ab 2 cb, .int .i64 2] 26)
  clear hO hA hB hR1 hR2 hb1 hb2 hb3 t3
  generalize ((w3.alloc (.cells #[.slice ao 2 co, .int .i64 2] 26)).alloc (.cells #[.slice aa 2 ca, .int .i64 2] 26)).alloc (.cells #[.slice ab 2 cb, .int .i64 2] 26) = W at *
  generalize w3.heap.size = p at *
  have HCELLS : Hid (∀ w', Below W.heap.size W w' → w'.cell? ⟨p, 0, none⟩ = some (.slice ao 2 co) ∧ w'.cell? ⟨p, 1, none⟩ = some (.int .i64 2) ∧
      w'.cell? ⟨p + 1, 0, none⟩ = some (.slice aa 2 ca) ∧ w'.cell? ⟨p + 1, 1, none⟩ = some (.int .i64 2) ∧ w'.cell? ⟨p + 1 + 1, 0, none⟩ = some (.slice ab 2 cb) ∧ w'.cell? ⟨p + 1 + 1, 1, none⟩ = some (.int .i64 2)) := fun w' h =>
    ⟨(q0.below h q0.lt).cell 0 _ rfl, (q0.below h q0.lt).cell 1 _ rfl, (q1.below h q1.lt).cell 0 _ rfl, (q1.below h q1.lt).cell 1 _ rfl, (q2.below h q2.lt).cell 0 _ rfl, (q2.below h q2.lt).cell 1 _ rfl⟩
  clear q0 q1 q2
  go_region_held3 (fun w' => Below W.heap.size W w' ∧ w'.cell? ⟨p, 0, none⟩ = some (.slice ao 2 co) ∧ w'.cell? ⟨p, 1, none⟩ = some (.int .i64 2) ∧
      w'.cell? ⟨p + 1, 0, none⟩ = some (.slice aa 2 ca) ∧ w'.cell? ⟨p + 1, 1, none⟩ = some (.int .i64 2) ∧ w'.cell? ⟨p + 1 + 1, 0, none⟩ = some (.slice ab 2 cb) ∧ w'.cell? ⟨p + 1 + 1, 1, none⟩ = some (.int .i64 2))
    (first
      | exact ⟨held_step hnow hbn, HCELLS.out _ (held_step hnow hbn)⟩
      | exact ⟨(Below.refl _ _).drew, HCELLS.out _ (Below.refl _ _).drew⟩
      | go_keep)
    (first
      | (go_at_call 27; have hnow : Below W.heap.size W _ := (by go_split_ands; assumption); (with_reducible refine (num_any _ 0 (by decide) (by decide)).mono ?_); rintro e wn ⟨rfl, hbn⟩)
      | (go_at_call 32; have hnow : Below W.heap.size W _ := (by go_split_ands; assumption); (with_reducible refine (HR.out _).mono ?_); rintro e wn ⟨a5, c5, rfl, hR5, hbn⟩)
      | (go_at_call 20; have hnow : Below W.heap.size W _ := (by go_split_ands; assumption); (with_reducible refine (HS.out _ _ _ _ _ (hO4.below hnow) hR5).mono ?_); rintro e wn ⟨rfl, hbn⟩)
      | (go_at_call 20; have hnow : Below W.heap.size W _ := (by go_split_ands; assumption); (with_reducible refine (HS.out _ _ _ _ _ (hA4.below hnow) (hO4.below hnow)).mono ?_); rintro e wn ⟨rfl, hbn⟩)
      | (go_at_call 20; have hnow : Below W.heap.size W _ := (by go_split_ands; assumption); (with_reducible refine (HS.out _ _ _ _ _ (hB4.below hnow) (hO4.below hnow)).mono ?_); rintro e wn ⟨rfl, hbn⟩))
  go_wp2
  go_ret
  exact ⟨rfl, held_step t4 (held_step hnow hbn)⟩

end Go.Proofs.Ytdccpnaolcpohaa
