/- The walk of the law FuseMade. -/
import Derived.Test.YtdccpnaolcpohaaAN
import Derived.Test.YtdccpnaolcpohaaAJ
namespace Go.Proofs.Ytdccpnaolcpohaa
open Go.RowKit

theorem lay2 {w0 w : World} (h : Below w0.heap.size w0 w) (u1 u2 : List Value) :
    Blk ((w.alloc (.cells u1.toArray 26)).alloc (.cells u2.toArray 26)) w.heap.size u1 26 ∧
    Blk ((w.alloc (.cells u1.toArray 26)).alloc (.cells u2.toArray 26)) (w.heap.size + 1) u2 26 ∧
    Below w0.heap.size w0 ((w.alloc (.cells u1.toArray 26)).alloc (.cells u2.toArray 26)) ∧
    Below w.heap.size w ((w.alloc (.cells u1.toArray 26)).alloc (.cells u2.toArray 26)) := by
  have hs := h.size
  exact ⟨(Blk.made rfl _ _).alloc _, Blk.made (by simp) _ _, (h.alloc hs _).alloc (by simp <;> omega) _, ((Below.refl _ _).alloc (Nat.le_refl _) _).alloc (by simp) _⟩

/-- What Two makes of numbers. -/
def TwoGood (A B : List Int) (na nb : Nat) : Prop := A.length = B.length ∧ A.length ≤ 200 ∧ na ≤ 400 ∧ nb ≤ 400 ∧ UpP (-1) na A ∧ UpP (-1) nb B
theorem two_any (a0 a1 : Option Addr) (cap0 cap1 : Nat) (ns ms : List Int) (hl0 : ns.length ≤ 40) (hl1 : ms.length ≤ 40) (hb0 : ∀ i, 0 ≤ ns.getD i 0 ∧ ns.getD i 0 ≤ 255) (hb1 : ∀ i, 0 ≤ ms.getD i 0 ∧ ms.getD i 0 ≤ 255) :
    ∃ (A B : List Int) (na nb : Nat), TwoGood A B na nb ∧ ∀ W, RowK .u8 0 W a0 ns → RowK .u8 0 W a1 ms → Calls Try.prog 28 #[.slice a0 ns.length cap0, .slice a1 ms.length cap1] W (RetTwo W A B na nb) := by
  obtain ⟨up0, np0⟩ := make_up ns (fun i => (hb0 i).1) ns.length (Nat.le_refl _)
  obtain ⟨up1, np1⟩ := make_up ms (fun i => (hb1 i).1) ms.length (Nat.le_refl _)
  obtain ⟨bl0, _, bn0⟩ := make_bd ns ns.length (Nat.le_refl _)
  obtain ⟨bl1, _, bn1⟩ := make_bd ms ms.length (Nat.le_refl _)
  have M0 := Lib.hid (fun W h => make_any W a0 cap0 ns h (by omega) hb0)
  have M1 := Lib.hid (fun W h => make_any W a1 cap1 ms h (by omega) hb1)
  generalize makeTo ns ns.length = xs at *
  generalize makeTo ms ms.length = ys at *
  generalize makeNew ns ns.length = nx at *
  generalize makeNew ms ms.length = ny at *
  obtain ⟨n, rfl⟩ := Int.eq_ofNat_of_zero_le np0
  obtain ⟨m, rfl⟩ := Int.eq_ofNat_of_zero_le np1
  have u0 := pad_up xs n up0 np0 (ys.length - xs.length)
  have u1 := pad_up ys m up1 np1 (xs.length - ys.length)
  refine ⟨_, _, _, _, ⟨?_, ?_, ?_, ?_, ?_, ?_⟩, fun W h0 h1 => two_walk W a0 a1 cap0 cap1 ns ms xs ys n m h0 h1 M0 M1 (by omega) (by omega) (by omega) (by omega)⟩
  · rw [pad_length, pad_length]; omega
  · rw [pad_length]; omega
  · omega
  · omega
  · rw [Int.natCast_add]; exact u0
  · rw [Int.natCast_add]; exact u1

/-- The reference's Fuse, its lengths told apart. -/
def RetRef3 (w : World) (xs ys zs : List Int) (l m k n : Nat) (e : Ending) (w' : World) : Prop :=
  ∃ ao aa ab co ca cb, e = .returned (.agg #[.slice ao l co, .int .i64 n, .slice aa m ca, .int .i64 n, .slice ab k cb, .int .i64 n, .int .i64 0]) ∧ Row 0 w' ao xs ∧ Row 0 w' aa ys ∧ Row 0 w' ab zs ∧ Below w.heap.size w w'
theorem RetRef.three {w : World} {s : FS} {e : Ending} {w' : World} (h : RetRef w s e w') {l m k : Nat} (h1 : s.o.length = l) (h2 : s.ta.length = m) (h3 : s.tb.length = k) : RetRef3 w s.o s.ta s.tb l m k s.now e w' := by
  subst h1 h2 h3; exact h

theorem same_len (xs : List Int) (l : Nat) (n : Int) (h : xs.length = l) (hl : l ≤ 4294967296) (W : World) (a b : Option Addr) (c d : Nat) (h1 : Row 0 W a xs) (h2 : Row 0 W b xs) :
    Calls Try.prog 20 #[.agg #[.slice a l c, .int .i64 n], .agg #[.slice b l d, .int .i64 n]] W fun e w' => e = .returned (.bool true) ∧ Below W.heap.size W w' := by
  subst h; exact same_self W a b c d xs n h1 h2 hl

set_option maxRecDepth 100000 in
set_option maxHeartbeats 16000000 in
theorem fuseMade_walk (w : World) (a0 a1 : Option Addr) (cap0 cap1 : Nat) (ns ms : List Int) (h0 : RowK .u8 0 w a0 ns) (h1 : RowK .u8 0 w a1 ms)
    (hl0 : ns.length ≤ 9223372036854775807) (hl1 : ms.length ≤ 9223372036854775807) (hb0 : ∀ i, 0 ≤ ns.getD i 0 ∧ ns.getD i 0 ≤ 255) (hb1 : ∀ i, 0 ≤ ms.getD i 0 ∧ ms.getD i 0 ≤ 255) :
    Calls Try.prog 8 #[.slice a0 ns.length cap0, .slice a1 ms.length cap1] w fun e w' => e = .returned (.bool true) ∧ Below w.heap.size w w' := by
  by_cases c0 : ns.length > 40
  · have c0' : (ns.length : Int) > 40 := by omega
    clear hb0 hb1
    go_enter Try.func8, Try.ntmps8
    go_wp2_with (go_at_call 24; refine (awake19 _).mono ?_; rintro e w1 ⟨rfl, hb⟩)
    go_ret
    exact ⟨rfl, hb⟩
  · have c0' : ¬ (ns.length : Int) > 40 := by omega
    by_cases c1 : ms.length > 40
    · have c1' : (ms.length : Int) > 40 := by omega
      clear hb0 hb1
      go_enter Try.func8, Try.ntmps8
      go_wp2_with (go_at_call 24; refine (awake19 _).mono ?_; rintro e w1 ⟨rfl, hb⟩)
      go_ret
      exact ⟨rfl, hb⟩
    · have c1' : ¬ (ms.length : Int) > 40 := by omega
      obtain ⟨A, B, na, nb, ⟨g1, g2, g3, g4, g5, g6⟩, hT⟩ := two_any a0 a1 cap0 cap1 ns ms (by omega) (by omega) hb0 hb1
      clear hb0 hb1
      have HT := Lib.hid hT
      obtain ⟨L1, L2, L3⟩ := fuseS_len A B na nb (A.length + 1)
      have HF : Hid (∀ W a c a' c', Row 0 W a A → Row 0 W a' B → Calls Try.prog 25 #[.agg #[.slice a A.length c, .int .i64 na], .agg #[.slice a' B.length c', .int .i64 nb]] W (Ret3 W (fuseS A B na nb (A.length + 1)).o (fuseS A B na nb (A.length + 1)).ta (fuseS A B na nb (A.length + 1)).tb A.length na nb (fuseS A B na nb (A.length + 1)).now)) := fun W a c a' c' h h' =>
        (fuse_ok W a a' c c' A B na nb h h' (by omega) (by omega) (by omega) g1 g5 g6).mono fun _ _ h => h.three L1 L2 L3
      have HR : Hid (∀ W a c a' c', Row 0 W a A → Row 0 W a' B → Calls Try.prog 26 #[.agg #[.slice a A.length c, .int .i64 na], .agg #[.slice a' B.length c', .int .i64 nb]] W (RetRef3 W (fuseS A B na nb (A.length + 1)).o (fuseS A B na nb (A.length + 1)).ta (fuseS A B na nb (A.length + 1)).tb A.length na nb (fuseS A B na nb (A.length + 1)).now)) := fun W a c a' c' h h' =>
        (rfuse_yes W a a' c c' A B na nb h h' (by omega) (by omega) (by omega) (mayF_up A na g5 (by omega) (by omega) (by omega)) (mayF_up B nb g6 (by omega) (by omega) (by omega)) g1 g5 g6).mono fun _ _ h => h.three L1 L2 L3
      have HSO := Lib.hid (same_len _ _ ((fuseS A B na nb (A.length + 1)).now : Int) L1 (by omega))
      have HSA := Lib.hid (same_len _ _ ((fuseS A B na nb (A.length + 1)).now : Int) L2 (by omega))
      have HSB := Lib.hid (same_len _ _ ((fuseS A B na nb (A.length + 1)).now : Int) L3 (by omega))
      clear hT g1 g5 g6 L1 L2 L3
      generalize fuseS A B na nb (A.length + 1) = s at *
      obtain ⟨os, ts, us, m⟩ := s
      simp only at HF HR HSO HSA HSB
      go_enter Try.func8, Try.ntmps8
      go_wp2_with fail
      refine (HT.out _ h0 h1).mono ?_
      rintro e w1 ⟨aa, ca, ab, cb, rfl, hRa, hRb, hb1⟩
      obtain ⟨qa, qb, t2, u2⟩ := lay2 hb1 [.slice aa A.length ca, .int .i64 na] [.slice ab B.length cb, .int .i64 nb]
      have hRa2 := hRa.below u2
      have hRb2 := hRb.below u2
      clear HT h0 h1 hRa hRb hb1 u2
      go_upto_region 4 with fail
      generalize (w1.alloc (.cells #[.slice aa A.length ca, .int .i64 na] 26)).alloc (.cells #[.slice ab B.length cb, .int .i64 nb] 26) = w2 at *
      generalize w1.heap.size = pa at *
      have x0 := qa.cell 0 _ rfl
      have x1 := qa.cell 1 _ rfl
      have y0 := qb.cell 0 _ rfl
      have y1 := qb.cell 1 _ rfl
      go_wp2_with fail
      refine (HF.out _ _ _ _ _ hRa2 hRb2).mono ?_
      rintro e w5 ⟨ao, ax, ay, co, cx, cy, rfl, hRo, hRx, hRy, hb5⟩
      clear x0 x1 y0 y1
      obtain ⟨qo, qx, qy, t6, u6⟩ := lay3 (held_step t2 hb5) [.slice ao A.length co, .int .i64 m] [.slice ax na cx, .int .i64 m] [.slice ay nb cy, .int .i64 m]
      have v6 := hb5.trans (u6.mono hb5.size)
      have hRa6 := hRa2.below v6
      have hRb6 := hRb2.below v6
      have qa6 := qa.below v6 qa.lt
      have qb6 := qb.below v6 qb.lt
      have hRo6 := hRo.below u6
      have hRx6 := hRx.below u6
      have hRy6 := hRy.below u6
      go_upto_region 5 with fail
      clear v6 u6 t2 hb5 hRo hRx hRy qa qb hRa2 hRb2
      generalize ((w5.alloc (.cells #[.slice ao A.length co, .int .i64 m] 26)).alloc (.cells #[.slice ax na cx, .int .i64 m] 26)).alloc (.cells #[.slice ay nb cy, .int .i64 m] 26) = w6 at *
      generalize w5.heap.size = po at *
      have x0 := qa6.cell 0 _ rfl
      have x1 := qa6.cell 1 _ rfl
      have y0 := qb6.cell 0 _ rfl
      have y1 := qb6.cell 1 _ rfl
      go_wp2_with fail
      refine (HR.out _ _ _ _ _ hRa6 hRb6).mono ?_
      rintro e w7 ⟨ap, aq, ar, cp, cq, cr, rfl, hRp, hRq, hRr, hb7⟩
      clear x0 x1 y0 y1
      have qf := Blk.made (w := w7) rfl [.slice ap A.length cp, .int .i64 m, .slice aq na cq, .int .i64 m, .slice ar nb cr, .int .i64 m, .int .i64 0] 45
      have u8 : Below w7.heap.size w7 (w7.alloc (.cells #[.slice ap A.length cp, .int .i64 m, .slice aq na cq, .int .i64 m, .slice ar nb cr, .int .i64 m, .int .i64 0] 45)) := (Below.refl _ _).alloc (Nat.le_refl _) _
      have t8 := held_step (held_step t6 hb7) u8
      have v8 := hb7.trans (u8.mono hb7.size)
      have hRo8 := hRo6.below v8
      have hRx8 := hRx6.below v8
      have hRy8 := hRy6.below v8
      have qo8 := qo.below v8 qo.lt
      have qx8 := qx.below v8 qx.lt
      have qy8 := qy.below v8 qy.lt
      have hRp8 := hRp.below u8
      have hRq8 := hRq.below u8
      have hRr8 := hRr.below u8
      go_upto_region 6 with fail
      clear v8 u8 t6 hb7 hRp hRq hRr qa6 qb6 qo qx qy hRa6 hRb6 hRo6 hRx6 hRy6
      generalize w7.alloc (.cells #[.slice ap A.length cp, .int .i64 m, .slice aq na cq, .int .i64 m, .slice ar nb cr, .int .i64 m, .int .i64 0] 45) = W at *
      generalize w7.heap.size = F at *
      have HCELLS : Hid (∀ w', Below W.heap.size W w' → w'.cell? ⟨po, 0, none⟩ = some (.slice ao A.length co) ∧ w'.cell? ⟨po, 1, none⟩ = some (.int .i64 m) ∧
          w'.cell? ⟨po + 1, 0, none⟩ = some (.slice ax na cx) ∧ w'.cell? ⟨po + 1, 1, none⟩ = some (.int .i64 m) ∧
          w'.cell? ⟨po + 1 + 1, 0, none⟩ = some (.slice ay nb cy) ∧ w'.cell? ⟨po + 1 + 1, 1, none⟩ = some (.int .i64 m) ∧
          w'.cell? ⟨F, 0, none⟩ = some (.slice ap A.length cp) ∧ w'.cell? ⟨F, 1, none⟩ = some (.int .i64 m) ∧ w'.cell? ⟨F, 2, none⟩ = some (.slice aq na cq) ∧ w'.cell? ⟨F, 3, none⟩ = some (.int .i64 m) ∧
          w'.cell? ⟨F, 4, none⟩ = some (.slice ar nb cr) ∧ w'.cell? ⟨F, 5, none⟩ = some (.int .i64 m) ∧ w'.cell? ⟨F, 6, none⟩ = some (.int .i64 0)) := fun w' h =>
        ⟨(qo8.below h qo8.lt).cell 0 _ rfl, (qo8.below h qo8.lt).cell 1 _ rfl, (qx8.below h qx8.lt).cell 0 _ rfl, (qx8.below h qx8.lt).cell 1 _ rfl, (qy8.below h qy8.lt).cell 0 _ rfl, (qy8.below h qy8.lt).cell 1 _ rfl,
          (qf.below h qf.lt).cell 0 _ rfl, (qf.below h qf.lt).cell 1 _ rfl, (qf.below h qf.lt).cell 2 _ rfl, (qf.below h qf.lt).cell 3 _ rfl, (qf.below h qf.lt).cell 4 _ rfl, (qf.below h qf.lt).cell 5 _ rfl, (qf.below h qf.lt).cell 6 _ rfl⟩
      clear qo8 qx8 qy8 qf
      go_region_held3 (fun w' => Below W.heap.size W w' ∧ w'.cell? ⟨po, 0, none⟩ = some (.slice ao A.length co) ∧ w'.cell? ⟨po, 1, none⟩ = some (.int .i64 m) ∧
          w'.cell? ⟨po + 1, 0, none⟩ = some (.slice ax na cx) ∧ w'.cell? ⟨po + 1, 1, none⟩ = some (.int .i64 m) ∧
          w'.cell? ⟨po + 1 + 1, 0, none⟩ = some (.slice ay nb cy) ∧ w'.cell? ⟨po + 1 + 1, 1, none⟩ = some (.int .i64 m) ∧
          w'.cell? ⟨F, 0, none⟩ = some (.slice ap A.length cp) ∧ w'.cell? ⟨F, 1, none⟩ = some (.int .i64 m) ∧ w'.cell? ⟨F, 2, none⟩ = some (.slice aq na cq) ∧ w'.cell? ⟨F, 3, none⟩ = some (.int .i64 m) ∧
          w'.cell? ⟨F, 4, none⟩ = some (.slice ar nb cr) ∧ w'.cell? ⟨F, 5, none⟩ = some (.int .i64 m) ∧ w'.cell? ⟨F, 6, none⟩ = some (.int .i64 0))
        (first
          | with_reducible exact ⟨held_step hnow hbn, HCELLS.out _ (held_step hnow hbn)⟩
          | with_reducible exact ⟨(Below.refl _ _).drew, HCELLS.out _ (Below.refl _ _).drew⟩
          | go_keep)
        (first
          | (go_at_call 20; have hnow : Below W.heap.size W _ := (by go_split_ands; assumption); (with_reducible refine (HSO.out _ _ _ _ _ (hRo8.below hnow) (hRp8.below hnow)).mono ?_); rintro e wn ⟨rfl, hbn⟩)
          | (go_at_call 20; have hnow : Below W.heap.size W _ := (by go_split_ands; assumption); (with_reducible refine (HSA.out _ _ _ _ _ (hRx8.below hnow) (hRq8.below hnow)).mono ?_); rintro e wn ⟨rfl, hbn⟩)
          | (go_at_call 20; have hnow : Below W.heap.size W _ := (by go_split_ands; assumption); (with_reducible refine (HSB.out _ _ _ _ _ (hRy8.below hnow) (hRr8.below hnow)).mono ?_); rintro e wn ⟨rfl, hbn⟩)
          | (go_at_call 27; have hnow : Below W.heap.size W _ := (by go_split_ands; assumption); (with_reducible refine (num_any _ 0 (by decide) (by decide)).mono ?_); rintro e wn ⟨rfl, hbn⟩)
          | (go_at_call 24; have hnow : Below W.heap.size W _ := (by go_split_ands; assumption); refine (awake19 _).mono ?_; rintro e wn ⟨rfl, hbn⟩))
      go_wp2
      go_ret
      exact ⟨rfl, held_step t8 (held_step hnow hbn)⟩

end Go.Proofs.Ytdccpnaolcpohaa
