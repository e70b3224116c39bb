/- The walk of the law FuseAll. -/
import Derived.Test.YtdccpnaolcpohaaAQ
namespace Go.Proofs.Ytdccpnaolcpohaa
open Go.RowKit

/-- Three maps and an error's number. -/
def Ret4 (w : World) (xs ys zs : List Int) (l m k : Nat) (n E : Int) (e : Ending) (w' : World) : Prop :=
  ∃ ao aa ab co ca cb, e = .returned (.tuple #[.agg #[.slice ao l co, .int .i64 n], .agg #[.slice aa m ca, .int .i64 n], .agg #[.slice ab k cb, .int .i64 n], .int .i64 E]) ∧ Row 0 w' ao xs ∧ Row 0 w' aa ys ∧ Row 0 w' ab zs ∧ Below w.heap.size w w'
/-- The reference's. -/
def RetR4 (w : World) (xs ys zs : List Int) (l m k : Nat) (n E : Int) (e : Ending) (w' : World) : Prop :=
  ∃ ao aa ab co ca cb, e = .returned (.agg #[.slice ao l co, .int .i64 n, .slice aa m ca, .int .i64 n, .slice ab k cb, .int .i64 n, .int .i64 E]) ∧ Row 0 w' ao xs ∧ Row 0 w' aa ys ∧ Row 0 w' ab zs ∧ Below w.heap.size w w'

theorem RetNo.four {w : World} {e : Ending} {w' : World} (h : RetNo w e w') : Ret4 w [] [] [] 0 0 0 0 1 e w' :=
  ⟨none, none, none, 0, 0, 0, h.1, .inl rfl, .inl rfl, .inl rfl, h.2⟩
theorem RetNoR.four {w : World} {e : Ending} {w' : World} (h : RetNoR w e w') : RetR4 w [] [] [] 0 0 0 0 1 e w' :=
  ⟨none, none, none, 0, 0, 0, h.1, .inl rfl, .inl rfl, .inl rfl, h.2⟩

def Twins4 (A B : List Int) (na nb : Int) (os ts us : List Int) (l m k : Nat) (n E : Int) : Prop :=
  (os.length = l ∧ ts.length = m ∧ us.length = k ∧ l ≤ 4294967296 ∧ m ≤ 4294967296 ∧ k ≤ 4294967296 ∧ 0 ≤ E ∧ E ≤ 255) ∧
  (∀ W a c a' c', Row 0 W a A → Row 0 W a' B → Calls Try.prog 25 #[.agg #[.slice a A.length c, .int .i64 na], .agg #[.slice a' B.length c', .int .i64 nb]] W (Ret4 W os ts us l m k n E)) ∧
  (∀ W a c a' c', Row 0 W a A → Row 0 W a' B → Calls Try.prog 26 #[.agg #[.slice a A.length c, .int .i64 na], .agg #[.slice a' B.length c', .int .i64 nb]] W (RetR4 W os ts us l m k n E))

theorem twins4_no {A B : List Int} {na nb : Int}
    (h1 : ∀ W a c a' c', Row 0 W a A → Row 0 W a' B → Calls Try.prog 25 #[.agg #[.slice a A.length c, .int .i64 na], .agg #[.slice a' B.length c', .int .i64 nb]] W (RetNo W))
    (h2 : ∀ W a c a' c', Row 0 W a A → Row 0 W a' B → Calls Try.prog 26 #[.agg #[.slice a A.length c, .int .i64 na], .agg #[.slice a' B.length c', .int .i64 nb]] W (RetNoR W)) :
    ∃ os ts us l m k n E, Twins4 A B na nb os ts us l m k n E :=
  ⟨[], [], [], 0, 0, 0, 0, 1, ⟨rfl, rfl, rfl, by decide, by decide, by decide, by decide, by decide⟩, fun W a c a' c' h h' => (h1 W a c a' c' h h').mono fun _ _ h => h.four, fun W a c a' c' h h' => (h2 W a c a' c' h h').mono fun _ _ h => h.four⟩

theorem twins4 (A B : List Int) (na nb : Int) (hA : A.length ≤ 60) (hB : B.length ≤ 60) : ∃ os ts us l m k n E, Twins4 A B na nb os ts us l m k n E := by
  by_cases h1 : mayF A na = true
  · by_cases h2 : mayF B nb = true
    · by_cases h3 : A.length = B.length
      · obtain ⟨p1, p2, -, p3⟩ := may_parts h1
        obtain ⟨r1, r2, -, r3⟩ := may_parts h2
        obtain ⟨n, rfl⟩ := Int.eq_ofNat_of_zero_le p1
        obtain ⟨m, rfl⟩ := Int.eq_ofNat_of_zero_le r1
        obtain ⟨L1, L2, L3⟩ := fuseS_len A B n m (A.length + 1)
        refine ⟨_, _, _, A.length, n, m, (fuseS A B n m (A.length + 1)).now, 0, ⟨L1, L2, L3, by omega, by omega, by omega, by decide, by decide⟩, fun W a c a' c' h h' => ?_, fun W a c a' c' h h' => ?_⟩
        · refine (fuse_ok W a a' c c' A B n m h h' (by omega) (by omega) (by omega) h3 p3 r3).mono fun _ _ h => ?_
          exact h.three L1 L2 L3
        · refine (rfuse_yes W a a' c c' A B n m h h' (by omega) (by omega) (by omega) h1 h2 h3 p3 r3).mono fun _ _ h => ?_
          exact h.three L1 L2 L3
      · exact twins4_no (fun W a c a' c' h h' => fuse_no3 W a a' c c' A B na nb h (by omega) h1 h' (by omega) h2 h3) (fun W a c a' c' h h' => rfuse_no3 W a a' c c' A B na nb h (by omega) h1 h' (by omega) h2 h3)
    · have h2 := Bool.eq_false_iff.2 h2
      exact twins4_no (fun W a c a' c' h h' => fuse_no2 W a a' c c' A B na nb h (by omega) h1 h' (by omega) h2) (fun W a c a' c' h h' => rfuse_no2 W a a' c c' A B na nb h (by omega) h1 h' (by omega) h2)
  · have h1 := Bool.eq_false_iff.2 h1
    exact twins4_no (fun W a c a' c' h h' => fuse_no1 W a a' c c' A B na nb h (by omega) h1) (fun W a c a' c' h h' => rfuse_no1 W a a' c c' A B na nb h (by omega) h1)

set_option maxRecDepth 100000 in
set_option maxHeartbeats 16000000 in
theorem fuseAll_walk (w : World) (a0 a1 : Option Addr) (cap0 cap1 : Nat) (A B : List Int) (na nb : Int) (h0 : Row 0 w a0 A) (h1 : Row 0 w a1 B)
    (hl0 : A.length ≤ 9223372036854775807) (hl1 : B.length ≤ 9223372036854775807) :
    Calls Try.prog 7 #[.agg #[.slice a0 A.length cap0, .int .i64 na], .agg #[.slice a1 B.length cap1, .int .i64 nb]] w fun e w' => e = .returned (.bool true) ∧ Below w.heap.size w w' := by
  obtain ⟨qa, qb, t2, u2⟩ := lay2 (Below.refl w.heap.size w) [.slice a0 A.length cap0, .int .i64 na] [.slice a1 B.length cap1, .int .i64 nb]
  by_cases c0 : A.length > 60
  · have c0' : (A.length : Int) > 60 := by omega
    clear qa qb u2
    go_enter Try.func7, Try.ntmps7
    go_wp2_with (go_at_call 24; refine (awake19 _).mono ?_; rintro e w1 ⟨rfl, hb⟩)
    go_ret
    exact ⟨rfl, held_step t2 hb⟩
  · have c0' : ¬ (A.length : Int) > 60 := by omega
    by_cases c1 : B.length > 60
    · have c1' : (B.length : Int) > 60 := by omega
      clear qa qb u2
      go_enter Try.func7, Try.ntmps7
      go_wp2_with (go_at_call 24; refine (awake19 _).mono ?_; rintro e w1 ⟨rfl, hb⟩)
      go_ret
      exact ⟨rfl, held_step t2 hb⟩
    · have c1' : ¬ (B.length : Int) > 60 := by omega
      by_cases c2 : na > 200
      · clear qa qb u2
        go_enter Try.func7, Try.ntmps7
        go_wp2_with (go_at_call 24; refine (awake19 _).mono ?_; rintro e w1 ⟨rfl, hb⟩)
        go_ret
        exact ⟨rfl, held_step t2 hb⟩
      · by_cases c3 : nb > 200
        · clear qa qb u2
          go_enter Try.func7, Try.ntmps7
          go_wp2_with (go_at_call 24; refine (awake19 _).mono ?_; rintro e w1 ⟨rfl, hb⟩)
          go_ret
          exact ⟨rfl, held_step t2 hb⟩
        · obtain ⟨os, ts, us, l, m, k, n, E, ⟨L1, L2, L3, M1, M2, M3, E0, E1⟩, hF, hR⟩ := twins4 A B na nb (by omega) (by omega)
          have HF := Lib.hid hF
          have HR := Lib.hid hR
          have HSO := Lib.hid (same_len _ _ n L1 M1)
          have HSA := Lib.hid (same_len _ _ n L2 M2)
          have HSB := Lib.hid (same_len _ _ n L3 M3)
          have HNUM := Lib.hid (fun W => num_any W E E0 E1)
          have hRa2 := h0.below u2
          have hRb2 := h1.below u2
          clear hF hR L1 L2 L3 M1 M2 M3 E0 E1 h0 h1 u2
          go_enter Try.func7, Try.ntmps7
          go_upto_region 3 with fail
          generalize (w.alloc (.cells #[.slice a0 A.length cap0, .int .i64 na] 26)).alloc (.cells #[.slice a1 B.length cap1, .int .i64 nb] 26) = w2 at *
          have x0 := qa.cell 0 _ rfl
          have x1 := qa.cell 1 _ rfl
          have y0 := qb.cell 0 _ rfl
          have y1 := qb.cell 1 _ rfl
          go_wp2_with fail
          refine (HF.out _ _ _ _ _ hRa2 hRb2).mono ?_
          rintro e w5 ⟨ao, ax, ay, co, cx, cy, rfl, hRo, hRx, hRy, hb5⟩
          clear x0 x1 y0 y1
          obtain ⟨qo, qx, qy, t6, u6⟩ := lay3 (held_step t2 hb5) [.slice ao l co, .int .i64 n] [.slice ax m cx, .int .i64 n] [.slice ay k cy, .int .i64 n]
          have v6 := hb5.trans (u6.mono hb5.size)
          have hRa6 := hRa2.below v6
          have hRb6 := hRb2.below v6
          have qa6 := qa.below v6 qa.lt
          have qb6 := qb.below v6 qb.lt
          have hRo6 := hRo.below u6
          have hRx6 := hRx.below u6
          have hRy6 := hRy.below u6
          go_upto_region 4 with fail
          clear v6 u6 t2 hb5 hRo hRx hRy qa qb hRa2 hRb2
          generalize ((w5.alloc (.cells #[.slice ao l co, .int .i64 n] 26)).alloc (.cells #[.slice ax m cx, .int .i64 n] 26)).alloc (.cells #[.slice ay k cy, .int .i64 n] 26) = w6 at *
          generalize w5.heap.size = po at *
          have x0 := qa6.cell 0 _ rfl
          have x1 := qa6.cell 1 _ rfl
          have y0 := qb6.cell 0 _ rfl
          have y1 := qb6.cell 1 _ rfl
          go_wp2_with fail
          refine (HR.out _ _ _ _ _ hRa6 hRb6).mono ?_
          rintro e w7 ⟨ap, aq, ar, cp, cq, cr, rfl, hRp, hRq, hRr, hb7⟩
          clear x0 x1 y0 y1
          have qf := Blk.made (w := w7) rfl [.slice ap l cp, .int .i64 n, .slice aq m cq, .int .i64 n, .slice ar k cr, .int .i64 n, .int .i64 E] 45
          have u8 : Below w7.heap.size w7 (w7.alloc (.cells #[.slice ap l cp, .int .i64 n, .slice aq m cq, .int .i64 n, .slice ar k cr, .int .i64 n, .int .i64 E] 45)) := (Below.refl _ _).alloc (Nat.le_refl _) _
          have t8 := held_step (held_step t6 hb7) u8
          have v8 := hb7.trans (u8.mono hb7.size)
          have hRo8 := hRo6.below v8
          have hRx8 := hRx6.below v8
          have hRy8 := hRy6.below v8
          have qo8 := qo.below v8 qo.lt
          have qx8 := qx.below v8 qx.lt
          have qy8 := qy.below v8 qy.lt
          have hRp8 := hRp.below u8
          have hRq8 := hRq.below u8
          have hRr8 := hRr.below u8
          go_upto_region 5 with fail
          clear v8 u8 t6 hb7 hRp hRq hRr qa6 qb6 qo qx qy hRa6 hRb6 hRo6 hRx6 hRy6
          generalize w7.alloc (.cells #[.slice ap l cp, .int .i64 n, .slice aq m cq, .int .i64 n, .slice ar k cr, .int .i64 n, .int .i64 E] 45) = W at *
          generalize w7.heap.size = F at *
          have HCELLS : Hid (∀ w', Below W.heap.size W w' → w'.cell? ⟨po, 0, none⟩ = some (.slice ao l co) ∧ w'.cell? ⟨po, 1, none⟩ = some (.int .i64 n) ∧
              w'.cell? ⟨po + 1, 0, none⟩ = some (.slice ax m cx) ∧ w'.cell? ⟨po + 1, 1, none⟩ = some (.int .i64 n) ∧
              w'.cell? ⟨po + 1 + 1, 0, none⟩ = some (.slice ay k cy) ∧ w'.cell? ⟨po + 1 + 1, 1, none⟩ = some (.int .i64 n) ∧
              w'.cell? ⟨F, 0, none⟩ = some (.slice ap l cp) ∧ w'.cell? ⟨F, 1, none⟩ = some (.int .i64 n) ∧ w'.cell? ⟨F, 2, none⟩ = some (.slice aq m cq) ∧ w'.cell? ⟨F, 3, none⟩ = some (.int .i64 n) ∧
              w'.cell? ⟨F, 4, none⟩ = some (.slice ar k cr) ∧ w'.cell? ⟨F, 5, none⟩ = some (.int .i64 n) ∧ w'.cell? ⟨F, 6, none⟩ = some (.int .i64 E)) := fun w' h =>
            ⟨(qo8.below h qo8.lt).cell 0 _ rfl, (qo8.below h qo8.lt).cell 1 _ rfl, (qx8.below h qx8.lt).cell 0 _ rfl, (qx8.below h qx8.lt).cell 1 _ rfl, (qy8.below h qy8.lt).cell 0 _ rfl, (qy8.below h qy8.lt).cell 1 _ rfl,
              (qf.below h qf.lt).cell 0 _ rfl, (qf.below h qf.lt).cell 1 _ rfl, (qf.below h qf.lt).cell 2 _ rfl, (qf.below h qf.lt).cell 3 _ rfl, (qf.below h qf.lt).cell 4 _ rfl, (qf.below h qf.lt).cell 5 _ rfl, (qf.below h qf.lt).cell 6 _ rfl⟩
          clear qo8 qx8 qy8 qf
          go_region_held3 (fun w' => Below W.heap.size W w' ∧ w'.cell? ⟨po, 0, none⟩ = some (.slice ao l co) ∧ w'.cell? ⟨po, 1, none⟩ = some (.int .i64 n) ∧
              w'.cell? ⟨po + 1, 0, none⟩ = some (.slice ax m cx) ∧ w'.cell? ⟨po + 1, 1, none⟩ = some (.int .i64 n) ∧
              w'.cell? ⟨po + 1 + 1, 0, none⟩ = some (.slice ay k cy) ∧ w'.cell? ⟨po + 1 + 1, 1, none⟩ = some (.int .i64 n) ∧
              w'.cell? ⟨F, 0, none⟩ = some (.slice ap l cp) ∧ w'.cell? ⟨F, 1, none⟩ = some (.int .i64 n) ∧ w'.cell? ⟨F, 2, none⟩ = some (.slice aq m cq) ∧ w'.cell? ⟨F, 3, none⟩ = some (.int .i64 n) ∧
              w'.cell? ⟨F, 4, none⟩ = some (.slice ar k cr) ∧ w'.cell? ⟨F, 5, none⟩ = some (.int .i64 n) ∧ w'.cell? ⟨F, 6, none⟩ = some (.int .i64 E))
            (first
              | with_reducible exact ⟨held_step hnow hbn, HCELLS.out _ (held_step hnow hbn)⟩
              | with_reducible exact ⟨(Below.refl _ _).drew, HCELLS.out _ (Below.refl _ _).drew⟩
              | go_keep)
            (first
              | (go_at_call 20; have hnow : Below W.heap.size W _ := (by go_split_ands; assumption); (with_reducible refine (HSO.out _ _ _ _ _ (hRo8.below hnow) (hRp8.below hnow)).mono ?_); rintro e wn ⟨rfl, hbn⟩)
              | (go_at_call 20; have hnow : Below W.heap.size W _ := (by go_split_ands; assumption); (with_reducible refine (HSA.out _ _ _ _ _ (hRx8.below hnow) (hRq8.below hnow)).mono ?_); rintro e wn ⟨rfl, hbn⟩)
              | (go_at_call 20; have hnow : Below W.heap.size W _ := (by go_split_ands; assumption); (with_reducible refine (HSB.out _ _ _ _ _ (hRy8.below hnow) (hRr8.below hnow)).mono ?_); rintro e wn ⟨rfl, hbn⟩)
              | (go_at_call 27; have hnow : Below W.heap.size W _ := (by go_split_ands; assumption); (with_reducible refine (HNUM.out _).mono ?_); rintro e wn ⟨rfl, hbn⟩)
              | (go_at_call 24; have hnow : Below W.heap.size W _ := (by go_split_ands; assumption); refine (awake19 _).mono ?_; rintro e wn ⟨rfl, hbn⟩))
          go_wp2
          go_ret
          exact ⟨rfl, held_step t8 (held_step hnow hbn)⟩

end Go.Proofs.Ytdccpnaolcpohaa
