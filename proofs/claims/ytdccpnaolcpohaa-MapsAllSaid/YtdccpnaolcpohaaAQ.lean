/- The reference's Fuse where one may not be. -/
import Derived.Test.YtdccpnaolcpohaaAP
namespace Go.Proofs.Ytdccpnaolcpohaa
open Go.RowKit

theorem may_parts {xs : List Int} {n : Int} (h : mayF xs n = true) : 0 ≤ n ∧ n ≤ 1048576 ∧ xs.length ≤ 1048576 ∧ UpP (-1) n xs := by
  unfold mayF at h
  by_cases h0 : n < 0
  · rw [if_pos h0] at h; cases h
  · rw [if_neg h0] at h
    by_cases h1 : n > 1048576
    · rw [if_pos h1] at h; cases h
    · rw [if_neg h1] at h
      by_cases h2 : xs.length > 1048576
      · rw [if_pos h2] at h; cases h
      · rw [if_neg h2] at h
        exact ⟨by omega, by omega, by omega, (rises_iff _ _ _).1 h⟩

def RetNoR (w : World) (e : Ending) (w' : World) : Prop := e = .returned (.agg #[.slice none 0 0, .int .i64 0, .slice none 0 0, .int .i64 0, .slice none 0 0, .int .i64 0, .int .i64 1]) ∧ Below w.heap.size w w'

theorem rmay_is (xs : List Int) (n : Int) (v : Bool) (hv : mayF xs n = v) (hl : xs.length ≤ 9223372036854775807) : ∀ W a c, Row 0 W a xs → Calls Try.prog 29 #[.agg #[.slice a xs.length c, .int .i64 n]] W fun e w' => e = .returned (.bool v) ∧ Below W.heap.size W w' := fun W a c h => by
  have := rmay_any W a c xs n h hl
  rwa [hv] at this

/-- The three blocks that the reference's Fuse lays first. -/
def R3 (w : World) (aa ab : Option Addr) (la lb ca cb : Nat) (na nb : Int) : World :=
  ((w.alloc (.cells #[.slice aa la ca, .int .i64 na] 26)).alloc (.cells #[.slice ab lb cb, .int .i64 nb] 26)).alloc (.cells #[.slice none 0 0, .int .i64 0, .slice none 0 0, .int .i64 0, .slice none 0 0, .int .i64 0, .int .i64 0] 45)
theorem R3_facts (w : World) (aa ab : Option Addr) (la lb ca cb : Nat) (na nb : Int) :
    Blk (R3 w aa ab la lb ca cb na nb) w.heap.size [.slice aa la ca, .int .i64 na] 26 ∧ Blk (R3 w aa ab la lb ca cb na nb) (w.heap.size + 1) [.slice ab lb cb, .int .i64 nb] 26 ∧
    Blk (R3 w aa ab la lb ca cb na nb) (w.heap.size + 1 + 1) zero45 45 ∧ Below w.heap.size w (R3 w aa ab la lb ca cb na nb) := by
  refine ⟨?_, ?_, ?_, ?_⟩
  · exact ((Blk.made rfl _ _).alloc _).alloc _
  · exact (Blk.made (by simp) _ _).alloc _
  · exact Blk.made (by simp) zero45 45
  · exact (((Below.refl _ _).alloc (Nat.le_refl _) _).alloc (by simp) _).alloc (by simp <;> omega) _

theorem store9 {B : Nat} {w0 w : World} {F : Nat} (h : Below B w0 w) (hF : B ≤ F) (v0 v1 v2 v3 v4 v5 v6 : Value) :
    Below B w0 (((((((w.setCell ⟨F, 0, none⟩ v0).setCell ⟨F, 1, none⟩ v1).setCell ⟨F, 2, none⟩ v2).setCell ⟨F, 3, none⟩ v3).setCell ⟨F, 4, none⟩ v4).setCell ⟨F, 5, none⟩ v5).setCell ⟨F, 6, none⟩ v6) :=
  ((((((h.setCell hF _).setCell hF _).setCell hF _).setCell hF _).setCell hF _).setCell hF _).setCell hF _

set_option maxRecDepth 100000 in
set_option maxHeartbeats 4000000 in
theorem rfuse_no1 (w : World) (aa ab : Option Addr) (ca cb : Nat) (xs ys : List Int) (na nb : Int) (hx : Row 0 w aa xs) (hlx : xs.length ≤ 9223372036854775807) (hm : mayF xs na = false) :
    Calls Try.prog 26 #[.agg #[.slice aa xs.length ca, .int .i64 na], .agg #[.slice ab ys.length cb, .int .i64 nb]] w (RetNoR w) := by
  obtain ⟨q0, q1, q2, q5⟩ := R3_facts w aa ab xs.length ys.length ca cb na nb
  have HM := Lib.hid (rmay_is xs na false hm hlx)
  have hr := hx.keep (Nat.le_refl _) q5
  clear hm hx
  go_enter Try.func26, Try.ntmps26
  go_upto_region 1 with fail
  change Code.wp _ _ _ _ (R3 w aa ab xs.length ys.length ca cb na nb)
  generalize R3 w aa ab xs.length ys.length ca cb na nb = W5 at *
  have x0 := q0.cell 0 _ rfl
  have x1 := q0.cell 1 _ rfl
  go_wp2_with fail
  refine (HM.out _ _ _ hr).mono ?_
  rintro e w1 ⟨rfl, hb1⟩
  have p2 := q2.below hb1 q2.lt
  have t5 := q5.trans (hb1.mono q5.size)
  clear q0 q1 q2 q5 hr hb1 x0 x1
  have c0 := p2.cell 0 _ rfl
  have c1 := p2.cell 1 _ rfl
  have c2 := p2.cell 2 _ rfl
  have c3 := p2.cell 3 _ rfl
  have c4 := p2.cell 4 _ rfl
  have c5 := p2.cell 5 _ rfl
  have c6 := p2.cell 6 _ rfl
  have f0 := p2.free 0
  have f1 := p2.free 1
  have f2 := p2.free 2
  have f3 := p2.free 3
  have f4 := p2.free 4
  have f5 := p2.free 5
  have f6 := p2.free 6
  go_wp2_with fail
  refine bodyPost_ret (v := .agg #[.slice none 0 0, .int .i64 0, .slice none 0 0, .int .i64 0, .slice none 0 0, .int .i64 0, .int .i64 1]) (by simp [results, Try.results26, go_sem, c0, c1, c2, c3, c4, c5, c6]) rfl ⟨rfl, ?_⟩
  exact store9 t5 (by omega) _ _ _ _ _ _ _

set_option maxRecDepth 100000 in
set_option maxHeartbeats 4000000 in
theorem rfuse_no2 (w : World) (aa ab : Option Addr) (ca cb : Nat) (xs ys : List Int) (na nb : Int) (hx : Row 0 w aa xs) (hlx : xs.length ≤ 9223372036854775807) (hm : mayF xs na = true)
    (hy : Row 0 w ab ys) (hly : ys.length ≤ 9223372036854775807) (hm2 : mayF ys nb = false) :
    Calls Try.prog 26 #[.agg #[.slice aa xs.length ca, .int .i64 na], .agg #[.slice ab ys.length cb, .int .i64 nb]] w (RetNoR w) := by
  obtain ⟨q0, q1, q2, q5⟩ := R3_facts w aa ab xs.length ys.length ca cb na nb
  have HM := Lib.hid (rmay_is xs na true hm hlx)
  have HM2 := Lib.hid (rmay_is ys nb false hm2 hly)
  have hr := hx.keep (Nat.le_refl _) q5
  have hr2 := hy.keep (Nat.le_refl _) q5
  clear hm hx hm2 hy
  go_enter Try.func26, Try.ntmps26
  go_upto_region 1 with fail
  change Code.wp _ _ _ _ (R3 w aa ab xs.length ys.length ca cb na nb)
  generalize R3 w aa ab xs.length ys.length ca cb na nb = W5 at *
  have x0 := q0.cell 0 _ rfl
  have x1 := q0.cell 1 _ rfl
  go_wp2_with fail
  refine (HM.out _ _ _ hr).mono ?_
  rintro e w0 ⟨rfl, hb0⟩
  clear x0 x1
  have o1 := q1.below hb0 q1.lt
  have y0 := o1.cell 0 _ rfl
  have y1 := o1.cell 1 _ rfl
  go_wp2_with fail
  refine (HM2.out _ _ _ (hr2.below hb0)).mono ?_
  rintro e w1 ⟨rfl, hb1'⟩
  have hb1 := held_step hb0 hb1'
  have p2 := q2.below hb1 q2.lt
  have t5 := q5.trans (hb1.mono q5.size)
  clear q0 q1 q2 q5 hr hr2 hb0 hb1 hb1' o1 y0 y1
  have c0 := p2.cell 0 _ rfl
  have c1 := p2.cell 1 _ rfl
  have c2 := p2.cell 2 _ rfl
  have c3 := p2.cell 3 _ rfl
  have c4 := p2.cell 4 _ rfl
  have c5 := p2.cell 5 _ rfl
  have c6 := p2.cell 6 _ rfl
  have f0 := p2.free 0
  have f1 := p2.free 1
  have f2 := p2.free 2
  have f3 := p2.free 3
  have f4 := p2.free 4
  have f5 := p2.free 5
  have f6 := p2.free 6
  go_wp2_with fail
  refine bodyPost_ret (v := .agg #[.slice none 0 0, .int .i64 0, .slice none 0 0, .int .i64 0, .slice none 0 0, .int .i64 0, .int .i64 1]) (by simp [results, Try.results26, go_sem, c0, c1, c2, c3, c4, c5, c6]) rfl ⟨rfl, ?_⟩
  exact store9 t5 (by omega) _ _ _ _ _ _ _

set_option maxRecDepth 100000 in
set_option maxHeartbeats 4000000 in
theorem rfuse_no3 (w : World) (aa ab : Option Addr) (ca cb : Nat) (xs ys : List Int) (na nb : Int) (hx : Row 0 w aa xs) (hlx : xs.length ≤ 9223372036854775807) (hm : mayF xs na = true)
    (hy : Row 0 w ab ys) (hly : ys.length ≤ 9223372036854775807) (hm2 : mayF ys nb = true) (hne : xs.length ≠ ys.length) :
    Calls Try.prog 26 #[.agg #[.slice aa xs.length ca, .int .i64 na], .agg #[.slice ab ys.length cb, .int .i64 nb]] w (RetNoR w) := by
  obtain ⟨q0, q1, q2, q5⟩ := R3_facts w aa ab xs.length ys.length ca cb na nb
  have HM := Lib.hid (rmay_is xs na true hm hlx)
  have HM2 := Lib.hid (rmay_is ys nb true hm2 hly)
  have hr := hx.keep (Nat.le_refl _) q5
  have hr2 := hy.keep (Nat.le_refl _) q5
  have hne' : ((xs.length : Int) != (ys.length : Int)) = true := by simp; omega
  clear hm hx hm2 hy hne
  go_enter Try.func26, Try.ntmps26
  go_upto_region 1 with fail
  change Code.wp _ _ _ _ (R3 w aa ab xs.length ys.length ca cb na nb)
  generalize R3 w aa ab xs.length ys.length ca cb na nb = W5 at *
  have x0 := q0.cell 0 _ rfl
  have x1 := q0.cell 1 _ rfl
  go_wp2_with fail
  refine (HM.out _ _ _ hr).mono ?_
  rintro e w0 ⟨rfl, hb0⟩
  clear x0 x1
  have o1 := q1.below hb0 q1.lt
  have y0 := o1.cell 0 _ rfl
  have y1 := o1.cell 1 _ rfl
  go_wp2_with fail
  refine (HM2.out _ _ _ (hr2.below hb0)).mono ?_
  rintro e w1 ⟨rfl, hb1'⟩
  have hb1 := held_step hb0 hb1'
  have z1 := (q0.below hb1 q0.lt).cell 0 _ rfl
  have z2 := (q1.below hb1 q1.lt).cell 0 _ rfl
  have p2 := q2.below hb1 q2.lt
  have t5 := q5.trans (hb1.mono q5.size)
  clear q0 q1 q2 q5 hr hr2 hb0 hb1 hb1' o1 y0 y1
  have c0 := p2.cell 0 _ rfl
  have c1 := p2.cell 1 _ rfl
  have c2 := p2.cell 2 _ rfl
  have c3 := p2.cell 3 _ rfl
  have c4 := p2.cell 4 _ rfl
  have c5 := p2.cell 5 _ rfl
  have c6 := p2.cell 6 _ rfl
  have f0 := p2.free 0
  have f1 := p2.free 1
  have f2 := p2.free 2
  have f3 := p2.free 3
  have f4 := p2.free 4
  have f5 := p2.free 5
  have f6 := p2.free 6
  go_wp2_with fail
  refine bodyPost_ret (v := .agg #[.slice none 0 0, .int .i64 0, .slice none 0 0, .int .i64 0, .slice none 0 0, .int .i64 0, .int .i64 1]) (by simp [results, Try.results26, go_sem, c0, c1, c2, c3, c4, c5, c6]) rfl ⟨rfl, ?_⟩
  exact store9 t5 (by omega) _ _ _ _ _ _ _

end Go.Proofs.Ytdccpnaolcpohaa
