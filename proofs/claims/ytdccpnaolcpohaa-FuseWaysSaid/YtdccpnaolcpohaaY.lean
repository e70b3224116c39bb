/- fuse.Fuse: its refusals. -/
import Derived.Test.YtdccpnaolcpohaaX
namespace Go.Proofs.Ytdccpnaolcpohaa
open Go.RowKit

def nilMap : Value := .agg #[.slice none 0 0, .int .i64 0]
def RetNo (w : World) (e : Ending) (w' : World) : Prop := e = .returned (.tuple #[nilMap, nilMap, nilMap, .int .i64 1]) ∧ Below w.heap.size w w'

theorem may_is (xs : List Int) (n : Int) (v : Bool) (hv : mayF xs n = v) (hl : xs.length ≤ 9223372036854775807) : ∀ W a c, Row 0 W a xs → Calls Try.prog 16 #[.agg #[.slice a xs.length c, .int .i64 n]] W fun e w' => e = .returned (.bool v) ∧ Below W.heap.size W w' := fun W a c h => by
  have := may_any W a c xs n h hl
  rwa [hv] at this

/-- The five blocks that Fuse lays first. -/
def F5 (w : World) (aa ab : Option Addr) (la lb ca cb : Nat) (na nb : Int) : World :=
  ((((w.alloc (.cells #[.slice aa la ca, .int .i64 na] 26)).alloc (.cells #[.slice ab lb cb, .int .i64 nb] 26)).alloc (.cells #[.slice none 0 0, .int .i64 0] 26)).alloc (.cells #[.slice none 0 0, .int .i64 0] 26)).alloc (.cells #[.slice none 0 0, .int .i64 0] 26)

theorem F5_facts (w : World) (aa ab : Option Addr) (la lb ca cb : Nat) (na nb : Int) :
    Blk (F5 w aa ab la lb ca cb na nb) w.heap.size [.slice aa la ca, .int .i64 na] 26 ∧ Blk (F5 w aa ab la lb ca cb na nb) (w.heap.size + 1) [.slice ab lb cb, .int .i64 nb] 26 ∧
    Blk (F5 w aa ab la lb ca cb na nb) (w.heap.size + 1 + 1) [.slice none 0 0, .int .i64 0] 26 ∧ Blk (F5 w aa ab la lb ca cb na nb) (w.heap.size + 1 + 1 + 1) [.slice none 0 0, .int .i64 0] 26 ∧ Blk (F5 w aa ab la lb ca cb na nb) (w.heap.size + 1 + 1 + 1 + 1) [.slice none 0 0, .int .i64 0] 26 ∧
    Below w.heap.size w (F5 w aa ab la lb ca cb na nb) ∧ (F5 w aa ab la lb ca cb na nb).heap.size = w.heap.size + 5 := by
  refine ⟨?_, ?_, ?_, ?_, ?_, ?_, ?_⟩
  · exact ((((Blk.made rfl _ _).alloc _).alloc _).alloc _).alloc _
  · exact (((Blk.made (by simp) _ _).alloc _).alloc _).alloc _
  · exact ((Blk.made (by simp) _ _).alloc _).alloc _
  · exact (Blk.made (by simp) _ _).alloc _
  · exact Blk.made (by simp) [.slice none 0 0, .int .i64 0] 26
  · exact (((((Below.refl _ _).alloc (Nat.le_refl _) _).alloc (by simp) _).alloc (by simp <;> omega) _).alloc (by simp <;> omega) _).alloc (by simp <;> omega) _
  · simp [F5]

set_option maxRecDepth 100000 in
set_option maxHeartbeats 4000000 in
theorem fuse_no1 (w : World) (aa ab : Option Addr) (ca cb : Nat) (xs ys : List Int) (na nb : Int) (hx : Row 0 w aa xs) (hlx : xs.length ≤ 9223372036854775807) (hm : mayF xs na = false) :
    Calls Try.prog 25 #[.agg #[.slice aa xs.length ca, .int .i64 na], .agg #[.slice ab ys.length cb, .int .i64 nb]] w (RetNo w) := by
  obtain ⟨q0, q1, q2, q3, q4, q5, q6⟩ := F5_facts w aa ab xs.length ys.length ca cb na nb
  have HM := Lib.hid (may_is xs na false hm hlx)
  have hr := hx.keep (Nat.le_refl _) q5
  clear hm hx
  go_enter Try.func25, Try.ntmps25
  go_wp2_with fail
  change Calls _ _ _ (F5 w aa ab xs.length ys.length ca cb na nb) _
  generalize F5 w aa ab xs.length ys.length ca cb na nb = W5 at *
  refine (HM.out _ _ _ hr).mono ?_
  rintro e w1 ⟨rfl, hb1⟩
  have p2 := q2.below hb1 q2.lt
  have p3 := q3.below hb1 q3.lt
  have p4 := q4.below hb1 q4.lt
  have t5 := q5.trans (hb1.mono q5.size)
  have c20 := p2.cell 0 _ rfl
  have c21 := p2.cell 1 _ rfl
  have c30 := p3.cell 0 _ rfl
  have c31 := p3.cell 1 _ rfl
  have c40 := p4.cell 0 _ rfl
  have c41 := p4.cell 1 _ rfl
  have f20 := p2.free 0
  have f21 := p2.free 1
  have f30 := p3.free 0
  have f31 := p3.free 1
  have f40 := p4.free 0
  have f41 := p4.free 1
  clear q0 q1 q2 q3 q4 q5 hr hb1
  go_wp2_with fail
  go_region
  go_wp2
  refine bodyPost_ret (v := .tuple #[nilMap, nilMap, nilMap, .int .i64 1]) (by simp [results, Try.results25, go_sem, nilMap, c20, c21, c30, c31, c40, c41]) rfl ⟨rfl, ?_⟩
  exact ((((((t5.setCell (by simp <;> omega) _).setCell (by simp <;> omega) _).setCell (by simp <;> omega) _).setCell (by simp <;> omega) _).setCell (by simp <;> omega) _).setCell (by simp <;> omega) _).drew

set_option maxRecDepth 100000 in
set_option maxHeartbeats 4000000 in
theorem fuse_no2 (w : World) (aa ab : Option Addr) (ca cb : Nat) (xs ys : List Int) (na nb : Int) (hx : Row 0 w aa xs) (hlx : xs.length ≤ 9223372036854775807) (hm : mayF xs na = true)
    (hy : Row 0 w ab ys) (hly : ys.length ≤ 9223372036854775807) (hm2 : mayF ys nb = false) :
    Calls Try.prog 25 #[.agg #[.slice aa xs.length ca, .int .i64 na], .agg #[.slice ab ys.length cb, .int .i64 nb]] w (RetNo w) := by
  obtain ⟨q0, q1, q2, q3, q4, q5, q6⟩ := F5_facts w aa ab xs.length ys.length ca cb na nb
  have HM := Lib.hid (may_is xs na true hm hlx)
  have HM2 := Lib.hid (may_is ys nb false hm2 hly)
  have hr := hx.keep (Nat.le_refl _) q5
  have hr2 := hy.keep (Nat.le_refl _) q5
  clear hm hx hm2 hy
  go_enter Try.func25, Try.ntmps25
  go_wp2_with fail
  change Calls _ _ _ (F5 w aa ab xs.length ys.length ca cb na nb) _
  generalize F5 w aa ab xs.length ys.length ca cb na nb = W5 at *
  refine (HM.out _ _ _ hr).mono ?_
  rintro e w0 ⟨rfl, hb0⟩
  have o1 := q1.below hb0 q1.lt
  have c10 := o1.cell 0 _ rfl
  have c11 := o1.cell 1 _ rfl
  go_wp2_with fail
  refine (HM2.out _ _ _ (hr2.below hb0)).mono ?_
  rintro e w1 ⟨rfl, hb1'⟩
  have hb1 := held_step hb0 hb1'
  have p2 := q2.below hb1 q2.lt
  have p3 := q3.below hb1 q3.lt
  have p4 := q4.below hb1 q4.lt
  have t5 := q5.trans (hb1.mono q5.size)
  have c20 := p2.cell 0 _ rfl
  have c21 := p2.cell 1 _ rfl
  have c30 := p3.cell 0 _ rfl
  have c31 := p3.cell 1 _ rfl
  have c40 := p4.cell 0 _ rfl
  have c41 := p4.cell 1 _ rfl
  have f20 := p2.free 0
  have f21 := p2.free 1
  have f30 := p3.free 0
  have f31 := p3.free 1
  have f40 := p4.free 0
  have f41 := p4.free 1
  clear q0 q1 q2 q3 q4 q5 hr hb1
  go_wp2_with fail
  go_region
  go_wp2
  refine bodyPost_ret (v := .tuple #[nilMap, nilMap, nilMap, .int .i64 1]) (by simp [results, Try.results25, go_sem, nilMap, c20, c21, c30, c31, c40, c41]) rfl ⟨rfl, ?_⟩
  exact ((((((t5.setCell (by simp <;> omega) _).setCell (by simp <;> omega) _).setCell (by simp <;> omega) _).setCell (by simp <;> omega) _).setCell (by simp <;> omega) _).setCell (by simp <;> omega) _).drew

set_option maxRecDepth 100000 in
set_option maxHeartbeats 4000000 in
theorem fuse_no3 (w : World) (aa ab : Option Addr) (ca cb : Nat) (xs ys : List Int) (na nb : Int) (hx : Row 0 w aa xs) (hlx : xs.length ≤ 9223372036854775807) (hm : mayF xs na = true)
    (hy : Row 0 w ab ys) (hly : ys.length ≤ 9223372036854775807) (hm2 : mayF ys nb = true) (hne : xs.length ≠ ys.length) :
    Calls Try.prog 25 #[.agg #[.slice aa xs.length ca, .int .i64 na], .agg #[.slice ab ys.length cb, .int .i64 nb]] w (RetNo w) := by
  obtain ⟨q0, q1, q2, q3, q4, q5, q6⟩ := F5_facts w aa ab xs.length ys.length ca cb na nb
  have HM := Lib.hid (may_is xs na true hm hlx)
  have HM2 := Lib.hid (may_is ys nb true hm2 hly)
  have hr := hx.keep (Nat.le_refl _) q5
  have hr2 := hy.keep (Nat.le_refl _) q5
  have hne' : ((xs.length : Int) != (ys.length : Int)) = true := by simp; omega
  clear hm hx hm2 hy hne
  go_enter Try.func25, Try.ntmps25
  go_wp2_with fail
  change Calls _ _ _ (F5 w aa ab xs.length ys.length ca cb na nb) _
  generalize F5 w aa ab xs.length ys.length ca cb na nb = W5 at *
  refine (HM.out _ _ _ hr).mono ?_
  rintro e w0 ⟨rfl, hb0⟩
  have o1 := q1.below hb0 q1.lt
  have c10 := o1.cell 0 _ rfl
  have c11 := o1.cell 1 _ rfl
  go_wp2_with fail
  refine (HM2.out _ _ _ (hr2.below hb0)).mono ?_
  rintro e w1 ⟨rfl, hb1'⟩
  have hb1 := held_step hb0 hb1'
  have z1 := (q0.below hb1 q0.lt).cell 0 _ rfl
  have z2 := (q1.below hb1 q1.lt).cell 0 _ rfl
  have p2 := q2.below hb1 q2.lt
  have p3 := q3.below hb1 q3.lt
  have p4 := q4.below hb1 q4.lt
  have t5 := q5.trans (hb1.mono q5.size)
  have c20 := p2.cell 0 _ rfl
  have c21 := p2.cell 1 _ rfl
  have c30 := p3.cell 0 _ rfl
  have c31 := p3.cell 1 _ rfl
  have c40 := p4.cell 0 _ rfl
  have c41 := p4.cell 1 _ rfl
  have f20 := p2.free 0
  have f21 := p2.free 1
  have f30 := p3.free 0
  have f31 := p3.free 1
  have f40 := p4.free 0
  have f41 := p4.free 1
  clear q0 q1 q2 q3 q4 q5 hr hb1
  go_wp2_with fail
  go_region
  go_wp2
  refine bodyPost_ret (v := .tuple #[nilMap, nilMap, nilMap, .int .i64 1]) (by simp [results, Try.results25, go_sem, nilMap, c20, c21, c30, c31, c40, c41]) rfl ⟨rfl, ?_⟩
  exact ((((((t5.setCell (by simp <;> omega) _).setCell (by simp <;> omega) _).setCell (by simp <;> omega) _).setCell (by simp <;> omega) _).setCell (by simp <;> omega) _).setCell (by simp <;> omega) _).drew

end Go.Proofs.Ytdccpnaolcpohaa
