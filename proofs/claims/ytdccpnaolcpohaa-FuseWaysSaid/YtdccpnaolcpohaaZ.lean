/- fuse.Fuse: the walk where both may be. -/
import Derived.Test.YtdccpnaolcpohaaY
import Derived.Deep.DeepCutAuto
namespace Go.Proofs.Ytdccpnaolcpohaa
open Go.RowKit

def RetFuse (w : World) (s : FS) (e : Ending) (w' : World) : Prop :=
  ∃ ao aa ab co ca cb, e = .returned (.tuple #[.agg #[.slice ao s.o.length co, .int .i64 s.now], .agg #[.slice aa s.ta.length ca, .int .i64 s.now], .agg #[.slice ab s.tb.length cb, .int .i64 s.now], .int .i64 0]) ∧
    Row 0 w' ao s.o ∧ Row 0 w' aa s.ta ∧ Row 0 w' ab s.tb ∧ Below w.heap.size w w'

theorem held_alloc {W4 W : World} (h : Below W4.heap.size W4 W) (o : Obj) : Below W4.heap.size W4 (W.alloc o) := h.alloc h.size o

/-- What stands in memory at the rounds' heads: W is the first block of the call. -/
structure FMem (w wr : World) (W so ba bb p0 p1 sd : Nat) (aa ab : Option Addr) (lx ly ca cb na nb : Nat) (s : FS) : Prop where
  a : Blk wr W [.slice aa lx ca, .int .i64 na] 26
  b : Blk wr (W + 1) [.slice ab ly cb, .int .i64 nb] 26
  r0 : Blk wr (W + 1 + 1) [.slice none 0 0, .int .i64 0] 26
  r1 : Blk wr (W + 1 + 1 + 1) [.slice none 0 0, .int .i64 0] 26
  r2 : Blk wr (W + 1 + 1 + 1 + 1) [.slice none 0 0, .int .i64 0] 26
  o : Blk wr so (ints s.o) 3
  ta : Blk wr ba (ints s.ta) 3
  tb : Blk wr bb (ints s.tb) 3
  s0 : Blk wr p0 [.slice aa lx ca, .int .i64 na, .slice (some ⟨ba, 0, none⟩) na na] 63
  s1 : Blk wr p1 [.slice ab ly cb, .int .i64 nb, .slice (some ⟨bb, 0, none⟩) nb nb] 63
  sd : Blk wr sd [.pointer (some ⟨p0, 0, none⟩), .pointer (some ⟨p1, 0, none⟩)] 61
  bel : Below w.heap.size w wr
  n1 : so ≠ ba
  n2 : so ≠ bb
  n3 : ba ≠ bb
  l1 : w.heap.size ≤ so
  l2 : w.heap.size ≤ ba
  l3 : w.heap.size ≤ bb

theorem blk_ne {w : World} {b c : Nat} {vs us : List Value} {t u : TypeId} (h : Blk w b vs t) (h' : Blk w c us u) (ht : t ≠ u) : b ≠ c := by
  intro e; subst e
  unfold Blk at h h'
  rw [h] at h'
  simp at h'
  exact ht h'.2
theorem ints_set (l : List Int) (i : Nat) (x : Int) : (ints l).set i (.int .i64 x) = ints (l.set i x) := by simp [ints, List.map_set]
theorem ints_get (l : List Int) (i : Nat) (h : i < l.length) : (ints l)[i]? = some (.int .i64 (l.getD i 0)) := by simp [ints, List.getD, h]

section
variable {w wr : World} {W so ba bb p0 p1 sd : Nat} {aa ab : Option Addr} {lx ly ca cb na nb : Nat} {s : FS}
theorem FMem.below {w1 : World} (h : FMem w wr W so ba bb p0 p1 sd aa ab lx ly ca cb na nb s) (hb : Below wr.heap.size wr w1) : FMem w w1 W so ba bb p0 p1 sd aa ab lx ly ca cb na nb s :=
  ⟨h.a.below hb h.a.lt, h.b.below hb h.b.lt, h.r0.below hb h.r0.lt, h.r1.below hb h.r1.lt, h.r2.below hb h.r2.lt, h.o.below hb h.o.lt, h.ta.below hb h.ta.lt, h.tb.below hb h.tb.lt, h.s0.below hb h.s0.lt, h.s1.below hb h.s1.lt, h.sd.below hb h.sd.lt,
    h.bel.trans (hb.mono h.bel.size), h.n1, h.n2, h.n3, h.l1, h.l2, h.l3⟩
theorem FMem.setO (h : FMem w wr W so ba bb p0 p1 sd aa ab lx ly ca cb na nb s) (i : Nat) (x : Int) : FMem w (wr.setCell ⟨so, i, none⟩ (.int .i64 x)) W so ba bb p0 p1 sd aa ab lx ly ca cb na nb ⟨s.o.set i x, s.ta, s.tb, s.now⟩ :=
  ⟨h.a.set_other (blk_ne h.o h.a (by decide)) _, h.b.set_other (blk_ne h.o h.b (by decide)) _, h.r0.set_other (blk_ne h.o h.r0 (by decide)) _, h.r1.set_other (blk_ne h.o h.r1 (by decide)) _, h.r2.set_other (blk_ne h.o h.r2 (by decide)) _,
    by have := h.o.set i (.int .i64 x); rwa [ints_set] at this, h.ta.set_other h.n1 _, h.tb.set_other h.n2 _, h.s0.set_other (blk_ne h.o h.s0 (by decide)) _, h.s1.set_other (blk_ne h.o h.s1 (by decide)) _, h.sd.set_other (blk_ne h.o h.sd (by decide)) _,
    h.bel.setCell h.l1 _, h.n1, h.n2, h.n3, h.l1, h.l2, h.l3⟩
theorem FMem.setA (h : FMem w wr W so ba bb p0 p1 sd aa ab lx ly ca cb na nb s) (i : Nat) (x : Int) : FMem w (wr.setCell ⟨ba, i, none⟩ (.int .i64 x)) W so ba bb p0 p1 sd aa ab lx ly ca cb na nb ⟨s.o, s.ta.set i x, s.tb, s.now⟩ :=
  ⟨h.a.set_other (blk_ne h.ta h.a (by decide)) _, h.b.set_other (blk_ne h.ta h.b (by decide)) _, h.r0.set_other (blk_ne h.ta h.r0 (by decide)) _, h.r1.set_other (blk_ne h.ta h.r1 (by decide)) _, h.r2.set_other (blk_ne h.ta h.r2 (by decide)) _,
    h.o.set_other (fun e => h.n1 e.symm) _, by have := h.ta.set i (.int .i64 x); rwa [ints_set] at this, h.tb.set_other h.n3 _, h.s0.set_other (blk_ne h.ta h.s0 (by decide)) _, h.s1.set_other (blk_ne h.ta h.s1 (by decide)) _, h.sd.set_other (blk_ne h.ta h.sd (by decide)) _,
    h.bel.setCell h.l2 _, h.n1, h.n2, h.n3, h.l1, h.l2, h.l3⟩
theorem FMem.setB (h : FMem w wr W so ba bb p0 p1 sd aa ab lx ly ca cb na nb s) (i : Nat) (x : Int) : FMem w (wr.setCell ⟨bb, i, none⟩ (.int .i64 x)) W so ba bb p0 p1 sd aa ab lx ly ca cb na nb ⟨s.o, s.ta, s.tb.set i x, s.now⟩ :=
  ⟨h.a.set_other (blk_ne h.tb h.a (by decide)) _, h.b.set_other (blk_ne h.tb h.b (by decide)) _, h.r0.set_other (blk_ne h.tb h.r0 (by decide)) _, h.r1.set_other (blk_ne h.tb h.r1 (by decide)) _, h.r2.set_other (blk_ne h.tb h.r2 (by decide)) _,
    h.o.set_other (fun e => h.n2 e.symm) _, h.ta.set_other (fun e => h.n3 e.symm) _, by have := h.tb.set i (.int .i64 x); rwa [ints_set] at this, h.s0.set_other (blk_ne h.tb h.s0 (by decide)) _, h.s1.set_other (blk_ne h.tb h.s1 (by decide)) _, h.sd.set_other (blk_ne h.tb h.sd (by decide)) _,
    h.bel.setCell h.l3 _, h.n1, h.n2, h.n3, h.l1, h.l2, h.l3⟩
theorem FMem.drew (h : FMem w wr W so ba bb p0 p1 sd aa ab lx ly ca cb na nb s) : FMem w wr.drew W so ba bb p0 p1 sd aa ab lx ly ca cb na nb s := h.below (Below.refl _ _).drew
theorem FMem.now (h : FMem w wr W so ba bb p0 p1 sd aa ab lx ly ca cb na nb s) (m : Nat) : FMem w wr W so ba bb p0 p1 sd aa ab lx ly ca cb na nb ⟨s.o, s.ta, s.tb, m⟩ :=
  ⟨h.a, h.b, h.r0, h.r1, h.r2, h.o, h.ta, h.tb, h.s0, h.s1, h.sd, h.bel, h.n1, h.n2, h.n3, h.l1, h.l2, h.l3⟩
end

def mid (A B : List Int) (na nb : Nat) (g : Int) (s : FS) : Nat → FS
  | 0 => s
  | 1 => stepA A na g s
  | _ => stepB B nb g (stepA A na g s)
theorem cf48 (args : Array Value) (W : World) : Sem.run Try.prog (callFunc 48 args) W = .ok (.enter 48 args) W := by simp [go_sem]
theorem from_bound {xs : List Int} {n c : Nat} {g : Int} (h : c < cntF xs n g) : fromF xs g + c < n := by
  unfold cntF at h
  split at h
  · omega
  · have := runF_le xs n (fromF xs g); omega
theorem ownP_getD {xs : List Int} {n c : Nat} {g : Int} (h : c < cntF xs n g) : (ownP xs n g).getD c 0 = ((fromF xs g + c : Nat) : Int) := by
  simp [ownP, tab, List.getD, h, shift]

theorem FMem.start {w w2 X : World} {so ba bb p0 p1 sd : Nat} {aa ab : Option Addr} {lx ly ca cb na nb : Nat} {s : FS}
    (HP : Blk w2 w.heap.size [.slice aa lx ca, .int .i64 na] 26 ∧ Blk w2 (w.heap.size + 1) [.slice ab ly cb, .int .i64 nb] 26 ∧ Blk w2 (w.heap.size + 1 + 1) [.slice none 0 0, .int .i64 0] 26 ∧ Blk w2 (w.heap.size + 1 + 1 + 1) [.slice none 0 0, .int .i64 0] 26 ∧ Blk w2 (w.heap.size + 1 + 1 + 1 + 1) [.slice none 0 0, .int .i64 0] 26 ∧ Blk w2 so (ints s.o) 3 ∧ Below w.heap.size w w2)
    (hT : Below w2.heap.size w2 X) (hso : w.heap.size ≤ so) (hba : w2.heap.size ≤ ba) (hbb : w2.heap.size ≤ bb) (hab : ba ≠ bb)
    (ta : Blk X ba (ints s.ta) 3) (tb : Blk X bb (ints s.tb) 3) (s0 : Blk X p0 [.slice aa lx ca, .int .i64 na, .slice (some ⟨ba, 0, none⟩) na na] 63)
    (s1 : Blk X p1 [.slice ab ly cb, .int .i64 nb, .slice (some ⟨bb, 0, none⟩) nb nb] 63) (hsd : Blk X sd [.pointer (some ⟨p0, 0, none⟩), .pointer (some ⟨p1, 0, none⟩)] 61) :
    FMem w X w.heap.size so ba bb p0 p1 sd aa ab lx ly ca cb na nb s := by
  obtain ⟨h0, h1, h2, h3, h4, h5, h6⟩ := HP
  have hs := h5.lt
  exact ⟨h0.below hT h0.lt, h1.below hT h1.lt, h2.below hT h2.lt, h3.below hT h3.lt, h4.below hT h4.lt, h5.below hT h5.lt, ta, tb, s0, s1, hsd, h6.trans (hT.mono h6.size), by omega, by omega, hab, hso, by have := h6.size; omega, by have := h6.size; omega⟩

set_option maxRecDepth 100000 in
set_option maxHeartbeats 8000000 in
theorem fuse_yes (w : World) (aa ab : Option Addr) (ca cb : Nat) (xs ys : List Int) (na nb : Nat) (hx : Row 0 w aa xs) (hy : Row 0 w ab ys) (hlx : xs.length ≤ 4194304) (hna : na ≤ 1048576) (hnb : nb ≤ 1048576)
    (hm : mayF xs na = true) (hm2 : mayF ys nb = true) (hne : xs.length = ys.length) (hux : UpP (-1) na xs) (huy : UpP (-1) nb ys) :
    Calls Try.prog 25 #[.agg #[.slice aa xs.length ca, .int .i64 na], .agg #[.slice ab ys.length cb, .int .i64 nb]] w (RetFuse w (fuseS xs ys na nb (xs.length + 1))) := by
  obtain ⟨q0, q1, q2, q3, q4, q5, q6⟩ := F5_facts w aa ab xs.length ys.length ca cb na nb
  have HM := Lib.hid (may_is xs na true hm (by omega))
  have HM2 := Lib.hid (may_is ys nb true hm2 (by omega))
  have hr := hx.keep (Nat.le_refl _) q5
  have hr2 := hy.keep (Nat.le_refl _) q5
  have HX := Lib.hid (And.intro hx (And.intro hy (And.intro hux huy)))
  have hne' : ((xs.length : Int) != (ys.length : Int)) = false := by simp [hne]
  have HNE := Lib.hid hne
  have HGX := Lib.hid (fun W => gone_any W xs.length (by omega))
  have HGA := Lib.hid (fun W => gone_any W na (by omega))
  have HGB := Lib.hid (fun W => gone_any W nb (by omega))
  clear hm hx hm2 hy hne hux huy
  go_enter Try.func25, Try.ntmps25
  go_wp2_with fail
  change Calls _ _ _ (F5 w aa ab xs.length ys.length ca cb na nb) _
  generalize F5 w aa ab xs.length ys.length ca cb na nb = W5 at *
  refine (HM.out _ _ _ hr).mono ?_
  rintro e w0 ⟨rfl, hb0⟩
  have o1 := q1.below hb0 q1.lt
  have c10 := o1.cell 0 _ rfl
  have c11 := o1.cell 1 _ rfl
  go_wp2_with fail
  refine (HM2.out _ _ _ (hr2.below hb0)).mono ?_
  rintro e w1 ⟨rfl, hb1'⟩
  have hb1 := held_step hb0 hb1'
  have p0 := q0.below hb1 q0.lt
  have p1 := q1.below hb1 q1.lt
  have p2 := q2.below hb1 q2.lt
  have p3 := q3.below hb1 q3.lt
  have p4 := q4.below hb1 q4.lt
  have t5 := q5.trans (hb1.mono q5.size)
  have z1 := p0.cell 0 _ rfl
  have z2 := p1.cell 0 _ rfl
  clear q0 q1 q2 q3 q4 q5 hr hr2 hb0 hb1 hb1' o1 c10 c11 q6 HM HM2
  go_wp2_with fail
  refine (HGX.out _).mono ?_
  rintro e w2 ⟨rfl, gO, hb2, hs2⟩
  have hWo : w.heap.size + 1 + 1 + 1 + 1 < w1.heap.size := p4.lt
  have p0 := p0.below hb2 p0.lt
  have p1 := p1.below hb2 p1.lt
  have p2 := p2.below hb2 p2.lt
  have p3 := p3.below hb2 p3.lt
  have p4 := p4.below hb2 p4.lt
  have t5 := t5.trans (hb2.mono t5.size)
  clear z1 z2 hne' HGX
  generalize w1.heap.size = so at *
  have hso : so < w2.heap.size := gO.lt
  clear hb2 hs2
  go_upto_region 5 with fail
  go_cut [10] (fun s10 wx => ∃ ba bb p0 p1 sd : Nat, s10 = .slice (some ⟨sd, 0, none⟩) 2 2 ∧ FMem w wx w.heap.size so ba bb p0 p1 sd aa ab xs.length ys.length ca cb na nb (fuseS xs ys na nb 0))
  case first =>
    have x0 := p0.cell 0 _ rfl
    have x1 := p0.cell 1 _ rfl
    have y0 := p1.cell 0 _ rfl
    have y1 := p1.cell 1 _ rfl
    have HP := Lib.hid (And.intro p0 (And.intro p1 (And.intro p2 (And.intro p3 (And.intro p4 (And.intro gO t5))))))
    have l0 := p0.lt
    have l1 := p1.lt
    have HC : Hid (∀ w', Below w2.heap.size w2 w' → w'.cell? ⟨w.heap.size, 0, none⟩ = some (.slice aa xs.length ca) ∧ w'.cell? ⟨w.heap.size, 1, none⟩ = some (.int .i64 na) ∧
        w'.cell? ⟨w.heap.size + 1, 0, none⟩ = some (.slice ab ys.length cb) ∧ w'.cell? ⟨w.heap.size + 1, 1, none⟩ = some (.int .i64 nb)) := fun w' h =>
      ⟨(p0.below h p0.lt).cell 0 _ rfl, (p0.below h p0.lt).cell 1 _ rfl, (p1.below h p1.lt).cell 0 _ rfl, (p1.below h p1.lt).cell 1 _ rfl⟩
    clear p0 p1 p2 p3 p4 gO t5
    go_region_held3 (fun w' => Below w2.heap.size w2 w' ∧ w'.cell? ⟨w.heap.size, 0, none⟩ = some (.slice aa xs.length ca) ∧ w'.cell? ⟨w.heap.size, 1, none⟩ = some (.int .i64 na) ∧
        w'.cell? ⟨w.heap.size + 1, 0, none⟩ = some (.slice ab ys.length cb) ∧ w'.cell? ⟨w.heap.size + 1, 1, none⟩ = some (.int .i64 nb))
      (first
        | exact ⟨held_step hnow hbn, HC.out _ (held_step hnow hbn)⟩
        | exact ⟨(Below.refl _ _).drew, HC.out _ (Below.refl _ _).drew⟩
        | (refine ⟨held_alloc ?_ _, HC.out _ (held_alloc ?_ _)⟩ <;> (go_split_ands; assumption))
        | go_keep)
      (first
        | (go_at_call 47; have hnow : Below w2.heap.size w2 _ := (by go_split_ands; assumption); (with_reducible refine (HGA.out _).mono ?_); rintro e wa ⟨rfl, gA, hbn, hsA⟩; have hbA := hbn)
        | (go_at_call 47; have hnow : Below w2.heap.size w2 _ := (by go_split_ands; assumption); (with_reducible refine (HGB.out _).mono ?_); rintro e wb ⟨rfl, gB, hbn, hsB⟩))
    · go_wp2_with fail
      go_meet
      have sA : wa.heap.size = w2.heap.size + 1 := hsA
      have sB : wb.heap.size = w2.heap.size + 1 + 1 + 1 := by rw [hsB, World.size_alloc, sA]
      have gB' : Blk wb (w2.heap.size + 1 + 1) (ints (gones nb)) 3 := by have h := gB; rw [World.size_alloc, sA] at h; exact h
      have hlo : w.heap.size ≤ so := by omega
      refine ⟨w2.heap.size, w2.heap.size + 1 + 1, w2.heap.size + 1, w2.heap.size + 1 + 1 + 1, w2.heap.size + 1 + 1 + 1 + 1, rfl, FMem.start HP.out (held_alloc (held_alloc (held_step hnow hbn) _) _) hlo (Nat.le_refl _) (by omega) (by omega) ?_ ?_ ?_ ?_ ?_⟩
      · exact ((((show Blk wa w2.heap.size (ints (gones na)) 3 from gA).alloc _).below hbn (by rw [World.size_alloc]; omega)).alloc _).alloc _
      · exact (gB'.alloc _).alloc _
      · exact (((Blk.made (w := wa) sA.symm _ _).below hbn (by rw [World.size_alloc]; omega)).alloc _).alloc _
      · exact (Blk.made (w := wb) sB.symm _ _).alloc _
      · exact Blk.made (by rw [World.size_alloc, sB]) [.pointer (some ⟨w2.heap.size + 1, 0, none⟩), .pointer (some ⟨w2.heap.size + 1 + 1 + 1, 0, none⟩)] 61
    · go_wp2_with fail
      go_meet
      have sA : wa.heap.size = w2.heap.size + 1 := hsA
      have sB : wb.heap.size = w2.heap.size + 1 + 1 := by rw [hsB, sA]
      have gB' : Blk wb (w2.heap.size + 1) (ints (gones nb)) 3 := by have h := gB; rw [sA] at h; exact h
      have hlo : w.heap.size ≤ so := by omega
      refine ⟨w2.heap.size, w2.heap.size + 1, w2.heap.size + 1 + 1, w2.heap.size + 1 + 1 + 1, w2.heap.size + 1 + 1 + 1 + 1, rfl, FMem.start HP.out (held_alloc (held_alloc (held_alloc (held_step hnow hbn) _) _) _) hlo (Nat.le_refl _) (by omega) (by omega) ?_ ?_ ?_ ?_ ?_⟩
      · exact ((((show Blk wa w2.heap.size (ints (gones na)) 3 from gA).below hbn (by omega)).alloc _).alloc _).alloc _
      · exact ((gB'.alloc _).alloc _).alloc _
      · exact ((Blk.made (w := wb) sB.symm _ _).alloc _).alloc _
      · exact (Blk.made (by rw [World.size_alloc, sB]) _ _).alloc _
      · exact Blk.made (by rw [World.size_alloc, World.size_alloc, sB]) [.pointer (some ⟨w2.heap.size + 1 + 1, 0, none⟩), .pointer (some ⟨w2.heap.size + 1 + 1 + 1, 0, none⟩)] 61
    · go_wp2_with fail
      go_meet
      have sA : wa.heap.size = w2.heap.size + 1 := hsA
      have sB : wb.heap.size = w2.heap.size + 1 + 1 := by rw [hsB, sA]
      have gB' : Blk wb (w2.heap.size + 1) (ints (gones nb)) 3 := by have h := gB; rw [sA] at h; exact h
      have hlo : w.heap.size ≤ so := by omega
      refine ⟨w2.heap.size, w2.heap.size + 1, w2.heap.size + 1 + 1 + 1, w2.heap.size + 1 + 1, w2.heap.size + 1 + 1 + 1 + 1, rfl, FMem.start HP.out (held_alloc (held_alloc (held_alloc (held_step hnow hbn) _) _) _) hlo (Nat.le_refl _) (by omega) (by omega) ?_ ?_ ?_ ?_ ?_⟩
      · exact ((((show Blk wa w2.heap.size (ints (gones na)) 3 from gA).below hbn (by omega)).alloc _).alloc _).alloc _
      · exact ((gB'.alloc _).alloc _).alloc _
      · exact (Blk.made (by rw [World.size_alloc, sB]) _ _).alloc _
      · exact ((Blk.made (w := wb) sB.symm _ _).alloc _).alloc _
      · exact Blk.made (by rw [World.size_alloc, World.size_alloc, sB]) [.pointer (some ⟨w2.heap.size + 1 + 1 + 1, 0, none⟩), .pointer (some ⟨w2.heap.size + 1 + 1, 0, none⟩)] 61
  case rest =>
    clear p0 p1 p2 p3 p4 gO t5
    obtain ⟨ba, bb, pA, pB, sd, rfl, hM⟩ := hcut
    go_wp2_with fail
    go_loopg [11, 12] (xs.length + 1) (fun G vn vg wr => ∃ k : Nat, k ≤ xs.length + 1 ∧ G = xs.length + 1 - k ∧ vn = .int .i64 (fuseS xs ys na nb k).now ∧ vg = .int .i64 ((k : Int) - 1) ∧ FMem w wr w.heap.size so ba bb pA pB sd aa ab xs.length ys.length ca cb na nb (fuseS xs ys na nb k))
    case atStart => exact ⟨0, by omega, rfl, rfl, rfl, hM⟩
    case round =>
      obtain ⟨k, hk, rfl, rfl, rfl, hm⟩ := hrel
      have HS := Lib.hid (show fuseS xs ys na nb (k + 1) = stepB ys nb ((k : Int) - 1) (stepA xs na ((k : Int) - 1) (stepO xs ys ((k : Int) - 1) (fuseS xs ys na nb k))) from rfl)
      have HLEN := Lib.hid (fuseS_len xs ys na nb k)
      have hnow : (fuseS xs ys na nb k).now ≤ 9000000000000 := by
        have h1 := fuseS_now xs ys na nb k
        have h2 : k * (na + nb + 1) ≤ 4194305 * 2097153 := Nat.mul_le_mul (by omega) (by omega)
        omega
      generalize hse : fuseS xs ys na nb k = s at *
      have HSE := Lib.hid hse
      clear hse
      by_cases hlt : k < xs.length + 1
      ·
        -- <<
        have hg1 : ((k : Int) - 1) < (xs.length : Int) := by omega
        have hg0 : (-1 : Int) ≤ ((k : Int) - 1) := by omega
        generalize hgk : ((k : Int) - 1) = g at *
        have HGK := Lib.hid hgk
        clear hgk
        have ca0 := hm.a.cell 0 _ rfl
        have cb0 := hm.b.cell 0 _ rfl
        have HM := Lib.hid hm
        go_upto_region 10 with fail
        go_cut [78] (fun v wx => v = .bool (both xs ys g) ∧ wr = wx)
        case first =>
          -- <<
          by_cases hgn : g < 0
          · have hb0 : both xs ys g = false := by simp [both]; omega
            have hgn' : ¬ (g ≥ 0) := by omega
            have HB := Lib.hid hb0.symm
            clear hb0
            go_wp2_with fail
            go_meet
            exact ⟨congrArg _ HB.out, rfl⟩
          · obtain ⟨j, rfl⟩ := Int.eq_ofNat_of_zero_le (show 0 ≤ g by omega)
            have hj : j < xs.length := by omega
            have hj2 : j < ys.length := by have := HNE.out; omega
            obtain ⟨bA, oA, rfl, -, -, hcA⟩ := (HX.out.1.keep (Nat.le_refl _) HM.out.bel).at j hj
            obtain ⟨bB, oB, rfl, -, -, hcB⟩ := (HX.out.2.1.keep (Nat.le_refl _) HM.out.bel).at j hj2
            have hbo : both xs ys (j : Int) = decide (0 ≤ xs.getD j 0 ∧ 0 ≤ ys.getD j 0) := by simp [both]
            have HNE' := Lib.hid HNE.out
            generalize xs.getD j 0 = xv at *
            generalize ys.getD j 0 = yv at *
            have hgj : (0 : Int) ≤ (j : Int) := by omega
            by_cases hxv : 0 ≤ xv
            · by_cases hyv : 0 ≤ yv
              · have HB := Lib.hid (hbo.trans (decide_eq_true (And.intro hxv hyv))).symm
                clear hbo
                go_wp2_with fail
                go_meet
                exact ⟨congrArg _ HB.out, rfl⟩
              · have HB := Lib.hid (hbo.trans (decide_eq_false (fun h => hyv h.2))).symm
                clear hbo
                have hyv' : yv < 0 := by omega
                go_wp2_with fail
                go_meet
                exact ⟨congrArg _ HB.out, rfl⟩
            · have HB := Lib.hid (hbo.trans (decide_eq_false (fun h => hxv h.1))).symm
              clear hbo
              have hxv' : xv < 0 := by omega
              go_wp2_with fail
              go_meet
              exact ⟨congrArg _ HB.out, rfl⟩
          -- >>
        case rest =>
          obtain ⟨rfl, rfl⟩ := hcut
          go_upto_if 78 with fail
          go_cut [11] (fun v wx => v = .int .i64 (stepO xs ys g s).now ∧ FMem w wx w.heap.size so ba bb pA pB sd aa ab xs.length ys.length ca cb na nb (stepO xs ys g s))
          case first =>
            -- <<
            cases hbo : both xs ys g with
            | false =>
              have HST := Lib.hid (show stepO xs ys g s = s by rw [stepO, hbo]; rfl)
              clear hbo
              go_wp2_with fail
              go_meet
              rw [HST.out]
              exact ⟨rfl, HM.out⟩
            | true =>
              have HST := Lib.hid (show stepO xs ys g s = ⟨s.o.set g.toNat s.now, s.ta.set (xs.getD g.toNat 0).toNat s.now, s.tb.set (ys.getD g.toNat 0).toNat s.now, s.now + 1⟩ by rw [stepO, hbo]; rfl)
              have hbd : 0 ≤ g ∧ 0 ≤ xs.getD g.toNat 0 ∧ 0 ≤ ys.getD g.toNat 0 := by simpa [both] using hbo
              clear hbo
              obtain ⟨hgp, hxp, hyp⟩ := hbd
              obtain ⟨j, rfl⟩ := Int.eq_ofNat_of_zero_le hgp
              simp only [Int.toNat_natCast] at HST hxp hyp
              have hj : j < xs.length := by omega
              have hj2 : j < ys.length := by have := HNE.out; omega
              have hux := (HX.out.2.2.1.1 j _ (show xs[j]? = some (xs.getD j 0) by simp [List.getD, hj]) (by omega)).2
              have huy := (HX.out.2.2.2.1 j _ (show ys[j]? = some (ys.getD j 0) by simp [List.getD, hj2]) (by omega)).2
              have hso := HM.out.o.cell j _ (ints_get s.o j (by rw [HLEN.out.1]; exact hj))
              have hsf := HM.out.o.free j
              obtain ⟨bA, oA, eA, -, hbA, hcA⟩ := HX.out.1.at j hj
              obtain ⟨bB, oB, eB, -, hbB, hcB⟩ := HX.out.2.1.at j hj2
              have EA := Lib.hid eA
              have EB := Lib.hid eB
              have HCA := Lib.hid hcA
              have HCB := Lib.hid hcB
              clear eA eB hcA hcB
              generalize xs.getD j 0 = xv at *
              generalize ys.getD j 0 = yv at *
              obtain ⟨xn, rfl⟩ := Int.eq_ofNat_of_zero_le hxp
              obtain ⟨yn, rfl⟩ := Int.eq_ofNat_of_zero_le hyp
              go_upto_region 12 with fail
              have HM1 := Lib.hid (HM.out.setO j s.now)
              clear HM hsf hso ca0 cb0
              generalize wr.setCell ⟨so, j, none⟩ (.int .i64 s.now) = W1 at *
              have hcA := (HM1.out.bel.cell (p := ⟨bA, oA + j, none⟩) hbA).trans HCA.out
              have hcB := (HM1.out.bel.cell (p := ⟨bB, oB + j, none⟩) hbB).trans HCB.out
              have q1 := HM1.out.a.cell 0 _ rfl
              have q2 := HM1.out.b.cell 0 _ rfl
              have q3 := HM1.out.s0.cell 2 _ rfl
              have q4 := HM1.out.s1.cell 2 _ rfl
              have q5 := HM1.out.sd.cell 0 _ rfl
              have q6 := HM1.out.sd.cell 1 _ rfl
              have hxl : xn < na := by omega
              have hyl : yn < nb := by omega
              have q7 := HM1.out.ta.cell xn _ (ints_get _ xn (by rw [show s.ta.length = na from HLEN.out.2.1]; exact hxl))
              have q8 := HM1.out.tb.cell yn _ (ints_get _ yn (by rw [show s.tb.length = nb from HLEN.out.2.2]; exact hyl))
              have f7 := HM1.out.ta.free xn
              have f8 := HM1.out.tb.free yn
              have n1 : ba ≠ bA := by have := HM1.out.l2; omega
              have n2 : bb ≠ bA := by have := HM1.out.l3; omega
              have n3 : ba ≠ bB := by have := HM1.out.l2; omega
              have n4 : bb ≠ bB := by have := HM1.out.l3; omega
              have n5 := HM1.out.n3
              have n5' : bb ≠ ba := Ne.symm n5
              have n6 := blk_ne HM1.out.ta HM1.out.a (by decide)
              have n7 := blk_ne HM1.out.ta HM1.out.b (by decide)
              have n8 := blk_ne HM1.out.tb HM1.out.a (by decide)
              have n9 := blk_ne HM1.out.tb HM1.out.b (by decide)
              have n10 := blk_ne HM1.out.ta HM1.out.s0 (by decide)
              have n11 := blk_ne HM1.out.ta HM1.out.s1 (by decide)
              have n12 := blk_ne HM1.out.tb HM1.out.s0 (by decide)
              have n13 := blk_ne HM1.out.tb HM1.out.s1 (by decide)
              have n14 := blk_ne HM1.out.ta HM1.out.sd (by decide)
              have n15 := blk_ne HM1.out.tb HM1.out.sd (by decide)
              have EA' := EA.out
              have EB' := EB.out
              subst EA' EB'
              go_region_held3 (fun w' => w'.cell? ⟨w.heap.size, 0, none⟩ = some (.slice (some ⟨bA, oA, none⟩) xs.length ca) ∧ w'.cell? ⟨w.heap.size + 1, 0, none⟩ = some (.slice (some ⟨bB, oB, none⟩) ys.length cb) ∧
                  w'.cell? ⟨bA, oA + j, none⟩ = some (.int .i64 xn) ∧ w'.cell? ⟨bB, oB + j, none⟩ = some (.int .i64 yn) ∧
                  w'.cell? ⟨pA, 2, none⟩ = some (.slice (some ⟨ba, 0, none⟩) na na) ∧ w'.cell? ⟨pB, 2, none⟩ = some (.slice (some ⟨bb, 0, none⟩) nb nb) ∧
                  w'.cell? ⟨sd, 0, none⟩ = some (.pointer (some ⟨pA, 0, none⟩)) ∧ w'.cell? ⟨sd, 1, none⟩ = some (.pointer (some ⟨pB, 0, none⟩))) (go_keep) (fail)
              all_goals
                go_wp2_with fail
                go_meet
                rw [HST.out]
                refine ⟨by simp, ?_⟩
                simp only [Int.toNat_natCast]
                first
                  | with_reducible exact (((HM1.out.setA xn s.now).setB yn s.now).now _).drew
                  | with_reducible exact (((HM1.out.setB yn s.now).setA xn s.now).now _).drew
            -- >>
          case rest =>
            obtain ⟨rfl, hm⟩ := hcut
            clear ca0 cb0 HM
            have HLEN := Lib.hid (stepO_len (B := ys) (g := g) HLEN.out)
            have hnow := Nat.le_trans (stepO_now xs ys g s) (Nat.succ_le_succ hnow)
            generalize stepO xs ys g s = s1 at *
            go_wp2_with fail
            go_loopg [11, 113] 2 (fun G vn vi wr => ∃ (i : Nat) (t : FS), i ≤ 2 ∧ G = 2 - i ∧ Hid (t = mid xs ys na nb g s1 i) ∧ vi = .int .i64 i ∧ vn = .int .i64 t.now ∧ FMem w wr w.heap.size so ba bb pA pB sd aa ab xs.length ys.length ca cb na nb t)
            case atStart => exact ⟨0, s1, by omega, rfl, rfl, rfl, rfl, hm⟩
            case round =>
              clear hm
              obtain ⟨i, t, hi, rfl, HT, rfl, rfl, hm⟩ := hrel
              have hi3 : i = 0 ∨ i = 1 ∨ i = 2 := by omega
              rcases hi3 with rfl | rfl | rfl
              · have HT := Lib.hid (show t = s1 from HT.out)
                have htn : t.now ≤ 9000000000001 := by rw [HT.out]; exact hnow
                have HLT := Lib.hid (show t.ta.length = na by rw [HT.out]; exact (HLEN.out).2.1)
                have c0 := hm.sd.cell 0 _ rfl
                have hcf := cf48
                have HO := Lib.hid (own_any wr pA aa ca xs na _ g (HX.out.1.keep (Nat.le_refl _) hm.bel) hm.s0 (by have := HNE.out; omega) (by omega) hg0 (by have := HNE.out; omega) HX.out.2.2.1)
                have HB := Lib.hid (fun c (h : c < cntF xs na g) => from_bound h)
                have HG := Lib.hid (fun c (h : c < cntF xs na g) => ownP_getD h)
                have HPL := Lib.hid (ownP_length xs na g)
                have HSTEP := Lib.hid (show ∀ t : FS, stepA xs na g t = ⟨t.o, plc t.ta (fromF xs g) t.now (cntF xs na g), t.tb, t.now + cntF xs na g⟩ from fun _ => rfl)
                have hcl := cntF_le xs na g
                generalize cntF xs na g = cn at *
                generalize ownP xs na g = L at *
                generalize fromF xs g = fr at *
                have HM := Lib.hid hm
                clear hm
                go_wp2_with (go_at_call 48; (with_reducible refine HO.out.mono ?_); rintro e wn ⟨aO, cO, rfl, hrow, hbn⟩)
                clear HO c0 hcf
                have hmn := HM.out.below hbn
                have hbB := HM.out.ta.lt
                clear HM hbn
                generalize wr.heap.size = B at *
                go_loopg [11, 123] cn (fun G vn vc wi => ∃ c : Nat, Hid (c ≤ cn) ∧ G = cn - c ∧ vc = .int .i64 c ∧ vn = .int .i64 ((t.now + c : Nat) : Int) ∧ Row B wi aO L ∧ FMem w wi w.heap.size so ba bb pA pB sd aa ab xs.length ys.length ca cb na nb ⟨t.o, plc t.ta fr t.now c, t.tb, t.now + c⟩)
                case atStart => exact ⟨0, Nat.zero_le _, rfl, rfl, rfl, hrow, hmn⟩
                case round =>
                  clear hrow hmn
                  obtain ⟨c, hc, rfl, rfl, rfl, hrow, hmi⟩ := hrel
                  have hcn := hc.out
                  by_cases hlt : c < cn
                  · have HPS := Lib.hid (show plc t.ta fr t.now (c + 1) = (plc t.ta fr t.now c).set (fr + c) ((t.now + c : Nat) : Int) from rfl)
                    have hqn := HB.out c hlt
                    have hql : (plc t.ta fr t.now c).length = na := (plc_length _ _ _ _).trans HLT.out
                    have hgc := HG.out c hlt
                    obtain ⟨bO, oO, rfl, -, -, hcO⟩ := hrow.at c (by rw [HPL.out]; exact hlt)
                    rw [hgc] at hcO
                    clear hgc
                    generalize fr + c = q at *
                    generalize plc t.ta fr t.now c = T at *
                    generalize hmc : t.now + c = m at *
                    have HMC := Lib.hid hmc
                    have hmb : m ≤ 9000010000000 := by omega
                    clear hmc
                    have k0 := hmi.s0.cell 2 _ rfl
                    have k1 := hmi.ta.cell q _ (ints_get _ q (by show q < T.length; omega))
                    have f1 := hmi.ta.free q
                    have HMI := Lib.hid hmi
                    have HRO := Lib.hid (hrow.set (p := ⟨ba, q, none⟩) hbB (.int .i64 m))
                    clear hmi hrow hql
                    go_wp2_with fail
                    go_roundg (cn - (c + 1))
                    case measure => omega
                    case rel =>
                      have e1 : t.now + (c + 1) = m + 1 := by have := HMC.out; omega
                      refine ⟨c + 1, hlt, rfl, by go_num, by rw [e1]; go_num, HRO.out, ?_⟩
                      rw [HPS.out, e1]
                      with_reducible exact (HMI.out.setA q m).now (m + 1)
                  · have hcc : c = cn := by omega
                    clear hlt hcn hc
                    have HMI := Lib.hid hmi
                    clear hmi hrow
                    go_wp2_with fail
                    go_roundg (2 - 1)
                    case measure => omega
                    case rel => exact ⟨1, _, by omega, rfl, by unfold Hid; show _ = stepA xs na g s1; rw [← HT.out, HSTEP.out t, hcc], by go_num, rfl, HMI.out⟩
              · have HT := Lib.hid (show t = (stepA xs na g s1) from HT.out)
                have htn : t.now ≤ 9000001048577 := by rw [HT.out]; exact (by have := cntF_le xs na g; simp only [stepA]; omega)
                have HLT := Lib.hid (show t.tb.length = nb by rw [HT.out]; exact (stepA_len (B := xs) (g := g) HLEN.out).2.2)
                have c0 := hm.sd.cell 1 _ rfl
                have hcf := cf48
                have HO := Lib.hid (own_any wr pB ab cb ys nb _ g (HX.out.2.1.keep (Nat.le_refl _) hm.bel) hm.s1 (by have := HNE.out; omega) (by omega) hg0 (by have := HNE.out; omega) HX.out.2.2.2)
                have HB := Lib.hid (fun c (h : c < cntF ys nb g) => from_bound h)
                have HG := Lib.hid (fun c (h : c < cntF ys nb g) => ownP_getD h)
                have HPL := Lib.hid (ownP_length ys nb g)
                have HSTEP := Lib.hid (show ∀ t : FS, stepB ys nb g t = ⟨t.o, t.ta, plc t.tb (fromF ys g) t.now (cntF ys nb g), t.now + cntF ys nb g⟩ from fun _ => rfl)
                have hcl := cntF_le ys nb g
                generalize cntF ys nb g = cn at *
                generalize ownP ys nb g = L at *
                generalize fromF ys g = fr at *
                have HM := Lib.hid hm
                clear hm
                go_wp2_with (go_at_call 48; (with_reducible refine HO.out.mono ?_); rintro e wn ⟨aO, cO, rfl, hrow, hbn⟩)
                clear HO c0 hcf
                have hmn := HM.out.below hbn
                have hbB := HM.out.tb.lt
                clear HM hbn
                generalize wr.heap.size = B at *
                go_loopg [11, 123] cn (fun G vn vc wi => ∃ c : Nat, Hid (c ≤ cn) ∧ G = cn - c ∧ vc = .int .i64 c ∧ vn = .int .i64 ((t.now + c : Nat) : Int) ∧ Row B wi aO L ∧ FMem w wi w.heap.size so ba bb pA pB sd aa ab xs.length ys.length ca cb na nb ⟨t.o, t.ta, plc t.tb fr t.now c, t.now + c⟩)
                case atStart => exact ⟨0, Nat.zero_le _, rfl, rfl, rfl, hrow, hmn⟩
                case round =>
                  clear hrow hmn
                  obtain ⟨c, hc, rfl, rfl, rfl, hrow, hmi⟩ := hrel
                  have hcn := hc.out
                  by_cases hlt : c < cn
                  · have HPS := Lib.hid (show plc t.tb fr t.now (c + 1) = (plc t.tb fr t.now c).set (fr + c) ((t.now + c : Nat) : Int) from rfl)
                    have hqn := HB.out c hlt
                    have hql : (plc t.tb fr t.now c).length = nb := (plc_length _ _ _ _).trans HLT.out
                    have hgc := HG.out c hlt
                    obtain ⟨bO, oO, rfl, -, -, hcO⟩ := hrow.at c (by rw [HPL.out]; exact hlt)
                    rw [hgc] at hcO
                    clear hgc
                    generalize fr + c = q at *
                    generalize plc t.tb fr t.now c = T at *
                    generalize hmc : t.now + c = m at *
                    have HMC := Lib.hid hmc
                    have hmb : m ≤ 9000010000000 := by omega
                    clear hmc
                    have k0 := hmi.s1.cell 2 _ rfl
                    have k1 := hmi.tb.cell q _ (ints_get _ q (by show q < T.length; omega))
                    have f1 := hmi.tb.free q
                    have HMI := Lib.hid hmi
                    have HRO := Lib.hid (hrow.set (p := ⟨bb, q, none⟩) hbB (.int .i64 m))
                    clear hmi hrow hql
                    go_wp2_with fail
                    go_roundg (cn - (c + 1))
                    case measure => omega
                    case rel =>
                      have e1 : t.now + (c + 1) = m + 1 := by have := HMC.out; omega
                      refine ⟨c + 1, hlt, rfl, by go_num, by rw [e1]; go_num, HRO.out, ?_⟩
                      rw [HPS.out, e1]
                      with_reducible exact (HMI.out.setB q m).now (m + 1)
                  · have hcc : c = cn := by omega
                    clear hlt hcn hc
                    have HMI := Lib.hid hmi
                    clear hmi hrow
                    go_wp2_with fail
                    go_roundg (2 - 2)
                    case measure => omega
                    case rel => exact ⟨2, _, by omega, rfl, by unfold Hid; show _ = stepB ys nb g (stepA xs na g s1); rw [← HT.out, HSTEP.out t, hcc], by go_num, rfl, HMI.out⟩
              · have HT := Lib.hid (show t = stepB ys nb g (stepA xs na g s1) from HT.out)
                have hgk := HGK.out
                have hkb : g < 4194305 := by omega
                have HM := Lib.hid hm
                clear hm hgk
                go_wp2_with fail
                go_roundg (xs.length + 1 - (k + 1))
                case measure => omega
                case rel =>
                  have e1 : t = fuseS xs ys na nb (k + 1) := by rw [HS.out]; exact HT.out
                  refine ⟨k + 1, by omega, rfl, by rw [e1], by have := HGK.out; go_num, ?_⟩
                  rw [← e1]; exact HM.out
        -- >>
      · have hkk : k = xs.length + 1 := by omega
        have HSE := Lib.hid (show s = fuseS xs ys na nb (xs.length + 1) by rw [← HSE.out, hkk])
        have hge : ¬ ((k : Int) - 1 < (xs.length : Int)) := by omega
        clear hlt
        go_upto_region 25 with fail
        have HMD := Lib.hid hm
        have c20 := hm.r0.cell 0 _ rfl
        have c21 := hm.r0.cell 1 _ rfl
        have c30 := hm.r1.cell 0 _ rfl
        have c31 := hm.r1.cell 1 _ rfl
        have c40 := hm.r2.cell 0 _ rfl
        have c41 := hm.r2.cell 1 _ rfl
        have f20 := hm.r0.free 0
        have f21 := hm.r0.free 1
        have f30 := hm.r1.free 0
        have f31 := hm.r1.free 1
        have f40 := hm.r2.free 0
        have f41 := hm.r2.free 1
        have q3 := hm.s0.cell 2 _ rfl
        have q4 := hm.s1.cell 2 _ rfl
        have q5 := hm.sd.cell 0 _ rfl
        have q6 := hm.sd.cell 1 _ rfl
        have n1 := blk_ne hm.r0 hm.s0 (by decide)
        have n2 := blk_ne hm.r1 hm.s0 (by decide)
        have n3 := blk_ne hm.r2 hm.s0 (by decide)
        have n4 := blk_ne hm.r0 hm.s1 (by decide)
        have n5 := blk_ne hm.r1 hm.s1 (by decide)
        have n6 := blk_ne hm.r2 hm.s1 (by decide)
        have n7 := blk_ne hm.r0 hm.sd (by decide)
        have n8 := blk_ne hm.r1 hm.sd (by decide)
        have n9 := blk_ne hm.r2 hm.sd (by decide)
        clear hm
        go_region_held3 (fun w' => w'.cell? ⟨pA, 2, none⟩ = some (.slice (some ⟨ba, 0, none⟩) na na) ∧ w'.cell? ⟨pB, 2, none⟩ = some (.slice (some ⟨bb, 0, none⟩) nb nb) ∧
                  w'.cell? ⟨sd, 0, none⟩ = some (.pointer (some ⟨pA, 0, none⟩)) ∧ w'.cell? ⟨sd, 1, none⟩ = some (.pointer (some ⟨pB, 0, none⟩))) (go_keep) (fail)
        all_goals go_wp2_with fail
        all_goals refine bodyPost_ret (v := .tuple #[.agg #[.slice (some ⟨so, 0, none⟩) xs.length xs.length, .int .i64 s.now], .agg #[.slice (some ⟨ba, 0, none⟩) na na, .int .i64 s.now], .agg #[.slice (some ⟨bb, 0, none⟩) nb nb, .int .i64 s.now], .int .i64 0]) (by simp [results, Try.results25, go_sem, c20, c21, c30, c31, c40, c41]) rfl ?_
        all_goals
          rw [← HSE.out]
          obtain ⟨L1, L2, L3⟩ := HLEN.out
          have r := HMD.out
          have o1 := r.l1
          have o2 := r.l2
          have o3 := r.l3
          have m1 := blk_ne r.r0 r.o (by decide)
          have m2 := blk_ne r.r1 r.o (by decide)
          have m3 := blk_ne r.r2 r.o (by decide)
          have m4 := blk_ne r.r0 r.ta (by decide)
          have m5 := blk_ne r.r1 r.ta (by decide)
          have m6 := blk_ne r.r2 r.ta (by decide)
          have m7 := blk_ne r.r0 r.tb (by decide)
          have m8 := blk_ne r.r1 r.tb (by decide)
          have m9 := blk_ne r.r2 r.tb (by decide)
          refine ⟨_, _, _, xs.length, na, nb, by rw [L1, L2, L3], Row.of_blk (rest := []) (t := 3) ?_ (Nat.zero_le _), Row.of_blk (rest := []) (t := 3) ?_ (Nat.zero_le _), Row.of_blk (rest := []) (t := 3) ?_ (Nat.zero_le _), ?_⟩
          · rw [List.append_nil]
            exact ((((((r.o.set_other m1 _).set_other m1 _).set_other m2 _).set_other m2 _).set_other m3 _).set_other m3 _).drew
          · rw [List.append_nil]
            exact ((((((r.ta.set_other m4 _).set_other m4 _).set_other m5 _).set_other m5 _).set_other m6 _).set_other m6 _).drew
          · rw [List.append_nil]
            exact ((((((r.tb.set_other m7 _).set_other m7 _).set_other m8 _).set_other m8 _).set_other m9 _).set_other m9 _).drew
          · exact ((((((r.bel.setCell (by simp <;> omega) _).setCell (by simp <;> omega) _).setCell (by simp <;> omega) _).setCell (by simp <;> omega) _).setCell (by simp <;> omega) _).setCell (by simp <;> omega) _).drew

end Go.Proofs.Ytdccpnaolcpohaa
