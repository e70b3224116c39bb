/- The contract of the reference's Fuse where both may be. -/
import Derived.Test.YtdccpnaolcpohaaAM
import Derived.Test.YtdccpnaolcpohaaAI
namespace Go.Proofs.Ytdccpnaolcpohaa
open Go.RowKit

def RetRef (w : World) (s : FS) (e : Ending) (w' : World) : Prop :=
  ∃ ao aa ab co ca cb, e = .returned (.agg #[.slice ao s.o.length co, .int .i64 s.now, .slice aa s.ta.length ca, .int .i64 s.now, .slice ab s.tb.length cb, .int .i64 s.now, .int .i64 0]) ∧
    Row 0 w' ao s.o ∧ Row 0 w' aa s.ta ∧ Row 0 w' ab s.tb ∧ Below w.heap.size w w'

/-- A map of the call's own, its length told apart. -/
def RetOwnN (w : World) (xs : List Int) (l : Nat) (new : Int) (e : Ending) (w' : World) : Prop :=
  ∃ a c, e = .returned (.agg #[.slice a l c, .int .i64 new]) ∧ Own w' w.heap.size (.slice a l c) xs ∧ Below w.heap.size w w'
theorem nowhere_at (w : World) (n : Nat) (hn : n ≤ 4294967296) : Calls Try.prog 49 #[.int .i64 n] w (RetOwnN w (gones n) n 0) := by
  refine (nowhere_any w n hn).mono fun e w' ⟨v, h1, h2, h3⟩ => ?_
  obtain ⟨a, c, rfl, -⟩ := h2.row
  rw [gones_length] at h1 h2
  exact ⟨a, c, h1, h2, h3⟩
theorem rown_at (w : World) (a : Option Addr) (cap : Nat) (xs : List Int) (n : Nat) (g : Int) (h : Row 0 w a xs) (hu : UpP (-1) n xs) (hl : xs.length ≤ 4294967296) (hn : n ≤ 4294967296) (hg0 : -1 ≤ g) (hg : g < xs.length) :
    Calls Try.prog 50 #[.agg #[.slice a xs.length cap, .int .i64 n], .int .i64 g] w fun e w' => ∃ a' c', e = .returned (.slice a' (cntF xs n g) c') ∧ Row w.heap.size w' a' (ownP xs n g) ∧ Below w.heap.size w w' := by
  refine (rown_any w a cap xs n g h hu hl hn).mono fun e w' ⟨a', c', h1, h2, h3⟩ => ?_
  rw [own_same hu g hg0 hg] at h1 h2
  rw [ownP_length] at h1
  exact ⟨a', c', h1, h2, h3⟩

def zero45 : List Value := [.slice none 0 0, .int .i64 0, .slice none 0 0, .int .i64 0, .slice none 0 0, .int .i64 0, .int .i64 0]
def lay45 (vo va vb : Value) : List Value := [vo, .int .i64 0, va, .int .i64 0, vb, .int .i64 0, .int .i64 0]

/-- What stands in memory at the rounds' heads. -/
structure RMem (w wr : World) (F : Nat) (aa ab : Option Addr) (lx ly ca cb na nb : Nat) (vo va vb : Value) (s : FS) : Prop where
  a : Blk wr w.heap.size [.slice aa lx ca, .int .i64 na] 26
  b : Blk wr (w.heap.size + 1) [.slice ab ly cb, .int .i64 nb] 26
  r : Blk wr (w.heap.size + 1 + 1) zero45 45
  f : Blk wr F (lay45 vo va vb) 45
  o : Own wr (w.heap.size + 1 + 1 + 1) vo s.o
  ta : Own wr (w.heap.size + 1 + 1 + 1) va s.ta
  tb : Own wr (w.heap.size + 1 + 1 + 1) vb s.tb
  n1 : ∀ g, vo.ownBlock = some g → va.ownBlock ≠ some g
  n2 : ∀ g, vo.ownBlock = some g → vb.ownBlock ≠ some g
  n3 : ∀ g, va.ownBlock = some g → vb.ownBlock ≠ some g
  bel : Below w.heap.size w wr
  lF : w.heap.size + 1 + 1 + 1 ≤ F

section
variable {w wr : World} {F : Nat} {aa ab : Option Addr} {lx ly ca cb na nb : Nat} {vo va vb : Value} {s : FS}
theorem RMem.below {w1 : World} (h : RMem w wr F aa ab lx ly ca cb na nb vo va vb s) (hb : Below wr.heap.size wr w1) : RMem w w1 F aa ab lx ly ca cb na nb vo va vb s :=
  ⟨h.a.below hb h.a.lt, h.b.below hb h.b.lt, h.r.below hb h.r.lt, h.f.below hb h.f.lt, h.o.keep (Nat.le_refl _) hb, h.ta.keep (Nat.le_refl _) hb, h.tb.keep (Nat.le_refl _) hb, h.n1, h.n2, h.n3, h.bel.trans (hb.mono h.bel.size), h.lF⟩
theorem RMem.drew (h : RMem w wr F aa ab lx ly ca cb na nb vo va vb s) : RMem w wr.drew F aa ab lx ly ca cb na nb vo va vb s := h.below (Below.refl _ _).drew
theorem RMem.now (h : RMem w wr F aa ab lx ly ca cb na nb vo va vb s) (m : Nat) : RMem w wr F aa ab lx ly ca cb na nb vo va vb ⟨s.o, s.ta, s.tb, m⟩ :=
  ⟨h.a, h.b, h.r, h.f, h.o, h.ta, h.tb, h.n1, h.n2, h.n3, h.bel, h.lF⟩
theorem far_set {w : World} {B g : Nat} {v : Value} {xs : List Int} (h : Own w B v xs) (hg : v.ownBlock ≠ some g) (i : Nat) (u : Value) : Own (w.setCell ⟨g, i, none⟩ u) B v xs := ownsRow_setCell_other h hg u
theorem RMem.setO {g l c : Nat} (h : RMem w wr F aa ab lx ly ca cb na nb (.slice (some ⟨g, 0, none⟩) l c) va vb s) (i : Nat) (x : Int) :
    RMem w (wr.setCell ⟨g, i, none⟩ (.int .i64 x)) F aa ab lx ly ca cb na nb (.slice (some ⟨g, 0, none⟩) l c) va vb ⟨s.o.set i x, s.ta, s.tb, s.now⟩ :=
  ⟨h.a.set_other (own_apart h.o h.a (by decide)) _, h.b.set_other (own_apart h.o h.b (by decide)) _, h.r.set_other (own_apart h.o h.r (by decide)) _, h.f.set_other (own_apart h.o h.f (by decide)) _,
    h.o.set_at i x, far_set h.ta (h.n1 g rfl) _ _, far_set h.tb (h.n2 g rfl) _ _, h.n1, h.n2, h.n3, h.bel.setCell (by have := (h.o.ownBlock_lt (g := g) rfl).1; show w.heap.size ≤ g; omega) _, h.lF⟩
theorem RMem.setA {g l c : Nat} (h : RMem w wr F aa ab lx ly ca cb na nb vo (.slice (some ⟨g, 0, none⟩) l c) vb s) (i : Nat) (x : Int) :
    RMem w (wr.setCell ⟨g, i, none⟩ (.int .i64 x)) F aa ab lx ly ca cb na nb vo (.slice (some ⟨g, 0, none⟩) l c) vb ⟨s.o, s.ta.set i x, s.tb, s.now⟩ :=
  ⟨h.a.set_other (own_apart h.ta h.a (by decide)) _, h.b.set_other (own_apart h.ta h.b (by decide)) _, h.r.set_other (own_apart h.ta h.r (by decide)) _, h.f.set_other (own_apart h.ta h.f (by decide)) _,
    far_set h.o (fun e => h.n1 g e rfl) _ _, h.ta.set_at i x, far_set h.tb (h.n3 g rfl) _ _, h.n1, h.n2, h.n3, h.bel.setCell (by have := (h.ta.ownBlock_lt (g := g) rfl).1; show w.heap.size ≤ g; omega) _, h.lF⟩
theorem RMem.setB {g l c : Nat} (h : RMem w wr F aa ab lx ly ca cb na nb vo va (.slice (some ⟨g, 0, none⟩) l c) s) (i : Nat) (x : Int) :
    RMem w (wr.setCell ⟨g, i, none⟩ (.int .i64 x)) F aa ab lx ly ca cb na nb vo va (.slice (some ⟨g, 0, none⟩) l c) ⟨s.o, s.ta, s.tb.set i x, s.now⟩ :=
  ⟨h.a.set_other (own_apart h.tb h.a (by decide)) _, h.b.set_other (own_apart h.tb h.b (by decide)) _, h.r.set_other (own_apart h.tb h.r (by decide)) _, h.f.set_other (own_apart h.tb h.f (by decide)) _,
    far_set h.o (fun e => h.n2 g e rfl) _ _, far_set h.ta (fun e => h.n3 g e rfl) _ _, h.tb.set_at i x, h.n1, h.n2, h.n3, h.bel.setCell (by have := (h.tb.ownBlock_lt (g := g) rfl).1; show w.heap.size ≤ g; omega) _, h.lF⟩
end

/-- The zeros of a place that was laid early. -/
def ZCells (w : World) (F : Nat) : Prop :=
  w.cell? ⟨F, 0, none⟩ = some (.slice none 0 0) ∧ w.cell? ⟨F, 1, none⟩ = some (.int .i64 0) ∧ w.cell? ⟨F, 2, none⟩ = some (.slice none 0 0) ∧ w.cell? ⟨F, 3, none⟩ = some (.int .i64 0) ∧ w.cell? ⟨F, 4, none⟩ = some (.slice none 0 0) ∧ w.cell? ⟨F, 5, none⟩ = some (.int .i64 0) ∧ w.cell? ⟨F, 6, none⟩ = some (.int .i64 0) ∧
  w.frozen? ⟨F, 0, none⟩ = false ∧ w.frozen? ⟨F, 1, none⟩ = false ∧ w.frozen? ⟨F, 2, none⟩ = false ∧ w.frozen? ⟨F, 3, none⟩ = false ∧ w.frozen? ⟨F, 4, none⟩ = false ∧ w.frozen? ⟨F, 5, none⟩ = false ∧ w.frozen? ⟨F, 6, none⟩ = false
theorem zcells {w : World} {F : Nat} (h : Blk w F zero45 45) : ZCells w F :=
  ⟨h.cell 0 _ rfl, h.cell 1 _ rfl, h.cell 2 _ rfl, h.cell 3 _ rfl, h.cell 4 _ rfl, h.cell 5 _ rfl, h.cell 6 _ rfl, h.free 0, h.free 1, h.free 2, h.free 3, h.free 4, h.free 5, h.free 6⟩
theorem fnew {w1 X wn : World} (hs : w1.heap.size ≤ X.heap.size) (h : Below (X.alloc (.cells #[.slice none 0 0, .int .i64 0, .slice none 0 0, .int .i64 0, .slice none 0 0, .int .i64 0, .int .i64 0] 45)).heap.size (X.alloc (.cells #[.slice none 0 0, .int .i64 0, .slice none 0 0, .int .i64 0, .slice none 0 0, .int .i64 0, .int .i64 0] 45)) wn) : Blk wn X.heap.size zero45 45 ∧ w1.heap.size ≤ X.heap.size ∧ ZCells wn X.heap.size :=
  have b := (Blk.made (w := X) rfl zero45 45).below h (by simp)
  ⟨b, hs, zcells b⟩
theorem fstep {w1 X wn : World} {F : Nat} (b : Blk X F zero45 45) (hs : w1.heap.size ≤ F) (h : Below X.heap.size X wn) : Blk wn F zero45 45 ∧ w1.heap.size ≤ F ∧ ZCells wn F :=
  have b := b.below h b.lt
  ⟨b, hs, zcells b⟩
theorem fnewd {w1 X wn : World} (hs : w1.heap.size ≤ X.heap.size) (h : Below (X.alloc (.cells #[.slice none 0 0, .int .i64 0, .slice none 0 0, .int .i64 0, .slice none 0 0, .int .i64 0, .int .i64 0] 45)).drew.heap.size (X.alloc (.cells #[.slice none 0 0, .int .i64 0, .slice none 0 0, .int .i64 0, .slice none 0 0, .int .i64 0, .int .i64 0] 45)).drew wn) : Blk wn X.heap.size zero45 45 ∧ w1.heap.size ≤ X.heap.size ∧ ZCells wn X.heap.size :=
  have b := (Blk.made (w := X) rfl zero45 45).drew.below h (by show X.heap.size < (X.alloc _).heap.size; simp)
  ⟨b, hs, zcells b⟩
theorem fstepd {w1 X wn : World} {F : Nat} (b : Blk X F zero45 45) (hs : w1.heap.size ≤ F) (h : Below X.drew.heap.size X.drew wn) : Blk wn F zero45 45 ∧ w1.heap.size ≤ F ∧ ZCells wn F :=
  have b := b.drew.below h b.lt
  ⟨b, hs, zcells b⟩
theorem store7 {w1 w : World} {F : Nat} (h : Below w1.heap.size w1 w) (hF : w1.heap.size ≤ F) (v0 v1 v2 v3 v4 v5 v6 : Value) :
    Below w1.heap.size w1 (((((((w.setCell ⟨F, 0, none⟩ v0).setCell ⟨F, 1, none⟩ v1).setCell ⟨F, 2, none⟩ v2).setCell ⟨F, 3, none⟩ v3).setCell ⟨F, 4, none⟩ v4).setCell ⟨F, 5, none⟩ v5).setCell ⟨F, 6, none⟩ v6) :=
  ((((((h.setCell hF _).setCell hF _).setCell hF _).setCell hF _).setCell hF _).setCell hF _).setCell hF _

theorem lay7 {w : World} {F : Nat} (h : Blk w F zero45 45) (v0 v1 v2 v3 v4 v5 v6 : Value) :
    Blk (((((((w.setCell ⟨F, 0, none⟩ v0).setCell ⟨F, 1, none⟩ v1).setCell ⟨F, 2, none⟩ v2).setCell ⟨F, 3, none⟩ v3).setCell ⟨F, 4, none⟩ v4).setCell ⟨F, 5, none⟩ v5).setCell ⟨F, 6, none⟩ v6) F [v0, v1, v2, v3, v4, v5, v6] 45 :=
  ((((((h.set 0 v0).set 1 v1).set 2 v2).set 3 v3).set 4 v4).set 5 v5).set 6 v6
theorem own7 {w : World} {F B : Nat} {v : Value} {xs : List Int} (hO : Own w B v xs) (h : Blk w F zero45 45) (v0 v1 v2 v3 v4 v5 v6 : Value) :
    Own (((((((w.setCell ⟨F, 0, none⟩ v0).setCell ⟨F, 1, none⟩ v1).setCell ⟨F, 2, none⟩ v2).setCell ⟨F, 3, none⟩ v3).setCell ⟨F, 4, none⟩ v4).setCell ⟨F, 5, none⟩ v5).setCell ⟨F, 6, none⟩ v6) B v xs :=
  have n : v.ownBlock ≠ some F := (own_ne hO h (by decide)).symm
  far_set (far_set (far_set (far_set (far_set (far_set (far_set hO n 0 v0) n 1 v1) n 2 v2) n 3 v3) n 4 v4) n 5 v5) n 6 v6
theorem RMem.start {w w1 X : World} {F s1 s2 : Nat} {aa ab : Option Addr} {lx ly ca cb na nb : Nat} {vo va vb : Value}
    (HP : Blk w1 w.heap.size [.slice aa lx ca, .int .i64 na] 26 ∧ Blk w1 (w.heap.size + 1) [.slice ab ly cb, .int .i64 nb] 26 ∧ Blk w1 (w.heap.size + 1 + 1) zero45 45 ∧ Below w.heap.size w w1)
    (hX : Below w1.heap.size w1 X) (hf : Blk X F (lay45 vo va vb) 45) (hF : w1.heap.size ≤ F) (oO : Own X w1.heap.size vo (gones lx)) (oA : Own X w1.heap.size va (gones na)) (oB : Own X w1.heap.size vb (gones nb))
    (d1 : ∀ g, vo.ownBlock = some g → g < s1) (d2 : ∀ g, va.ownBlock = some g → s1 ≤ g ∧ g < s2) (d3 : ∀ g, vb.ownBlock = some g → s2 ≤ g) (h12 : s1 ≤ s2) :
    RMem w X F aa ab lx ly ca cb na nb vo va vb ⟨gones lx, gones na, gones nb, 0⟩ := by
  obtain ⟨p0, p1, p2, t⟩ := HP
  have hs := p2.lt
  exact ⟨p0.below hX p0.lt, p1.below hX p1.lt, p2.below hX p2.lt, hf, oO.from (by omega), oA.from (by omega), oB.from (by omega), fun g h h' => by have := d1 g h; have := d2 g h'; omega,
    fun g h h' => by have := d1 g h; have := d3 g h'; omega, fun g h h' => by have := d2 g h; have := d3 g h'; omega, t.trans (hX.mono t.size), by omega⟩

theorem start1 {w w1 wo wa wb : World} {aa ab : Option Addr} {lx ly ca cb na nb : Nat} {po pa pb : Option Addr} {co da db : Nat} (HP : Blk w1 w.heap.size [.slice aa lx ca, .int .i64 na] 26 ∧ Blk w1 (w.heap.size + 1) [.slice ab ly cb, .int .i64 nb] 26 ∧ Blk w1 (w.heap.size + 1 + 1) zero45 45 ∧ Below w.heap.size w w1)
    (gO : Own wo w1.drew.heap.size (.slice po lx co) (gones lx)) (hbO : Below w1.drew.heap.size w1.drew wo) (gA : Own wa wo.heap.size (.slice pa na da) (gones na)) (hbA : Below wo.heap.size wo wa) (gB : Own wb wa.heap.size (.slice pb nb db) (gones nb)) (hbB : Below wa.heap.size wa wb) :
    RMem w (wb.alloc (.cells #[(.slice po lx co), .int .i64 0, (.slice pa na da), .int .i64 0, (.slice pb nb db), .int .i64 0, .int .i64 0] 45)) wb.heap.size aa ab lx ly ca cb na nb (.slice po lx co) (.slice pa na da) (.slice pb nb db) ⟨gones lx, gones na, gones nb, 0⟩ := by
  have sO : w1.heap.size ≤ wo.heap.size := hbO.size
  have sA := hbA.size
  have sB := hbB.size
  have t : Below w1.heap.size w1 wb := held_step (held_step ((Below.refl w1.heap.size w1).drew.trans hbO) hbA) hbB
  exact RMem.start (s1 := wo.heap.size) (s2 := wa.heap.size) HP (held_alloc t _) (Blk.made (w := wb) rfl (lay45 (.slice po lx co) (.slice pa na da) (.slice pb nb db)) 45) t.size
    (((gO.keep (Nat.le_refl _) hbA).keep (Nat.le_refl _) hbB).alloc _) (((gA.keep (Nat.le_refl _) hbB).from sO).alloc _) ((gB.from (by omega)).alloc _)
    (fun g e => (gO.ownBlock_lt e).2) (fun g e => gA.ownBlock_lt e) (fun g e => (gB.ownBlock_lt e).1) sA
theorem start2 {w w1 wo wa wb : World} {aa ab : Option Addr} {lx ly ca cb na nb : Nat} {po pa pb : Option Addr} {co da db : Nat} (HP : Blk w1 w.heap.size [.slice aa lx ca, .int .i64 na] 26 ∧ Blk w1 (w.heap.size + 1) [.slice ab ly cb, .int .i64 nb] 26 ∧ Blk w1 (w.heap.size + 1 + 1) zero45 45 ∧ Below w.heap.size w w1)
    (gO : Own wo w1.drew.heap.size (.slice po lx co) (gones lx)) (hbO : Below w1.drew.heap.size w1.drew wo) (gA : Own wa wo.heap.size (.slice pa na da) (gones na)) (hbA : Below wo.heap.size wo wa) (gB : Own wb (wa.alloc (.cells #[.slice none 0 0, .int .i64 0, .slice none 0 0, .int .i64 0, .slice none 0 0, .int .i64 0, .int .i64 0] 45)).heap.size (.slice pb nb db) (gones nb)) (hbB : Below (wa.alloc (.cells #[.slice none 0 0, .int .i64 0, .slice none 0 0, .int .i64 0, .slice none 0 0, .int .i64 0, .int .i64 0] 45)).heap.size (wa.alloc (.cells #[.slice none 0 0, .int .i64 0, .slice none 0 0, .int .i64 0, .slice none 0 0, .int .i64 0, .int .i64 0] 45)) wb)
    (hFb : Blk wb wa.heap.size zero45 45) :
    RMem w (((((((wb.setCell ⟨wa.heap.size, 0, none⟩ (.slice po lx co)).setCell ⟨wa.heap.size, 1, none⟩ (.int .i64 0)).setCell ⟨wa.heap.size, 2, none⟩ (.slice pa na da)).setCell ⟨wa.heap.size, 3, none⟩ (.int .i64 0)).setCell ⟨wa.heap.size, 4, none⟩ (.slice pb nb db)).setCell ⟨wa.heap.size, 5, none⟩ (.int .i64 0)).setCell ⟨wa.heap.size, 6, none⟩ (.int .i64 0)) wa.heap.size aa ab lx ly ca cb na nb (.slice po lx co) (.slice pa na da) (.slice pb nb db) ⟨gones lx, gones na, gones nb, 0⟩ := by
  have sO : w1.heap.size ≤ wo.heap.size := hbO.size
  have sA := hbA.size
  have sB := hbB.size
  have t0 : Below w1.heap.size w1 wa := held_step ((Below.refl w1.heap.size w1).drew.trans hbO) hbA
  have t : Below w1.heap.size w1 wb := held_step (held_alloc t0 (.cells #[.slice none 0 0, .int .i64 0, .slice none 0 0, .int .i64 0, .slice none 0 0, .int .i64 0, .int .i64 0] 45)) hbB
  rw [World.size_alloc] at sB
  exact RMem.start (s1 := wo.heap.size) (s2 := wa.heap.size) HP (store7 t t0.size _ _ _ _ _ _ _) (lay7 hFb _ _ _ _ _ _ _) t0.size
    (own7 (((gO.keep (Nat.le_refl _) hbA).alloc _).keep (Nat.le_refl _) hbB) hFb _ _ _ _ _ _ _) (own7 (((gA.alloc _).keep (Nat.le_refl _) hbB).from sO) hFb _ _ _ _ _ _ _) (own7 (gB.from (by rw [World.size_alloc]; omega)) hFb _ _ _ _ _ _ _)
    (fun g e => (gO.ownBlock_lt e).2) (fun g e => gA.ownBlock_lt e) (fun g e => by have := (gB.ownBlock_lt e).1; rw [World.size_alloc] at this; omega) sA
theorem start3 {w w1 wo wa wb : World} {aa ab : Option Addr} {lx ly ca cb na nb : Nat} {po pa pb : Option Addr} {co da db : Nat} (HP : Blk w1 w.heap.size [.slice aa lx ca, .int .i64 na] 26 ∧ Blk w1 (w.heap.size + 1) [.slice ab ly cb, .int .i64 nb] 26 ∧ Blk w1 (w.heap.size + 1 + 1) zero45 45 ∧ Below w.heap.size w w1)
    (gO : Own wo w1.drew.heap.size (.slice po lx co) (gones lx)) (hbO : Below w1.drew.heap.size w1.drew wo) (gA : Own wa (wo.alloc (.cells #[.slice none 0 0, .int .i64 0, .slice none 0 0, .int .i64 0, .slice none 0 0, .int .i64 0, .int .i64 0] 45)).heap.size (.slice pa na da) (gones na)) (hbA : Below (wo.alloc (.cells #[.slice none 0 0, .int .i64 0, .slice none 0 0, .int .i64 0, .slice none 0 0, .int .i64 0, .int .i64 0] 45)).heap.size (wo.alloc (.cells #[.slice none 0 0, .int .i64 0, .slice none 0 0, .int .i64 0, .slice none 0 0, .int .i64 0, .int .i64 0] 45)) wa) (gB : Own wb wa.heap.size (.slice pb nb db) (gones nb)) (hbB : Below wa.heap.size wa wb)
    (hFb : Blk wb wo.heap.size zero45 45) :
    RMem w (((((((wb.setCell ⟨wo.heap.size, 0, none⟩ (.slice po lx co)).setCell ⟨wo.heap.size, 1, none⟩ (.int .i64 0)).setCell ⟨wo.heap.size, 2, none⟩ (.slice pa na da)).setCell ⟨wo.heap.size, 3, none⟩ (.int .i64 0)).setCell ⟨wo.heap.size, 4, none⟩ (.slice pb nb db)).setCell ⟨wo.heap.size, 5, none⟩ (.int .i64 0)).setCell ⟨wo.heap.size, 6, none⟩ (.int .i64 0)) wo.heap.size aa ab lx ly ca cb na nb (.slice po lx co) (.slice pa na da) (.slice pb nb db) ⟨gones lx, gones na, gones nb, 0⟩ := by
  have sO : w1.heap.size ≤ wo.heap.size := hbO.size
  have sA := hbA.size
  have sB := hbB.size
  have t0 : Below w1.heap.size w1 wo := (Below.refl w1.heap.size w1).drew.trans hbO
  have t : Below w1.heap.size w1 wb := held_step (held_step (held_alloc t0 (.cells #[.slice none 0 0, .int .i64 0, .slice none 0 0, .int .i64 0, .slice none 0 0, .int .i64 0, .int .i64 0] 45)) hbA) hbB
  rw [World.size_alloc] at sA
  exact RMem.start (s1 := wo.heap.size) (s2 := wa.heap.size) HP (store7 t t0.size _ _ _ _ _ _ _) (lay7 hFb _ _ _ _ _ _ _) t0.size
    (own7 (((gO.alloc _).keep (Nat.le_refl _) hbA).keep (Nat.le_refl _) hbB) hFb _ _ _ _ _ _ _) (own7 ((gA.keep (Nat.le_refl _) hbB).from (by rw [World.size_alloc]; omega)) hFb _ _ _ _ _ _ _) (own7 (gB.from (by omega)) hFb _ _ _ _ _ _ _)
    (fun g e => (gO.ownBlock_lt e).2) (fun g e => by have := gA.ownBlock_lt e; rw [World.size_alloc] at this; omega) (fun g e => (gB.ownBlock_lt e).1) (by omega)
theorem start4 {w w1 wo wa wb : World} {aa ab : Option Addr} {lx ly ca cb na nb : Nat} {po pa pb : Option Addr} {co da db : Nat} (HP : Blk w1 w.heap.size [.slice aa lx ca, .int .i64 na] 26 ∧ Blk w1 (w.heap.size + 1) [.slice ab ly cb, .int .i64 nb] 26 ∧ Blk w1 (w.heap.size + 1 + 1) zero45 45 ∧ Below w.heap.size w w1)
    (gO : Own wo (w1.alloc (.cells #[.slice none 0 0, .int .i64 0, .slice none 0 0, .int .i64 0, .slice none 0 0, .int .i64 0, .int .i64 0] 45)).drew.heap.size (.slice po lx co) (gones lx)) (hbO : Below (w1.alloc (.cells #[.slice none 0 0, .int .i64 0, .slice none 0 0, .int .i64 0, .slice none 0 0, .int .i64 0, .int .i64 0] 45)).drew.heap.size (w1.alloc (.cells #[.slice none 0 0, .int .i64 0, .slice none 0 0, .int .i64 0, .slice none 0 0, .int .i64 0, .int .i64 0] 45)).drew wo) (gA : Own wa wo.heap.size (.slice pa na da) (gones na)) (hbA : Below wo.heap.size wo wa) (gB : Own wb wa.heap.size (.slice pb nb db) (gones nb)) (hbB : Below wa.heap.size wa wb)
    (hFb : Blk wb w1.heap.size zero45 45) :
    RMem w (((((((wb.setCell ⟨w1.heap.size, 0, none⟩ (.slice po lx co)).setCell ⟨w1.heap.size, 1, none⟩ (.int .i64 0)).setCell ⟨w1.heap.size, 2, none⟩ (.slice pa na da)).setCell ⟨w1.heap.size, 3, none⟩ (.int .i64 0)).setCell ⟨w1.heap.size, 4, none⟩ (.slice pb nb db)).setCell ⟨w1.heap.size, 5, none⟩ (.int .i64 0)).setCell ⟨w1.heap.size, 6, none⟩ (.int .i64 0)) w1.heap.size aa ab lx ly ca cb na nb (.slice po lx co) (.slice pa na da) (.slice pb nb db) ⟨gones lx, gones na, gones nb, 0⟩ := by
  have sO : (w1.alloc (.cells #[.slice none 0 0, .int .i64 0, .slice none 0 0, .int .i64 0, .slice none 0 0, .int .i64 0, .int .i64 0] 45)).heap.size ≤ wo.heap.size := hbO.size
  rw [World.size_alloc] at sO
  have sA := hbA.size
  have sB := hbB.size
  have t0 : Below w1.heap.size w1 wo := held_step (held_alloc (Below.refl w1.heap.size w1) (.cells #[.slice none 0 0, .int .i64 0, .slice none 0 0, .int .i64 0, .slice none 0 0, .int .i64 0, .int .i64 0] 45)).drew hbO
  have t : Below w1.heap.size w1 wb := held_step (held_step t0 hbA) hbB
  exact RMem.start (s1 := wo.heap.size) (s2 := wa.heap.size) HP (store7 t (Nat.le_refl _) _ _ _ _ _ _ _) (lay7 hFb _ _ _ _ _ _ _) (Nat.le_refl _)
    (own7 (((gO.from (show w1.heap.size ≤ (w1.alloc (.cells #[.slice none 0 0, .int .i64 0, .slice none 0 0, .int .i64 0, .slice none 0 0, .int .i64 0, .int .i64 0] 45)).heap.size by rw [World.size_alloc]; omega)).keep (Nat.le_refl _) hbA).keep (Nat.le_refl _) hbB) hFb _ _ _ _ _ _ _) (own7 ((gA.keep (Nat.le_refl _) hbB).from (by omega)) hFb _ _ _ _ _ _ _) (own7 (gB.from (by omega)) hFb _ _ _ _ _ _ _)
    (fun g e => (gO.ownBlock_lt e).2) (fun g e => gA.ownBlock_lt e) (fun g e => (gB.ownBlock_lt e).1) sA

set_option maxRecDepth 100000 in
set_option maxHeartbeats 8000000 in
theorem rfuse_yes (w : World) (aa ab : Option Addr) (ca cb : Nat) (xs ys : List Int) (na nb : Nat) (hx : Row 0 w aa xs) (hy : Row 0 w ab ys) (hlx : xs.length ≤ 4194304) (hna : na ≤ 1048576) (hnb : nb ≤ 1048576)
    (hm : mayF xs na = true) (hm2 : mayF ys nb = true) (hne : xs.length = ys.length) (hux : UpP (-1) na xs) (huy : UpP (-1) nb ys) :
    Calls Try.prog 26 #[.agg #[.slice aa xs.length ca, .int .i64 na], .agg #[.slice ab ys.length cb, .int .i64 nb]] w (RetRef w (fuseS xs ys na nb (xs.length + 1))) := by
  have HM : Hid (∀ W a c, Row 0 W a xs → Calls Try.prog 29 #[.agg #[.slice a xs.length c, .int .i64 na]] W fun e w' => e = .returned (.bool true) ∧ Below W.heap.size W w') := fun W a c h => by
    have := rmay_any W a c xs na h (by omega); rwa [hm] at this
  have HM2 : Hid (∀ W a c, Row 0 W a ys → Calls Try.prog 29 #[.agg #[.slice a ys.length c, .int .i64 nb]] W fun e w' => e = .returned (.bool true) ∧ Below W.heap.size W w') := fun W a c h => by
    have := rmay_any W a c ys nb h (by omega); rwa [hm2] at this
  have HX := Lib.hid (And.intro hx (And.intro hy (And.intro hux huy)))
  have hne' : ((xs.length : Int) != (ys.length : Int)) = false := by simp [hne]
  have HNE := Lib.hid hne
  have HNX := Lib.hid (fun W => nowhere_at W xs.length (by omega))
  have HNA := Lib.hid (fun W => nowhere_at W na (by omega))
  have HNB := Lib.hid (fun W => nowhere_at W nb (by omega))
  have W3 : Below w.heap.size w (((w.alloc (.cells #[.slice aa xs.length ca, .int .i64 na] 26)).alloc (.cells #[.slice ab ys.length cb, .int .i64 nb] 26)).alloc (.cells zero45.toArray 45)) :=
    (((Below.refl _ _).alloc (Nat.le_refl _) _).alloc (by simp) _).alloc (by simp <;> omega) _
  have q0 : Blk (((w.alloc (.cells #[.slice aa xs.length ca, .int .i64 na] 26)).alloc (.cells #[.slice ab ys.length cb, .int .i64 nb] 26)).alloc (.cells zero45.toArray 45)) w.heap.size [.slice aa xs.length ca, .int .i64 na] 26 := ((Blk.made rfl _ _).alloc _).alloc _
  have q1 : Blk (((w.alloc (.cells #[.slice aa xs.length ca, .int .i64 na] 26)).alloc (.cells #[.slice ab ys.length cb, .int .i64 nb] 26)).alloc (.cells zero45.toArray 45)) (w.heap.size + 1) [.slice ab ys.length cb, .int .i64 nb] 26 := (Blk.made (by simp) _ _).alloc _
  have q2 : Blk (((w.alloc (.cells #[.slice aa xs.length ca, .int .i64 na] 26)).alloc (.cells #[.slice ab ys.length cb, .int .i64 nb] 26)).alloc (.cells zero45.toArray 45)) (w.heap.size + 1 + 1) zero45 45 := Blk.made (by simp) _ _
  have hr := hx.keep (Nat.le_refl _) W3
  have hr2 := hy.keep (Nat.le_refl _) W3
  clear hm hx hm2 hy hne hux huy
  go_enter Try.func26, Try.ntmps26
  go_upto_region 1 with fail
  change Code.wp _ _ _ _ (((w.alloc (.cells #[.slice aa xs.length ca, .int .i64 na] 26)).alloc (.cells #[.slice ab ys.length cb, .int .i64 nb] 26)).alloc (.cells zero45.toArray 45))
  generalize ((w.alloc (.cells #[.slice aa xs.length ca, .int .i64 na] 26)).alloc (.cells #[.slice ab ys.length cb, .int .i64 nb] 26)).alloc (.cells zero45.toArray 45) = W0 at *
  have x0 := q0.cell 0 _ rfl
  have x1 := q0.cell 1 _ rfl
  go_wp2_with fail
  refine (HM.out _ _ _ hr).mono ?_
  rintro e w0 ⟨rfl, hb0⟩
  clear x0 x1
  have o1 := q1.below hb0 q1.lt
  have y0 := o1.cell 0 _ rfl
  have y1 := o1.cell 1 _ rfl
  go_wp2_with fail
  refine (HM2.out _ _ _ (hr2.below hb0)).mono ?_
  rintro e w1 ⟨rfl, hb1'⟩
  have hb1 := held_step hb0 hb1'
  have p0 := q0.below hb1 q0.lt
  have p1 := q1.below hb1 q1.lt
  have p2 := q2.below hb1 q2.lt
  have t5 := W3.trans (hb1.mono W3.size)
  clear q0 q1 q2 W3 hr hr2 hb0 hb1 hb1' o1 y0 y1 HM HM2
  have z1 := p0.cell 0 _ rfl
  have z2 := p1.cell 0 _ rfl
  go_upto_region 3 with fail
  clear z1 z2 hne'
  go_cut [5] (fun s5 wx => ∃ (F : Nat) (po pa pb : Option Addr) (co da db : Nat), s5 = .pointer (some ⟨F, 0, none⟩) ∧ RMem w wx F aa ab xs.length ys.length ca cb na nb (.slice po xs.length co) (.slice pa na da) (.slice pb nb db) (fuseS xs ys na nb 0))
  case first =>
    have HP := Lib.hid (And.intro p0 (And.intro p1 (And.intro p2 t5)))
    have HC : Hid (∀ w', Below w1.heap.size w1 w' → w'.cell? ⟨w.heap.size, 0, none⟩ = some (.slice aa xs.length ca) ∧ w'.cell? ⟨w.heap.size, 1, none⟩ = some (.int .i64 na) ∧
        w'.cell? ⟨w.heap.size + 1, 0, none⟩ = some (.slice ab ys.length cb) ∧ w'.cell? ⟨w.heap.size + 1, 1, none⟩ = some (.int .i64 nb)) := fun w' h =>
      ⟨(p0.below h p0.lt).cell 0 _ rfl, (p0.below h p0.lt).cell 1 _ rfl, (p1.below h p1.lt).cell 0 _ rfl, (p1.below h p1.lt).cell 1 _ rfl⟩
    clear p0 p1 p2 t5
    have c0 := (HC.out _ (Below.refl _ _)).1
    have c1 := (HC.out _ (Below.refl _ _)).2.1
    have c2 := (HC.out _ (Below.refl _ _)).2.2.1
    have c3 := (HC.out _ (Below.refl _ _)).2.2.2
    go_region_held3 (fun w' => Below w1.heap.size w1 w' ∧ w'.cell? ⟨w.heap.size, 0, none⟩ = some (.slice aa xs.length ca) ∧ w'.cell? ⟨w.heap.size, 1, none⟩ = some (.int .i64 na) ∧
        w'.cell? ⟨w.heap.size + 1, 0, none⟩ = some (.slice ab ys.length cb) ∧ w'.cell? ⟨w.heap.size + 1, 1, none⟩ = some (.int .i64 nb))
      (first
        | with_reducible exact ⟨held_step hnow hbn, HC.out _ (held_step hnow hbn)⟩
        | with_reducible exact ⟨(held_step hnow hbn).drew, HC.out _ (held_step hnow hbn).drew⟩
        | with_reducible exact ⟨store7 (held_step hnow hbn) hFl _ _ _ _ _ _ _, HC.out _ (store7 (held_step hnow hbn) hFl _ _ _ _ _ _ _)⟩
        | with_reducible exact ⟨(store7 (held_step hnow hbn) hFl _ _ _ _ _ _ _).drew, HC.out _ (store7 (held_step hnow hbn) hFl _ _ _ _ _ _ _).drew⟩
        | with_reducible exact ⟨held_alloc (held_step hnow hbn) _, HC.out _ (held_alloc (held_step hnow hbn) _)⟩
        | with_reducible exact ⟨(held_alloc (held_step hnow hbn) _).drew, HC.out _ (held_alloc (held_step hnow hbn) _).drew⟩
        | with_reducible exact ⟨(Below.refl _ _).drew, HC.out _ (Below.refl _ _).drew⟩
        | with_reducible exact ⟨held_alloc (Below.refl _ _) _, HC.out _ (held_alloc (Below.refl _ _) _)⟩
        | with_reducible exact ⟨(held_alloc (Below.refl _ _) _).drew, HC.out _ (held_alloc (Below.refl _ _) _).drew⟩
        | with_reducible exact ⟨held_alloc (Below.refl _ _).drew _, HC.out _ (held_alloc (Below.refl _ _).drew _)⟩
        | ((with_reducible refine ⟨held_alloc ?_ _, HC.out _ (held_alloc ?_ _)⟩) <;> (go_split_ands; assumption))
        | go_keep)
      (first
        | (go_at_call 49; have hnow : Below w1.heap.size w1 _ := (by go_split_ands; assumption); (with_reducible refine (HNX.out _).mono ?_); rintro e wo ⟨po, co, rfl, gO, hbn⟩; have hbO := hbn; have hsO : w1.heap.size ≤ wo.heap.size := (held_step hnow hbn).size; (first | ((with_reducible have hZ := fnew (w1 := w1) (by first | exact Nat.le_refl _ | assumption) hbn); obtain ⟨hFb, hFl, k0, k1, k2, k3, k4, k5, k6, j0, j1, j2, j3, j4, j5, j6⟩ := hZ) | ((with_reducible have hZ := fnewd (w1 := w1) (by first | exact Nat.le_refl _ | assumption) hbn); obtain ⟨hFb, hFl, k0, k1, k2, k3, k4, k5, k6, j0, j1, j2, j3, j4, j5, j6⟩ := hZ) | ((with_reducible have hZ := fstep hFb hFl hbn); obtain ⟨hFb, hFl, k0, k1, k2, k3, k4, k5, k6, j0, j1, j2, j3, j4, j5, j6⟩ := hZ) | ((with_reducible have hZ := fstepd hFb hFl hbn); obtain ⟨hFb, hFl, k0, k1, k2, k3, k4, k5, k6, j0, j1, j2, j3, j4, j5, j6⟩ := hZ) | skip))
        | (go_at_call 49; have hnow : Below w1.heap.size w1 _ := (by go_split_ands; assumption); (with_reducible refine (HNA.out _).mono ?_); rintro e wa ⟨pa, da, rfl, gA, hbn⟩; have hbA := hbn; have hsA : w1.heap.size ≤ wa.heap.size := (held_step hnow hbn).size; (first | ((with_reducible have hZ := fnew (w1 := w1) (by first | exact Nat.le_refl _ | assumption) hbn); obtain ⟨hFb, hFl, k0, k1, k2, k3, k4, k5, k6, j0, j1, j2, j3, j4, j5, j6⟩ := hZ) | ((with_reducible have hZ := fnewd (w1 := w1) (by first | exact Nat.le_refl _ | assumption) hbn); obtain ⟨hFb, hFl, k0, k1, k2, k3, k4, k5, k6, j0, j1, j2, j3, j4, j5, j6⟩ := hZ) | ((with_reducible have hZ := fstep hFb hFl hbn); obtain ⟨hFb, hFl, k0, k1, k2, k3, k4, k5, k6, j0, j1, j2, j3, j4, j5, j6⟩ := hZ) | ((with_reducible have hZ := fstepd hFb hFl hbn); obtain ⟨hFb, hFl, k0, k1, k2, k3, k4, k5, k6, j0, j1, j2, j3, j4, j5, j6⟩ := hZ) | skip))
        | (go_at_call 49; have hnow : Below w1.heap.size w1 _ := (by go_split_ands; assumption); (with_reducible refine (HNB.out _).mono ?_); rintro e wb ⟨pb, db, rfl, gB, hbn⟩; (first | ((with_reducible have hZ := fnew (w1 := w1) (by first | exact Nat.le_refl _ | assumption) hbn); obtain ⟨hFb, hFl, k0, k1, k2, k3, k4, k5, k6, j0, j1, j2, j3, j4, j5, j6⟩ := hZ) | ((with_reducible have hZ := fnewd (w1 := w1) (by first | exact Nat.le_refl _ | assumption) hbn); obtain ⟨hFb, hFl, k0, k1, k2, k3, k4, k5, k6, j0, j1, j2, j3, j4, j5, j6⟩ := hZ) | ((with_reducible have hZ := fstep hFb hFl hbn); obtain ⟨hFb, hFl, k0, k1, k2, k3, k4, k5, k6, j0, j1, j2, j3, j4, j5, j6⟩ := hZ) | ((with_reducible have hZ := fstepd hFb hFl hbn); obtain ⟨hFb, hFl, k0, k1, k2, k3, k4, k5, k6, j0, j1, j2, j3, j4, j5, j6⟩ := hZ) | skip)))
    all_goals go_wp2_with fail
    all_goals go_meet
    · exact ⟨_, po, pa, pb, co, da, db, rfl, start1 HP.out gO hbO gA hbA gB hbn⟩
    · exact ⟨_, po, pa, pb, co, da, db, rfl, start2 HP.out gO hbO gA hbA gB hbn hFb⟩
    · exact ⟨_, po, pa, pb, co, da, db, rfl, start3 HP.out gO hbO gA hbA gB hbn hFb⟩
    · exact ⟨_, po, pa, pb, co, da, db, rfl, start4 HP.out gO hbO gA hbA gB hbn hFb⟩
  case rest =>
    clear p0 p1 p2 t5 HNX HNA HNB
    obtain ⟨F, po, pa, pb, co, da, db, rfl, hM⟩ := hcut
    go_wp2_with fail
    go_loopg [6, 7] (xs.length + 1) (fun G vn vg wr => ∃ k : Nat, k ≤ xs.length + 1 ∧ G = xs.length + 1 - k ∧ vn = .int .i64 (fuseS xs ys na nb k).now ∧ vg = .int .i64 ((k : Int) - 1) ∧ RMem w wr F aa ab xs.length ys.length ca cb na nb (.slice po xs.length co) (.slice pa na da) (.slice pb nb db) (fuseS xs ys na nb k))
    case atStart => exact ⟨0, by omega, rfl, rfl, rfl, hM⟩
    case round =>
      clear hM
      obtain ⟨k, hk, rfl, rfl, rfl, hm⟩ := hrel
      have HS := Lib.hid (show fuseS xs ys na nb (k + 1) = stepB ys nb ((k : Int) - 1) (stepA xs na ((k : Int) - 1) (stepO xs ys ((k : Int) - 1) (fuseS xs ys na nb k))) from rfl)
      have HLEN := Lib.hid (fuseS_len xs ys na nb k)
      have hnow : (fuseS xs ys na nb k).now ≤ 9000000000000 := by
        have h1 := fuseS_now xs ys na nb k
        have h2 : k * (na + nb + 1) ≤ 4194305 * 2097153 := Nat.mul_le_mul (by omega) (by omega)
        omega
      generalize hse : fuseS xs ys na nb k = s at *
      have HSE := Lib.hid hse
      clear hse
      by_cases hlt : k < xs.length + 1
      ·
        -- <<
        have hg1 : ((k : Int) - 1) < (xs.length : Int) := by omega
        have hg0 : (-1 : Int) ≤ ((k : Int) - 1) := by omega
        generalize hgk : ((k : Int) - 1) = g at *
        have HGK := Lib.hid hgk
        clear hgk
        have ca0 := hm.a.cell 0 _ rfl
        have cb0 := hm.b.cell 0 _ rfl
        have HM := Lib.hid hm
        clear hm
        go_upto_region 8 with fail
        go_cut [64] (fun v wx => v = .bool (both xs ys g) ∧ wr = wx)
        case first =>
          by_cases hgn : g < 0
          · have hb0 : both xs ys g = false := by simp [both]; omega
            have hgn' : ¬ (g ≥ 0) := by omega
            have HB := Lib.hid hb0.symm
            clear hb0
            go_wp2_with fail
            go_meet
            exact ⟨congrArg _ HB.out, rfl⟩
          · obtain ⟨j, rfl⟩ := Int.eq_ofNat_of_zero_le (show 0 ≤ g by omega)
            have hj : j < xs.length := by omega
            have hj2 : j < ys.length := by have := HNE.out; omega
            obtain ⟨bA, oA, rfl, -, -, hcA⟩ := (HX.out.1.keep (Nat.le_refl _) HM.out.bel).at j hj
            obtain ⟨bB, oB, rfl, -, -, hcB⟩ := (HX.out.2.1.keep (Nat.le_refl _) HM.out.bel).at j hj2
            have hbo : both xs ys (j : Int) = decide (0 ≤ xs.getD j 0 ∧ 0 ≤ ys.getD j 0) := by simp [both]
            have HNE' := Lib.hid HNE.out
            generalize xs.getD j 0 = xv at *
            generalize ys.getD j 0 = yv at *
            have hgj : (0 : Int) ≤ (j : Int) := by omega
            by_cases hxv : 0 ≤ xv
            · by_cases hyv : 0 ≤ yv
              · have HB := Lib.hid (hbo.trans (decide_eq_true (And.intro hxv hyv))).symm
                clear hbo
                go_wp2_with fail
                go_meet
                exact ⟨congrArg _ HB.out, rfl⟩
              · have HB := Lib.hid (hbo.trans (decide_eq_false (fun h => hyv h.2))).symm
                clear hbo
                have hyv' : yv < 0 := by omega
                go_wp2_with fail
                go_meet
                exact ⟨congrArg _ HB.out, rfl⟩
            · have HB := Lib.hid (hbo.trans (decide_eq_false (fun h => hxv h.1))).symm
              clear hbo
              have hxv' : xv < 0 := by omega
              go_wp2_with fail
              go_meet
              exact ⟨congrArg _ HB.out, rfl⟩
        case rest =>
          obtain ⟨rfl, rfl⟩ := hcut
          go_upto_if 64 with fail
          go_cut [6] (fun v wx => v = .int .i64 (stepO xs ys g s).now ∧ RMem w wx F aa ab xs.length ys.length ca cb na nb (.slice po xs.length co) (.slice pa na da) (.slice pb nb db) (stepO xs ys g s))
          case first =>
            cases hbo : both xs ys g with
            | false =>
              have HST := Lib.hid (show stepO xs ys g s = s by rw [stepO, hbo]; rfl)
              clear hbo
              go_wp2_with fail
              go_meet
              rw [HST.out]
              exact ⟨rfl, HM.out⟩
            | true =>
              have HST := Lib.hid (show stepO xs ys g s = ⟨s.o.set g.toNat s.now, s.ta.set (xs.getD g.toNat 0).toNat s.now, s.tb.set (ys.getD g.toNat 0).toNat s.now, s.now + 1⟩ by rw [stepO, hbo]; rfl)
              have hbd : 0 ≤ g ∧ 0 ≤ xs.getD g.toNat 0 ∧ 0 ≤ ys.getD g.toNat 0 := by simpa [both] using hbo
              clear hbo
              obtain ⟨hgp, hxp, hyp⟩ := hbd
              obtain ⟨j, rfl⟩ := Int.eq_ofNat_of_zero_le hgp
              simp only [Int.toNat_natCast] at HST hxp hyp
              have hj : j < xs.length := by omega
              have hj2 : j < ys.length := by have := HNE.out; omega
              have hux := (HX.out.2.2.1.1 j _ (show xs[j]? = some (xs.getD j 0) by simp [List.getD, hj]) (by omega)).2
              have huy := (HX.out.2.2.2.1 j _ (show ys[j]? = some (ys.getD j 0) by simp [List.getD, hj2]) (by omega)).2
              obtain ⟨bA, oA, eA, -, hbA, hcA⟩ := HX.out.1.at j hj
              obtain ⟨bB, oB, eB, -, hbB, hcB⟩ := HX.out.2.1.at j hj2
              have EA := Lib.hid eA
              have EB := Lib.hid eB
              have HCA := Lib.hid hcA
              have HCB := Lib.hid hcB
              clear eA eB hcA hcB
              generalize xs.getD j 0 = xv at *
              generalize ys.getD j 0 = yv at *
              obtain ⟨xn, rfl⟩ := Int.eq_ofNat_of_zero_le hxp
              obtain ⟨yn, rfl⟩ := Int.eq_ofNat_of_zero_le hyp
              have hxl : xn < na := by omega
              have hyl : yn < nb := by omega
              obtain ⟨gO, cO, eO, lO1, lO2, fO, cellO⟩ := HM.out.o.place (by have := HLEN.out.1; omega)
              simp only [Value.slice.injEq] at eO
              obtain ⟨rfl, -, rfl⟩ := eO
              obtain ⟨gA, cA, eA2, lA1, lA2, fA, cellA⟩ := HM.out.ta.place (by have := HLEN.out.2.1; omega)
              simp only [Value.slice.injEq] at eA2
              obtain ⟨rfl, -, rfl⟩ := eA2
              obtain ⟨gB, cB, eB2, lB1, lB2, fB, cellB⟩ := HM.out.tb.place (by have := HLEN.out.2.2; omega)
              simp only [Value.slice.injEq] at eB2
              obtain ⟨rfl, -, rfl⟩ := eB2
              have hso := cellO j (by rw [HLEN.out.1]; exact hj)
              have hsf := fO j
              have q0 := HM.out.f.cell 0 _ rfl
              clear fO cellO fA cellA fB cellB
              go_upto_region 10 with fail
              have HM1 := Lib.hid (HM.out.setO j s.now)
              clear HM hsf hso ca0 cb0 q0 lO2 lA2 lB2
              generalize wr.setCell ⟨gO, j, none⟩ (.int .i64 s.now) = W1 at *
              obtain ⟨gA2, cA2, eA2, -, -, fA, cellA⟩ := HM1.out.ta.place (by have := HLEN.out.2.1; show 0 < s.ta.length; omega)
              simp only [Value.slice.injEq, Option.some.injEq, Addr.mk.injEq] at eA2
              obtain ⟨⟨rfl, -⟩, -, rfl⟩ := eA2
              have hcA := (HM1.out.bel.cell (p := ⟨bA, oA + j, none⟩) hbA).trans HCA.out
              have q1 := HM1.out.a.cell 0 _ rfl
              have q2 := HM1.out.f.cell 2 _ rfl
              have q7 := cellA xn (by show xn < s.ta.length; rw [show s.ta.length = na from HLEN.out.2.1]; exact hxl)
              have f7 := fA xn
              have n1 : gA ≠ bA := by omega
              have n6 := own_apart HM1.out.ta HM1.out.a (by decide)
              have n10 := own_apart HM1.out.ta HM1.out.f (by decide)
              have EA' := EA.out
              subst EA'
              clear fA cellA
              go_region_held3 (fun w' => w'.cell? ⟨w.heap.size, 0, none⟩ = some (.slice (some ⟨bA, oA, none⟩) xs.length ca) ∧ w'.cell? ⟨bA, oA + j, none⟩ = some (.int .i64 xn) ∧ w'.cell? ⟨F, 2, none⟩ = some (.slice (some ⟨gA, 0, none⟩) na da)) (go_keep) (fail)
              all_goals go_upto_region 11 with fail
              have HM2 := Lib.hid (HM1.out.setA xn s.now).drew
              clear HM1 hcA q1 q2 q7 f7 n1 n6 n10
              obtain ⟨gB2, cB2, eB2, -, -, fB, cellB⟩ := HM2.out.tb.place (by have := HLEN.out.2.2; show 0 < s.tb.length; omega)
              simp only [Value.slice.injEq, Option.some.injEq, Addr.mk.injEq] at eB2
              obtain ⟨⟨rfl, -⟩, -, rfl⟩ := eB2
              have hcB := (HM2.out.bel.cell (p := ⟨bB, oB + j, none⟩) hbB).trans HCB.out
              have q1 := HM2.out.b.cell 0 _ rfl
              have q2 := HM2.out.f.cell 4 _ rfl
              have q7 := cellB yn (by show yn < s.tb.length; rw [show s.tb.length = nb from HLEN.out.2.2]; exact hyl)
              have f7 := fB yn
              have n1 : gB ≠ bB := by omega
              have n6 := own_apart HM2.out.tb HM2.out.b (by decide)
              have n10 := own_apart HM2.out.tb HM2.out.f (by decide)
              have EB' := EB.out
              subst EB'
              clear fB cellB
              generalize (W1.setCell ⟨gA, xn, none⟩ (.int .i64 s.now)).drew = W2 at *
              go_region_held3 (fun w' => w'.cell? ⟨w.heap.size + 1, 0, none⟩ = some (.slice (some ⟨bB, oB, none⟩) ys.length cb) ∧ w'.cell? ⟨bB, oB + j, none⟩ = some (.int .i64 yn) ∧ w'.cell? ⟨F, 4, none⟩ = some (.slice (some ⟨gB, 0, none⟩) nb db)) (go_keep) (fail)
              all_goals go_wp2_with fail
              all_goals go_meet
              rw [HST.out]
              refine ⟨by simp, ?_⟩
              simp only [Int.toNat_natCast]
              with_reducible exact ((HM2.out.setB yn s.now).now _).drew
          case rest =>
            obtain ⟨rfl, hm⟩ := hcut
            clear ca0 cb0 HM
            have HLEN := Lib.hid (stepO_len (B := ys) (g := g) HLEN.out)
            have hnow := Nat.le_trans (stepO_now xs ys g s) (Nat.succ_le_succ hnow)
            have HT0 := Lib.hid (show stepO xs ys g s = stepO xs ys g s from rfl)
            generalize hst : stepO xs ys g s = t at *
            have HT := Lib.hid hst
            clear hst HT0
            have HLT := Lib.hid (show t.ta.length = na from HLEN.out.2.1)
            have c0 := hm.a.cell 0 _ rfl
            have c1 := hm.a.cell 1 _ rfl
            have HO := Lib.hid (rown_at wc aa ca xs na g (HX.out.1.keep (Nat.le_refl _) hm.bel) HX.out.2.2.1 (by have := HNE.out; omega) (by omega) hg0 (by have := HNE.out; omega))
            have HB := Lib.hid (fun c (h : c < cntF xs na g) => from_bound h)
            have HG := Lib.hid (fun c (h : c < cntF xs na g) => ownP_getD h)
            have HPL := Lib.hid (ownP_length xs na g)
            have HSTEP := Lib.hid (show ∀ t : FS, stepA xs na g t = ⟨t.o, plc t.ta (fromF xs g) t.now (cntF xs na g), t.tb, t.now + cntF xs na g⟩ from fun _ => rfl)
            have hcl := cntF_le xs na g
            generalize cntF xs na g = cn at *
            generalize ownP xs na g = L at *
            generalize fromF xs g = fr at *
            have HM := Lib.hid hm
            have HBB : Hid (∀ g, (Value.slice pa na da).ownBlock = some g → g < wc.heap.size) := fun g e => (hm.ta.ownBlock_lt e).2
            clear hm
            go_upto_region 13 with fail
            go_cut [8] (fun v wx => ∃ aO cO B, v = .slice aO cn cO ∧ Hid (∀ g, (Value.slice pa na da).ownBlock = some g → g < B) ∧ Row B wx aO L ∧ RMem w wx F aa ab xs.length ys.length ca cb na nb (.slice po xs.length co) (.slice pa na da) (.slice pb nb db) t)
            case first =>
              go_wp2_with (go_at_call 50; (with_reducible refine HO.out.mono ?_); rintro e wn ⟨aO, cO, rfl, hrow, hbn⟩)
              go_meet
              exact ⟨aO, cO, _, rfl, HBB.out, hrow, HM.out.below hbn⟩
            case rest =>
              clear HBB HO c0 c1 HM
              obtain ⟨aO, cO, B, rfl, HBB, hrow, hmn⟩ := hcut
              go_wp2_with fail
              go_loopg [6, 9] cn (fun G vn vc wi => ∃ c : Nat, Hid (c ≤ cn) ∧ G = cn - c ∧ vc = .int .i64 c ∧ vn = .int .i64 ((t.now + c : Nat) : Int) ∧ Row B wi aO L ∧ RMem w wi F aa ab xs.length ys.length ca cb na nb (.slice po xs.length co) (.slice pa na da) (.slice pb nb db) ⟨t.o, plc t.ta fr t.now c, t.tb, t.now + c⟩)
              case atStart => exact ⟨0, Nat.zero_le _, rfl, rfl, rfl, hrow, hmn⟩
              case round =>
                clear hrow hmn
                obtain ⟨c, hc, rfl, rfl, rfl, hrow, hmi⟩ := hrel
                have hcn := hc.out
                by_cases hlt : c < cn
                · have HPS := Lib.hid (show plc t.ta fr t.now (c + 1) = (plc t.ta fr t.now c).set (fr + c) ((t.now + c : Nat) : Int) from rfl)
                  have hqn := HB.out c hlt
                  have hql : (plc t.ta fr t.now c).length = na := (plc_length _ _ _ _).trans HLT.out
                  have hgc := HG.out c hlt
                  obtain ⟨bO, oO, rfl, hBO, -, hcO⟩ := hrow.at c (by rw [HPL.out]; exact hlt)
                  rw [hgc] at hcO
                  clear hgc
                  generalize fr + c = q at *
                  generalize plc t.ta fr t.now c = U at *
                  generalize hmc : t.now + c = m at *
                  have HMC := Lib.hid hmc
                  have hmb : m ≤ 9000010000000 := by omega
                  clear hmc
                  obtain ⟨gA, cA, eA2, -, -, fA, cellA⟩ := hmi.ta.place (by show 0 < U.length; omega)
                  simp only [Value.slice.injEq] at eA2
                  obtain ⟨rfl, -, rfl⟩ := eA2
                  have k0 := hmi.f.cell 2 _ rfl
                  have k1 := cellA q (by show q < U.length; omega)
                  have f1 := fA q
                  have n1 : gA ≠ bO := by have := HBB.out gA rfl; omega
                  have n2 := own_apart hmi.ta hmi.f (by decide)
                  have HMI := Lib.hid hmi
                  have HRO := Lib.hid (hrow.set (p := ⟨gA, q, none⟩) (HBB.out gA rfl) (.int .i64 m))
                  clear hmi hrow hql fA cellA
                  have hc0 : (c : Int) < (cn : Int) := by omega
                  go_upto_region 17 with fail
                  go_region_held3 (fun w' => w'.cell? ⟨F, 2, none⟩ = some (.slice (some ⟨gA, 0, none⟩) na da) ∧ w'.cell? ⟨bO, oO + c, none⟩ = some (.int .i64 q)) (go_keep) (fail)
                  all_goals go_wp2_with fail
                  all_goals go_roundg (cn - (c + 1))
                  case measure => omega
                  case rel =>
                    have e1 : t.now + (c + 1) = m + 1 := by have := HMC.out; omega
                    refine ⟨c + 1, hlt, rfl, by go_num, by rw [e1]; go_num, HRO.out.drew, ?_⟩
                    rw [HPS.out, e1]
                    with_reducible exact ((HMI.out.setA q m).now (m + 1)).drew
                · have hcc : cn = c := by omega
                  subst hcc
                  have hge1 : ¬ ((cn : Int) < (cn : Int)) := by omega
                  clear hlt hcn hc hrow HB HG HPL HBB
                  have HT2 := Lib.hid (show (⟨t.o, plc t.ta fr t.now cn, t.tb, t.now + cn⟩ : FS) = stepA xs na g t from (HSTEP.out t).symm)
                  have hnow2 : t.now + cn ≤ 9000001048577 := by omega
                  have HLT := Lib.hid (show t.tb.length = nb from HLEN.out.2.2)
                  clear HSTEP
                  generalize plc t.ta fr t.now cn = T at *
                  generalize t.now + cn = m2 at *
                  have hm := hmi
                  clear hmi hcl
                  have c0 := hm.b.cell 0 _ rfl
                  have c1 := hm.b.cell 1 _ rfl
                  have HO := Lib.hid (rown_at wr ab cb ys nb g (HX.out.2.1.keep (Nat.le_refl _) hm.bel) HX.out.2.2.2 (by have := HNE.out; omega) (by omega) hg0 (by have := HNE.out; omega))
                  have HB := Lib.hid (fun c (h : c < cntF ys nb g) => from_bound h)
                  have HG := Lib.hid (fun c (h : c < cntF ys nb g) => ownP_getD h)
                  have HPL := Lib.hid (ownP_length ys nb g)
                  have HSTEP := Lib.hid (show ∀ t : FS, stepB ys nb g t = ⟨t.o, t.ta, plc t.tb (fromF ys g) t.now (cntF ys nb g), t.now + cntF ys nb g⟩ from fun _ => rfl)
                  have hcl := cntF_le ys nb g
                  generalize cntF ys nb g = cn at *
                  generalize ownP ys nb g = L at *
                  generalize fromF ys g = fr at *
                  have HM := Lib.hid hm
                  have HBB : Hid (∀ g, (Value.slice pb nb db).ownBlock = some g → g < wr.heap.size) := fun g e => (hm.tb.ownBlock_lt e).2
                  clear hm
                  go_upto_region 19 with fail
                  go_cut [8] (fun v wx => ∃ aO cO B, v = .slice aO cn cO ∧ Hid (∀ g, (Value.slice pb nb db).ownBlock = some g → g < B) ∧ Row B wx aO L ∧ RMem w wx F aa ab xs.length ys.length ca cb na nb (.slice po xs.length co) (.slice pa na da) (.slice pb nb db) ⟨t.o, T, t.tb, m2⟩)
                  case first =>
                    go_wp2_with (go_at_call 50; (with_reducible refine HO.out.mono ?_); rintro e wn ⟨aO, cO, rfl, hrow, hbn⟩)
                    go_meet
                    exact ⟨aO, cO, _, rfl, HBB.out, hrow, HM.out.below hbn⟩
                  case rest =>
                    clear HBB HO c0 c1 HM
                    obtain ⟨aO, cO, B, rfl, HBB, hrow, hmn⟩ := hcut
                    go_wp2_with fail
                    go_loopg [6, 10] cn (fun G vn vc wi => ∃ c : Nat, Hid (c ≤ cn) ∧ G = cn - c ∧ vc = .int .i64 c ∧ vn = .int .i64 ((m2 + c : Nat) : Int) ∧ Row B wi aO L ∧ RMem w wi F aa ab xs.length ys.length ca cb na nb (.slice po xs.length co) (.slice pa na da) (.slice pb nb db) ⟨t.o, T, plc t.tb fr m2 c, m2 + c⟩)
                    case atStart => exact ⟨0, Nat.zero_le _, rfl, rfl, rfl, hrow, hmn⟩
                    case round =>
                      clear hrow hmn
                      obtain ⟨c, hc, rfl, rfl, rfl, hrow, hmi⟩ := hrel
                      have hcn := hc.out
                      by_cases hlt : c < cn
                      · have HPS := Lib.hid (show plc t.tb fr m2 (c + 1) = (plc t.tb fr m2 c).set (fr + c) ((m2 + c : Nat) : Int) from rfl)
                        have hqn := HB.out c hlt
                        have hql : (plc t.tb fr m2 c).length = nb := (plc_length _ _ _ _).trans HLT.out
                        have hgc := HG.out c hlt
                        obtain ⟨bO, oO, rfl, hBO, -, hcO⟩ := hrow.at c (by rw [HPL.out]; exact hlt)
                        rw [hgc] at hcO
                        clear hgc
                        generalize fr + c = q at *
                        generalize plc t.tb fr m2 c = U at *
                        generalize hmc : m2 + c = m at *
                        have HMC := Lib.hid hmc
                        have hmb : m ≤ 9000010000000 := by omega
                        clear hmc
                        obtain ⟨gA, cA, eA2, -, -, fA, cellA⟩ := hmi.tb.place (by show 0 < U.length; omega)
                        simp only [Value.slice.injEq] at eA2
                        obtain ⟨rfl, -, rfl⟩ := eA2
                        have k0 := hmi.f.cell 4 _ rfl
                        have k1 := cellA q (by show q < U.length; omega)
                        have f1 := fA q
                        have n1 : gA ≠ bO := by have := HBB.out gA rfl; omega
                        have n2 := own_apart hmi.tb hmi.f (by decide)
                        have HMI := Lib.hid hmi
                        have HRO := Lib.hid (hrow.set (p := ⟨gA, q, none⟩) (HBB.out gA rfl) (.int .i64 m))
                        clear hmi hrow hql fA cellA
                        have hc0 : (c : Int) < (cn : Int) := by omega
                        go_upto_region 23 with fail
                        go_region_held3 (fun w' => w'.cell? ⟨F, 4, none⟩ = some (.slice (some ⟨gA, 0, none⟩) nb db) ∧ w'.cell? ⟨bO, oO + c, none⟩ = some (.int .i64 q)) (go_keep) (fail)
                        all_goals go_wp2_with fail
                        all_goals go_roundg (cn - (c + 1))
                        case measure => omega
                        case rel =>
                          have e1 : m2 + (c + 1) = m + 1 := by have := HMC.out; omega
                          refine ⟨c + 1, hlt, rfl, by go_num, by rw [e1]; go_num, HRO.out.drew, ?_⟩
                          rw [HPS.out, e1]
                          with_reducible exact ((HMI.out.setB q m).now (m + 1)).drew
                      · have hcc : cn = c := by omega
                        subst hcc
                        have hge1 : ¬ ((cn : Int) < (cn : Int)) := by omega
                        clear hlt hcn hc hrow HB HG HPL HBB
                        have HT3 := Lib.hid (show (⟨t.o, T, plc t.tb fr m2 cn, m2 + cn⟩ : FS) = fuseS xs ys na nb (k + 1) by rw [HS.out, ← HT2.out]; exact (HSTEP.out ⟨t.o, T, t.tb, m2⟩).symm)
                        have hnow3 : m2 + cn ≤ 9000002097154 := by omega
                        clear HSTEP
                        generalize plc t.tb fr m2 cn = T2 at *
                        generalize m2 + cn = m3 at *
                        have hgk := HGK.out
                        have hkb : g < 4194305 := by omega
                        have HM := Lib.hid hmi
                        clear hmi hgk hge1
                        have hge1 : ¬ ((cn : Int) < (cn : Int)) := by omega
                        go_wp2_with fail
                        go_roundg (xs.length + 1 - (k + 1))
                        case measure => omega
                        case rel => exact ⟨k + 1, by omega, rfl, by rw [← HT3.out], by have := HGK.out; go_num, by rw [← HT3.out]; exact HM.out⟩
        -- >>
      · have hkk : k = xs.length + 1 := by omega
        have HSE := Lib.hid (show s = fuseS xs ys na nb (xs.length + 1) by rw [← HSE.out, hkk])
        have hge : ¬ ((k : Int) - 1 < (xs.length : Int)) := by omega
        clear hlt
        have ca0 := hm.a.cell 0 _ rfl
        go_upto_region 25 with fail
        have hne : F ≠ w.heap.size + 1 + 1 := by have := hm.lF; omega
        have hne2 : w.heap.size + 1 + 1 ≠ F := Ne.symm hne
        have c0 := hm.f.cell 0 _ rfl
        have c1 := hm.f.cell 1 _ rfl
        have c2 := hm.f.cell 2 _ rfl
        have c3 := hm.f.cell 3 _ rfl
        have c4 := hm.f.cell 4 _ rfl
        have c5 := hm.f.cell 5 _ rfl
        have c6 := hm.f.cell 6 _ rfl
        have f1 := hm.f.free 1
        have f3 := hm.f.free 3
        have f5 := hm.f.free 5
        have r0 := hm.r.cell 0 _ rfl
        have r1 := hm.r.cell 1 _ rfl
        have r2 := hm.r.cell 2 _ rfl
        have r3 := hm.r.cell 3 _ rfl
        have r4 := hm.r.cell 4 _ rfl
        have r5 := hm.r.cell 5 _ rfl
        have r6 := hm.r.cell 6 _ rfl
        have j0 := hm.r.free 0
        have j1 := hm.r.free 1
        have j2 := hm.r.free 2
        have j3 := hm.r.free 3
        have j4 := hm.r.free 4
        have j5 := hm.r.free 5
        have j6 := hm.r.free 6
        have HMD := Lib.hid hm
        clear hm
        go_wp2_with fail
        refine bodyPost_ret (v := .agg #[.slice po xs.length co, .int .i64 s.now, .slice pa na da, .int .i64 s.now, .slice pb nb db, .int .i64 s.now, .int .i64 0]) (by simp [results, Try.results26, go_sem, r0, r1, r2, r3, r4, r5, r6]) rfl ?_
        rw [← HSE.out]
        obtain ⟨L1, L2, L3⟩ := HLEN.out
        have r := HMD.out
        have fin := fun {v : Value} {l : List Int} (h : Own wr (w.heap.size + 1 + 1 + 1) v l) (a : v.ownBlock ≠ some F) (b : v.ownBlock ≠ some (w.heap.size + 1 + 1)) =>
          far_set (far_set (far_set (far_set (far_set (far_set (far_set (far_set (far_set (far_set h a 1 (.int .i64 s.now)) a 3 (.int .i64 s.now)) a 5 (.int .i64 s.now)) b 0 (.slice po xs.length co)) b 1 (.int .i64 s.now)) b 2 (.slice pa na da)) b 3 (.int .i64 s.now)) b 4 (.slice pb nb db)) b 5 (.int .i64 s.now)) b 6 (.int .i64 0)
        have k1 := fin r.o (own_ne r.o r.f (by decide)).symm (own_ne r.o r.r (by decide)).symm
        have k2 := fin r.ta (own_ne r.ta r.f (by decide)).symm (own_ne r.ta r.r (by decide)).symm
        have k3 := fin r.tb (own_ne r.tb r.f (by decide)).symm (own_ne r.tb r.r (by decide)).symm
        have hF : w.heap.size ≤ F := by have := r.lF; omega
        have hR : w.heap.size ≤ w.heap.size + 1 + 1 := by omega
        have kb := (((((((((r.bel.setCell (p := ⟨F, 1, none⟩) hF (.int .i64 s.now)).setCell (p := ⟨F, 3, none⟩) hF (.int .i64 s.now)).setCell (p := ⟨F, 5, none⟩) hF (.int .i64 s.now)).setCell (p := ⟨w.heap.size + 1 + 1, 0, none⟩) hR (.slice po xs.length co)).setCell (p := ⟨w.heap.size + 1 + 1, 1, none⟩) hR (.int .i64 s.now)).setCell (p := ⟨w.heap.size + 1 + 1, 2, none⟩) hR (.slice pa na da)).setCell (p := ⟨w.heap.size + 1 + 1, 3, none⟩) hR (.int .i64 s.now)).setCell (p := ⟨w.heap.size + 1 + 1, 4, none⟩) hR (.slice pb nb db)).setCell (p := ⟨w.heap.size + 1 + 1, 5, none⟩) hR (.int .i64 s.now)).setCell (p := ⟨w.heap.size + 1 + 1, 6, none⟩) hR (.int .i64 0)
        exact ⟨po, pa, pb, co, da, db, by rw [L1, L2, L3], k1.row'.from (Nat.zero_le _), k2.row'.from (Nat.zero_le _), k3.row'.from (Nat.zero_le _), kb⟩

end Go.Proofs.Ytdccpnaolcpohaa
