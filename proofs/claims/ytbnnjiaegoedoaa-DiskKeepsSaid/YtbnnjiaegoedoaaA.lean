/- Plain memory: blocks of cells known whole, slices of ints that read as lists, and what becomes of them while the call makes memory of its own. Nothing here names the program. -/
import Derived.Test.YtbnnjiaegoedoaaRows
import Derived.WalkKit
import Derived.WalkSpells
import Derived.WalkLawsBesides
import Derived.Lib.Hide
import Derived.Deep.OwnRows
namespace Go.Proofs.Ytbnnjiaegoedoaa
open Go.RowKit

/-- Block b is these cells, and may be written. -/
def Blk (w : World) (b : Nat) (vs : List Value) (t : TypeId) : Prop := w.heap[b]? = some (.cells vs.toArray t (0, 0))

theorem Blk.lt {w : World} {b : Nat} {vs : List Value} {t : TypeId} (h : Blk w b vs t) : b < w.heap.size := (Array.getElem?_eq_some_iff.1 h).1
theorem Blk.cell {w : World} {b : Nat} {vs : List Value} {t : TypeId} (h : Blk w b vs t) (j : Nat) (v : Value) (hj : vs[j]? = some v) : w.cell? ⟨b, j, none⟩ = some v := by
  unfold Blk at h; simp [World.cell?, h, hj]
theorem Blk.free {w : World} {b : Nat} {vs : List Value} {t : TypeId} (h : Blk w b vs t) (j : Nat) : w.frozen? ⟨b, j, none⟩ = false := by
  unfold Blk at h; simp [World.frozen?, h]
theorem Blk.set {w : World} {b : Nat} {vs : List Value} {t : TypeId} (h : Blk w b vs t) (j : Nat) (v : Value) : Blk (w.setCell ⟨b, j, none⟩ v) b (vs.set j v) t := by
  have hlt := h.lt
  unfold Blk at h ⊢
  show (w.heap.modify b _)[b]? = _
  rw [Array.getElem?_modify, if_pos rfl, h]
  simp
theorem Blk.set_other {w : World} {b : Nat} {vs : List Value} {t : TypeId} (h : Blk w b vs t) {a : Addr} (ha : a.block ≠ b) (v : Value) : Blk (w.setCell a v) b vs t := by
  unfold Blk at h ⊢
  rw [Below.heap_setCell _ _ _ _ (fun e => ha e.symm)]; exact h
theorem Blk.alloc {w : World} {b : Nat} {vs : List Value} {t : TypeId} (h : Blk w b vs t) (o : Obj) : Blk (w.alloc o) b vs t := by
  have := h.lt
  unfold Blk at h ⊢
  rw [Below.heap_alloc _ _ _ this]; exact h
theorem Blk.new (w : World) (vs : List Value) (t : TypeId) : Blk (w.alloc (.cells vs.toArray t)) w.heap.size vs t := by
  show (w.heap.push _)[w.heap.size]? = _; simp
theorem Blk.made {w : World} {b : Nat} (hb : b = w.heap.size) (vs : List Value) (t : TypeId) : Blk (w.alloc (.cells vs.toArray t)) b vs t := by subst hb; exact Blk.new w vs t
theorem Blk.drew {w : World} {b : Nat} {vs : List Value} {t : TypeId} (h : Blk w b vs t) : Blk w.drew b vs t := h
theorem Blk.below {w w' : World} {B b : Nat} {vs : List Value} {t : TypeId} (h : Blk w b vs t) (hb : Below B w w') (hB : b < B) : Blk w' b vs t := by
  unfold Blk at h ⊢; rw [hb.block b hB]; exact h

/-- The slice at a, of so many elements, reads as the list xs; its block, if it has elements, is from B on. -/
def RowK (K : IntKind) (B : Nat) (w : World) (a : Option Addr) (xs : List Int) : Prop :=
  xs = [] ∨ ∃ b off, a = some ⟨b, off, none⟩ ∧ B ≤ b ∧ b < w.heap.size ∧ ∀ j, j < xs.length → w.cell? ⟨b, off + j, none⟩ = some (.int K (xs.getD j 0))

theorem RowK.keep {K : IntKind} {w w' : World} {B C : Nat} {a : Option Addr} {xs : List Int} (h : RowK K B w a xs) (hs : w.heap.size ≤ C) (hb : Below C w w') : RowK K B w' a xs := by
  rcases h with h | ⟨b, off, e, hB, hb1, hc⟩
  · exact .inl h
  · exact .inr ⟨b, off, e, hB, by have := hb.size; omega, fun j hj => by rw [hb.cell (p := ⟨b, off + j, none⟩) (by show b < C; omega)]; exact hc j hj⟩
theorem RowK.below {K : IntKind} {w w' : World} {B : Nat} {a : Option Addr} {xs : List Int} (h : RowK K B w a xs) (hb : Below w.heap.size w w') : RowK K B w' a xs := h.keep (Nat.le_refl _) hb
theorem RowK.alloc {K : IntKind} {w : World} {B : Nat} {a : Option Addr} {xs : List Int} (h : RowK K B w a xs) (o : Obj) : RowK K B (w.alloc o) a xs := h.below ((Below.refl _ _).alloc (Nat.le_refl _) o)
theorem RowK.drew {K : IntKind} {w : World} {B : Nat} {a : Option Addr} {xs : List Int} (h : RowK K B w a xs) : RowK K B w.drew a xs := h
theorem RowK.nil {K : IntKind} (B : Nat) (w : World) (a : Option Addr) : RowK K B w a [] := .inl rfl
theorem RowK.from {K : IntKind} {w : World} {B C : Nat} {a : Option Addr} {xs : List Int} (h : RowK K B w a xs) (hC : C ≤ B) : RowK K C w a xs := by
  rcases h with h | ⟨b, off, e, hB, r⟩
  · exact .inl h
  · exact .inr ⟨b, off, e, by omega, r⟩
theorem RowK.set {K : IntKind} {w : World} {B : Nat} {a : Option Addr} {xs : List Int} (h : RowK K B w a xs) {p : Addr} (hp : p.block < B) (v : Value) : RowK K B (w.setCell p v) a xs := by
  rcases h with h | ⟨b, off, e, hB, hb1, hc⟩
  · exact .inl h
  · exact .inr ⟨b, off, e, hB, by simpa using hb1, fun j hj => by
      rw [World.cell?_setCell_other _ _ _ _ (fun e => by subst e; simp only at hp; omega)]; exact hc j hj⟩
theorem RowK.of_blk {K : IntKind} {w : World} {B b : Nat} {xs : List Int} {rest : List Value} {t : TypeId} (h : Blk w b (xs.map (Value.int K) ++ rest) t) (hB : B ≤ b) : RowK K B w (some ⟨b, 0, none⟩) xs :=
  .inr ⟨b, 0, rfl, hB, h.lt, fun j hj => by
    rw [Nat.zero_add]
    exact h.cell j _ (by rw [List.getElem?_append_left (by simpa using hj)]; simp [List.getD, List.getElem?_eq_getElem hj])⟩

abbrev Row := RowK .i64
theorem Row.of_blk {w : World} {B b : Nat} {xs : List Int} {rest : List Value} {t : TypeId} (h : Blk w b (xs.map (Value.int .i64) ++ rest) t) (hB : B ≤ b) : Row B w (some ⟨b, 0, none⟩) xs := RowK.of_blk h hB

theorem ret_int {k : IntKind} {a b : Int} (h : a = b) : Ending.returned (.int k a) = .returned (.int k b) := by rw [h]
theorem ret_bool {a b : Bool} (h : a = b) : Ending.returned (.bool a) = .returned (.bool b) := by rw [h]

end Go.Proofs.Ytbnnjiaegoedoaa
