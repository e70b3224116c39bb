/- Bytes as lists; the sectors of a disk as they lie in its block, and what a store makes of them. -/
import Derived.Test.YtbnnjiaegoedoaaA
import Derived.Deep.RegionHeld3
import Derived.Deep.LoopGhost
import Derived.BigQuiet
import Derived.BigRegion
import Derived.Deep.QuietTactic
import Derived.Deep.MidRow
import Derived.Laws.IdiomStrings
import Derived.Laws.BytesArg
import Derived.StillTailTactics
import Derived.Deep.AppendLies
import Derived.Deep.RegionLaw
import Derived.Deep.DeepCutAuto
namespace Go.Proofs.Ytbnnjiaegoedoaa
open Go.RowKit

def nums (bs : List UInt8) : List Int := bs.map fun (b : UInt8) => (b.toNat : Int)
def byv (bs : List UInt8) : List Value := bs.map fun (b : UInt8) => Value.int .u8 (b.toNat : Int)
theorem nums_length (bs : List UInt8) : (nums bs).length = bs.length := by simp [nums]
theorem byv_length (bs : List UInt8) : (byv bs).length = bs.length := by simp [byv]
theorem byv_append (a b : List UInt8) : byv (a ++ b) = byv a ++ byv b := by simp [byv]
theorem byv_one (bs : List UInt8) : ∀ v ∈ byv bs, v.oneCell' = true := by
  intro v hv; obtain ⟨n, _, rfl⟩ := List.mem_map.1 hv; rfl
theorem byv_nums (bs : List UInt8) : (nums bs).map (Value.int .u8) = byv bs := by simp [nums, byv]

/-- The slice at a reads as the bytes bs. -/
def Bys (B : Nat) (w : World) (a : Option Addr) (bs : List UInt8) : Prop := RowK .u8 B w a (nums bs)
theorem Bys.keep {w w' : World} {B C : Nat} {a : Option Addr} {bs : List UInt8} (h : Bys B w a bs) (hs : w.heap.size ≤ C) (hb : Below C w w') : Bys B w' a bs := RowK.keep h hs hb
theorem Bys.below {w w' : World} {B : Nat} {a : Option Addr} {bs : List UInt8} (h : Bys B w a bs) (hb : Below w.heap.size w w') : Bys B w' a bs := RowK.below h hb
theorem Bys.alloc {w : World} {B : Nat} {a : Option Addr} {bs : List UInt8} (h : Bys B w a bs) (o : Obj) : Bys B (w.alloc o) a bs := RowK.alloc h o

/-- A slice of the call's own, with these bytes. -/
def OwnB (w : World) (B : Nat) (v : Value) (bs : List UInt8) : Prop := w.ownsRow B 5 1 v bs.length (byv bs)
theorem OwnB.row {w : World} {B : Nat} {v : Value} {bs : List UInt8} (h : OwnB w B v bs) : ∃ a cap, v = .slice a bs.length cap ∧ bs.length ≤ cap ∧ Bys B w a bs := by
  obtain ⟨_, h | ⟨g, cap, cur, e, hB, hh, hle, hcm, hs, ht⟩⟩ := h
  · obtain ⟨e, hn⟩ := h
    have : bs = [] := List.eq_nil_of_length_eq_zero hn
    subst this
    exact ⟨none, 0, e, Nat.le_refl _, .inl rfl⟩
  · refine ⟨some ⟨g, 0, none⟩, cap, e, hle, .inr ⟨g, 0, rfl, hB, (Array.getElem?_eq_some_iff.1 hh).1, fun j hj => ?_⟩⟩
    rw [nums_length] at hj
    rw [Nat.zero_add]
    have h1 : cur.toList[j]? = some (.int .u8 ((nums bs).getD j 0)) := by
      have : (cur.toList.take (bs.length * 1))[j]? = (byv bs)[j]? := by rw [ht]
      rw [List.getElem?_take, if_pos (by omega)] at this
      rw [this]; simp [byv, nums, List.getD, hj]
    simp [World.cell?, hh]
    simpa using h1
theorem OwnB.keep {w w' : World} {B C : Nat} {v : Value} {bs : List UInt8} (h : OwnB w B v bs) (hs : w.heap.size ≤ C) (hb : Below C w w') : OwnB w' B v bs := by
  obtain ⟨h1, h2 | ⟨g, cap, cur, e, hB, hh, r⟩⟩ := h
  · exact ⟨h1, .inl h2⟩
  · exact ⟨h1, .inr ⟨g, cap, cur, e, hB, by rw [hb.block g (by have := (Array.getElem?_eq_some_iff.1 hh).1; omega)]; exact hh, r⟩⟩

/-- Ranges of cells behind what the call does elsewhere. -/
theorem range_keep {w w' : World} {b o C : Nat} {cs : List Value} (h : w.rangeAt b o cs) (hb : Below C w w') (hC : b < C) : w'.rangeAt b o cs := fun j v hv => by
  rw [hb.cell (p := ⟨b, o + j, none⟩) hC]; exact h j v hv
theorem there_keep {w w' : World} {b o n C : Nat} (h : w.there b o n) (hb : Below C w w') (hC : b < C) : w'.there b o n := fun j hj => by
  rw [hb.cell (p := ⟨b, o + j, none⟩) hC, World.frozen?_of_block (w := w) (w' := w') (a := ⟨b, o + j, none⟩) (hb.block b hC)]; exact h j hj
theorem range_set {w : World} {b o : Nat} {cs : List Value} (h : w.rangeAt b o cs) (p : Addr) (v : Value) (hp : p.block ≠ b ∨ p.off < o ∨ o + cs.length ≤ p.off) : (w.setCell p v).rangeAt b o cs := fun j u hu => by
  have hj : j < cs.length := (List.getElem?_eq_some_iff.1 hu).1
  rw [World.cell?_setCell_other _ _ _ _ (fun e => by subst e; simp only [ne_eq, not_true_eq_false, false_or] at hp; omega)]; exact h j u hu
theorem there_set {w : World} {b o n : Nat} (h : w.there b o n) (p : Addr) (v : Value) : (w.setCell p v).there b o n := fun j hj => by
  obtain ⟨h1, h2⟩ := h j hj
  refine ⟨?_, by rw [World.frozen?_setCell]; exact h2⟩
  obtain ⟨u, hu⟩ := Option.isSome_iff_exists.1 h1
  by_cases e : p = ⟨b, o + j, none⟩
  · subst e; rw [World.cell?_setCell_same _ _ _ hu]; rfl
  · rw [World.cell?_setCell_other _ _ _ _ e, hu]; rfl
theorem there_sub {w : World} {b n : Nat} (h : w.there b 0 n) (o m : Nat) (hm : o + m ≤ n) : w.there b o m := fun j hj => by
  have := h (o + j) (by omega); rwa [Nat.zero_add] at this
theorem below_setCells {B : Nat} {a w : World} (h : Below B a w) (b : Nat) (hb : B ≤ b) : ∀ (vs : List Value) (o : Nat), Below B a (w.setCells b o vs)
  | [], _ => h
  | v :: vs, o => by
    unfold World.setCells
    exact below_setCells (h.setCell (p := ⟨b, o, none⟩) hb v) b hb vs (o + 1)
theorem Blk.setCells {w : World} {b : Nat} {vs : List Value} {t : TypeId} {g : Nat} (hg : g ≠ b) : ∀ (us : List Value) (o : Nat) (w : World), Blk w b vs t → Blk (w.setCells g o us) b vs t
  | [], _, _, h => h
  | u :: us, o, w, h => by
    unfold World.setCells
    exact Blk.setCells (w := w) hg us (o + 1) _ (h.set_other (a := ⟨g, o, none⟩) hg u)

structure Sec where
  now : List UInt8
  safe : List UInt8
  loose : Bool
def Sec.ok (s : Sec) : Prop := s.now.length = 64 ∧ s.safe.length = 64
def zeros64 : List UInt8 := List.replicate 64 0
def Sec.zero : Sec := ⟨zeros64, zeros64, false⟩
theorem zeros64_length : zeros64.length = 64 := by simp [zeros64]

def SecAt (w : World) (B o : Nat) (s : Sec) : Prop := w.rangeAt B o (byv s.now) ∧ w.rangeAt B (o + 64) (byv s.safe) ∧ w.cell? ⟨B, o + 128, none⟩ = some (.bool s.loose)
/-- The sectors in their block. -/
def Secs (w : World) (B : Nat) (l : List Sec) : Prop := w.there B 0 (129 * l.length) ∧ ∀ i s, l[i]? = some s → s.ok ∧ SecAt w B (i * 129) s

theorem Secs.keep {w w' : World} {B C : Nat} {l : List Sec} (h : Secs w B l) (hb : Below C w w') (hC : B < C) : Secs w' B l :=
  ⟨there_keep h.1 hb hC, fun i s hs => by
    obtain ⟨h1, h2, h3, h4⟩ := h.2 i s hs
    exact ⟨h1, range_keep h2 hb hC, range_keep h3 hb hC, by rw [hb.cell (p := ⟨B, i * 129 + 128, none⟩) hC]; exact h4⟩⟩
theorem Secs.set_other {w : World} {B : Nat} {l : List Sec} (h : Secs w B l) (p : Addr) (v : Value) (hp : p.block ≠ B) : Secs (w.setCell p v) B l :=
  ⟨there_set h.1 p v, fun i s hs => by
    obtain ⟨h1, h2, h3, h4⟩ := h.2 i s hs
    exact ⟨h1, range_set h2 p v (.inl hp), range_set h3 p v (.inl hp), by rw [World.cell?_setCell_other _ _ _ _ (fun e => hp (by rw [e]))]; exact h4⟩⟩
theorem Secs.drew {w : World} {B : Nat} {l : List Sec} (h : Secs w B l) : Secs w.drew B l := h

theorem set_at {l : List Sec} {i j : Nat} {x s : Sec} (h : (l.set i x)[j]? = some s) : (j = i ∧ s = x ∧ i < l.length) ∨ (j ≠ i ∧ l[j]? = some s) := by
  rw [List.getElem?_set] at h
  by_cases e : i = j
  · subst e
    rw [if_pos rfl] at h
    by_cases hl : i < l.length
    · rw [if_pos hl] at h; exact .inl ⟨rfl, by simpa using h.symm, hl⟩
    · rw [if_neg hl] at h; simp at h
  · rw [if_neg e] at h; exact .inr ⟨Ne.symm e, h⟩

theorem Secs.now {w : World} {B : Nat} {l : List Sec} (h : Secs w B l) {i : Nat} {s : Sec} (hi : l[i]? = some s) {bs : List UInt8} (hb : bs.length = 64) :
    Secs (w.setCells B (i * 129) (byv bs)) B (l.set i { s with now := bs }) := by
  have hil : i < l.length := (List.getElem?_eq_some_iff.1 hi).1
  refine ⟨by rw [List.length_set]; exact World.there_setCells h.1 _ _ _, fun j u hu => ?_⟩
  have hl : (byv bs).length = 64 := by rw [byv_length, hb]
  rcases set_at hu with ⟨rfl, rfl, _⟩ | ⟨hne, hu⟩
  · obtain ⟨h1, h2, h3, h4⟩ := h.2 j s hi
    refine ⟨⟨hb, h1.2⟩, World.rangeAt_setCells_same _ _ _ _ (there_sub h.1 _ _ (by omega)), World.rangeAt_setCells_apart h3 _ _ _ (.inr (.inr (by omega))), ?_⟩
    rw [World.cell?_setCells_out _ _ _ _ _ (fun _ _ => .inr (by show _ ≤ j * 129 + 128; omega))]; exact h4
  · obtain ⟨h1, h2, h3, h4⟩ := h.2 j u hu
    have e1 : (byv u.now).length = 64 := by rw [byv_length, h1.1]
    have e2 : (byv u.safe).length = 64 := by rw [byv_length, h1.2]
    refine ⟨h1, World.rangeAt_setCells_apart h2 _ _ _ (.inr (by omega)), World.rangeAt_setCells_apart h3 _ _ _ (.inr (by omega)), ?_⟩
    rw [World.cell?_setCells_out _ _ _ _ _ (fun _ _ => by show j * 129 + 128 < _ ∨ _ ≤ j * 129 + 128; omega)]; exact h4
theorem Secs.safe {w : World} {B : Nat} {l : List Sec} (h : Secs w B l) {i : Nat} {s : Sec} (hi : l[i]? = some s) {bs : List UInt8} (hb : bs.length = 64) :
    Secs (w.setCells B (i * 129 + 64) (byv bs)) B (l.set i { s with safe := bs }) := by
  have hil : i < l.length := (List.getElem?_eq_some_iff.1 hi).1
  refine ⟨by rw [List.length_set]; exact World.there_setCells h.1 _ _ _, fun j u hu => ?_⟩
  have hl : (byv bs).length = 64 := by rw [byv_length, hb]
  rcases set_at hu with ⟨rfl, rfl, _⟩ | ⟨hne, hu⟩
  · obtain ⟨h1, h2, h3, h4⟩ := h.2 j s hi
    have e1 : (byv s.now).length = 64 := by rw [byv_length, h1.1]
    refine ⟨⟨h1.1, hb⟩, World.rangeAt_setCells_apart h2 _ _ _ (.inr (.inl (by omega))), World.rangeAt_setCells_same _ _ _ _ (there_sub h.1 _ _ (by omega)), ?_⟩
    rw [World.cell?_setCells_out _ _ _ _ _ (fun _ _ => .inr (by show _ ≤ j * 129 + 128; omega))]; exact h4
  · obtain ⟨h1, h2, h3, h4⟩ := h.2 j u hu
    have e1 : (byv u.now).length = 64 := by rw [byv_length, h1.1]
    have e2 : (byv u.safe).length = 64 := by rw [byv_length, h1.2]
    refine ⟨h1, World.rangeAt_setCells_apart h2 _ _ _ (.inr (by omega)), World.rangeAt_setCells_apart h3 _ _ _ (.inr (by omega)), ?_⟩
    rw [World.cell?_setCells_out _ _ _ _ _ (fun _ _ => by show j * 129 + 128 < _ ∨ _ ≤ j * 129 + 128; omega)]; exact h4
theorem Secs.loose {w : World} {B : Nat} {l : List Sec} (h : Secs w B l) {i : Nat} {s : Sec} (hi : l[i]? = some s) (x : Bool) :
    Secs (w.setCell ⟨B, i * 129 + 128, none⟩ (.bool x)) B (l.set i { s with loose := x }) := by
  have hil : i < l.length := (List.getElem?_eq_some_iff.1 hi).1
  refine ⟨by rw [List.length_set]; exact there_set h.1 _ _, fun j u hu => ?_⟩
  rcases set_at hu with ⟨rfl, rfl, _⟩ | ⟨hne, hu⟩
  · obtain ⟨h1, h2, h3, h4⟩ := h.2 j s hi
    have e1 : (byv s.now).length = 64 := by rw [byv_length, h1.1]
    have e2 : (byv s.safe).length = 64 := by rw [byv_length, h1.2]
    refine ⟨h1, range_set h2 _ _ (.inr (.inr (by show _ ≤ j * 129 + 128; omega))), range_set h3 _ _ (.inr (.inr (by show _ ≤ j * 129 + 128; omega))), World.cell?_setCell_same _ _ _ h4⟩
  · obtain ⟨h1, h2, h3, h4⟩ := h.2 j u hu
    have e1 : (byv u.now).length = 64 := by rw [byv_length, h1.1]
    have e2 : (byv u.safe).length = 64 := by rw [byv_length, h1.2]
    refine ⟨h1, range_set h2 _ _ (.inr (by show i * 129 + 128 < _ ∨ _ ≤ i * 129 + 128; omega)), range_set h3 _ _ (.inr (by show i * 129 + 128 < _ ∨ _ ≤ i * 129 + 128; omega)), ?_⟩
    rw [World.cell?_setCell_other _ _ _ _ (fun e => by simp only [Addr.mk.injEq] at e; omega)]; exact h4

/-- The cells of a new sector. -/
theorem byv_zeros (n : Nat) : byv (List.replicate n 0) = List.replicate n (.int .u8 0) := by simp [byv]
theorem zeros_at (n k : Nat) (h : k < n) : (byv (List.replicate n 0))[k]? = some (.int .u8 0) := by rw [byv_zeros]; simp [h]
def zeroCells : Array Value := (byv (List.replicate 128 0) ++ [Value.bool false]).toArray
theorem zeroCells_size : zeroCells.size = 129 := by unfold zeroCells; rw [List.size_toArray, List.length_append, byv_length, List.length_replicate]; rfl
theorem zeroCells_num (k : Nat) (h : k < 128) : zeroCells[k]! = .int .u8 0 := by
  have e : zeroCells[k]? = some (.int .u8 0) := by
    unfold zeroCells
    rw [List.getElem?_toArray, List.getElem?_append_left (by rw [byv_length, List.length_replicate]; exact h), zeros_at _ _ h]
  rw [getElem!_def, e]
theorem zeroCells_last : zeroCells[128]! = .bool false := by
  have e : zeroCells[128]? = some (.bool false) := by
    unfold zeroCells
    rw [List.getElem?_toArray, List.getElem?_append_right (by rw [byv_length, List.length_replicate]; exact Nat.le_refl _), byv_length, List.length_replicate]; rfl
  rw [getElem!_def, e]
theorem Try.info47 : (Try.prog.info? 47).map (fun i => (i.zero, i.size, i.bytes)) = some (some (.agg zeroCells), 129, 129) := by kernel_rfl

theorem Secs.made (w : World) (n : Nat) : Secs (w.alloc (.cells (madeCells zeroCells (n * 129)) 47)) w.heap.size (List.replicate n Sec.zero) := by
  have hc : ∀ o, o < n * 129 → (w.alloc (.cells (madeCells zeroCells (n * 129)) 47)).cell? ⟨w.heap.size, o, none⟩ = some (zeroCells[o % 129]!) := fun o ho => by
    rw [World.cell?_alloc_new]
    simp [madeCells, ho, zeroCells_size]
  refine ⟨fun j hj => ?_, fun i s hs => ?_⟩
  · rw [List.length_replicate] at hj
    rw [Nat.zero_add]
    exact ⟨by rw [hc j (by omega)]; rfl, World.frozen?_alloc_new w _ 47 j⟩
  · have hi : i < n := by have := (List.getElem?_eq_some_iff.1 hs).1; simpa using this
    have e : s = Sec.zero := by simpa [hi] using hs.symm
    subst e
    refine ⟨⟨zeros64_length, zeros64_length⟩, fun j v hv => ?_, fun j v hv => ?_, ?_⟩
    · have hj : j < 64 := by have := (List.getElem?_eq_some_iff.1 hv).1; rw [byv_length] at this; exact Nat.lt_of_lt_of_le this (Nat.le_of_eq zeros64_length)
      rw [hc _ (by omega), show (i * 129 + j) % 129 = j by omega, zeroCells_num j (by omega)]
      rw [← hv]; exact (zeros_at 64 j hj).symm
    · have hj : j < 64 := by have := (List.getElem?_eq_some_iff.1 hv).1; rw [byv_length] at this; exact Nat.lt_of_lt_of_le this (Nat.le_of_eq zeros64_length)
      rw [hc _ (by omega), show (i * 129 + 64 + j) % 129 = 64 + j by omega, zeroCells_num (64 + j) (by omega)]
      rw [← hv]; exact (zeros_at 64 j hj).symm
    · rw [hc _ (by omega), show (i * 129 + 128) % 129 = 128 by omega, zeroCells_last]; rfl

/-- A disk of these sectors, that is up, and set to no crash. -/
structure DiskAt (w : World) (d B : Nat) (l : List Sec) (c : Int) : Prop where
  blk : Blk w d [.slice (some ⟨B, 0, none⟩) l.length l.length, .int .i64 0, .int .i64 c, .bool false] 43
  secs : Secs w B l
  ne : d ≠ B
  lt : B < w.heap.size
theorem DiskAt.keep {w w' : World} {d B C : Nat} {l : List Sec} {c : Int} (h : DiskAt w d B l c) (hs : w.heap.size ≤ C) (hb : Below C w w') : DiskAt w' d B l c :=
  ⟨h.blk.below hb (Nat.lt_of_lt_of_le h.blk.lt hs), h.secs.keep hb (Nat.lt_of_lt_of_le h.lt hs), h.ne, by have := hb.size; have := h.lt; omega⟩
theorem DiskAt.below {w w' : World} {d B : Nat} {l : List Sec} {c : Int} (h : DiskAt w d B l c) (hb : Below w.heap.size w w') : DiskAt w' d B l c := h.keep (Nat.le_refl _) hb
theorem DiskAt.alloc {w : World} {d B : Nat} {l : List Sec} {c : Int} (h : DiskAt w d B l c) (o : Obj) : DiskAt (w.alloc o) d B l c := h.below ((Below.refl _ _).alloc (Nat.le_refl _) o)

end Go.Proofs.Ytbnnjiaegoedoaa
