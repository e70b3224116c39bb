/- Blocks that are stored into by ranges; the schedule and the rounds, as plain functions. -/
import Derived.Test.YtogpecgbgfcdcaaSF
namespace Go.Proofs.Ytogpecgbgfcdcaa
open Go.RowKit

def putL (vs : List Value) (o : Nat) : List Value → List Value
  | [] => vs
  | u :: us => putL (vs.set o u) (o + 1) us
theorem Blk.puts {b : Nat} {t : TypeId} : ∀ (us : List Value) (o : Nat) (vs : List Value) (w : World), Blk w b vs t → Blk (w.setCells b o us) b (putL vs o us) t
  | [], _, _, _, h => h
  | u :: us, o, vs, w, h => Blk.puts us (o + 1) (vs.set o u) _ (h.set o u)
theorem putL_length : ∀ (us : List Value) (o : Nat) (vs : List Value), (putL vs o us).length = vs.length
  | [], _, _ => rfl
  | u :: us, o, vs => by rw [putL, putL_length us]; simp
theorem putL_get : ∀ (us : List Value) (o : Nat) (vs : List Value) (i : Nat), o + us.length ≤ vs.length → (putL vs o us)[i]? = if o ≤ i ∧ i < o + us.length then us[i - o]? else vs[i]?
  | [], o, vs, i, _ => by simp [putL]; intro h1 h2; omega
  | u :: us, o, vs, i, h => by
    simp only [List.length_cons] at h
    rw [putL, putL_get us (o + 1) _ i (by simp; omega), List.getElem?_set]
    by_cases e : i = o
    · subst e
      rw [if_neg (by omega), if_pos rfl, if_pos (by omega), if_pos (by simp)]
      simp
    · by_cases h1 : o + 1 ≤ i ∧ i < o + 1 + us.length
      · rw [if_pos h1, if_pos (by simp; omega), show i - o = (i - (o + 1)) + 1 from by omega]; simp
      · rw [if_neg h1, if_neg (fun e' => e e'.symm), if_neg (by simp; omega)]
theorem putL_all (us vs : List Value) (h : us.length = vs.length) : putL vs 0 us = us := by
  apply List.ext_getElem?
  intro i
  rw [putL_get us 0 vs i (by omega)]
  by_cases hi : i < us.length
  · rw [if_pos (by omega)]; simp
  · rw [if_neg (by omega), List.getElem?_eq_none (by omega), List.getElem?_eq_none (by omega)]
theorem Blk.puts_all {w : World} {b : Nat} {t : TypeId} {vs us : List Value} (h : Blk w b vs t) (hl : us.length = vs.length) : Blk (w.setCells b 0 us) b us t := by
  have := h.puts us 0; rwa [putL_all us vs hl] at this
theorem Blk.puts_other {b c : Nat} {t : TypeId} (hc : c ≠ b) : ∀ (us : List Value) (o : Nat) (vs : List Value) (w : World), Blk w b vs t → Blk (w.setCells c o us) b vs t
  | [], _, _, _, h => h
  | u :: us, o, vs, w, h => Blk.puts_other hc us (o + 1) vs _ (h.set_other hc u)
theorem Blk.there {w : World} {b : Nat} {vs : List Value} {t : TypeId} (h : Blk w b vs t) (o n : Nat) (hn : o + n ≤ vs.length) : w.there b o n := fun j hj =>
  ⟨by rw [h.cell (o + j) vs[o + j] (List.getElem?_eq_getElem (by omega))]; rfl, h.free _⟩
theorem Blk.range {w : World} {b : Nat} {vs : List Value} {t : TypeId} (h : Blk w b vs t) (o : Nat) (cs : List Value) (hc : ∀ j v, cs[j]? = some v → vs[o + j]? = some v) : w.rangeAt b o cs := fun j v hj => h.cell _ v (hc j v hj)
theorem wds_length (l : List Nat) : (wds l).length = l.length := by simp [wds]
theorem wds_get (l : List Nat) (i : Nat) (h : i < l.length) : (wds l)[i]? = some (.int .u32 ((l.getD i 0 : Nat) : Int)) := by simp [wds, List.getD, h]
theorem wds_append (a b : List Nat) : wds (a ++ b) = wds a ++ wds b := by simp [wds]
theorem wds_set (l : List Nat) (i x : Nat) : (wds l).set i (.int .u32 (x : Int)) = wds (l.set i x) := by simp [wds, List.map_set]

/-- Below block number B, but for block p, the world w' is as w was. -/
structure But (p B : Nat) (w w' : World) : Prop where
  os : w'.os = w.os
  tape : w'.tape = w.tape
  output : w'.output = w.output
  size : w.heap.size ≤ w'.heap.size
  block : ∀ k, k < B → k ≠ p → w'.heap[k]? = w.heap[k]?
theorem But.of {p B : Nat} {w w' : World} (h : Below B w w') : But p B w w' := ⟨h.os, h.tape, h.output, h.size, fun k hk _ => h.block k hk⟩
theorem But.refl (p B : Nat) (w : World) : But p B w w := But.of (Below.refl _ _)
theorem But.trans {p B : Nat} {a b c : World} (h : But p B a b) (k : But p B b c) : But p B a c :=
  ⟨k.os.trans h.os, k.tape.trans h.tape, k.output.trans h.output, Nat.le_trans h.size k.size, fun i hi hp => (k.block i hi hp).trans (h.block i hi hp)⟩
theorem But.mono {p B B' : Nat} {w w' : World} (h : But p B w w') (hB : B' ≤ B) : But p B' w w' := ⟨h.os, h.tape, h.output, h.size, fun k hk => h.block k (Nat.lt_of_lt_of_le hk hB)⟩
theorem But.drew {p B : Nat} {a w : World} (h : But p B a w) : But p B a w.drew := ⟨h.os, h.tape, h.output, h.size, h.block⟩
theorem But.setCell {p B : Nat} {a w : World} (h : But p B a w) {x : Addr} (hx : B ≤ x.block ∨ x.block = p) (u : Value) : But p B a (w.setCell x u) :=
  h.trans ⟨rfl, rfl, rfl, by simp [World.setCell], fun k hk hp => Below.heap_setCell _ _ _ _ (by omega)⟩
/-- Of what was there below p nothing has turned. -/
theorem But.below {p B B' : Nat} {w w' : World} (h : But p B w w') (hB : B' ≤ B) (hp : B' ≤ p) : Below B' w w' := ⟨h.os, h.tape, h.output, h.size, fun k hk => h.block k (by omega) (by omega)⟩
theorem Blk.but {w w' : World} {p B b : Nat} {vs : List Value} {t : TypeId} (h : Blk w b vs t) (hb : But p B w w') (hB : b < B) (hp : b ≠ p) : Blk w' b vs t := by
  unfold Blk at h ⊢; rw [hb.block b hB hp]; exact h
theorem But.cell {p B : Nat} {w w' : World} (h : But p B w w') {x : Addr} (hx : x.block < B) (hp : x.block ≠ p) : w'.cell? x = w.cell? x := World.cell?_of_block (w := w) (h.block x.block hx hp)

/-- The word of four bytes at place i. -/
def be32 (bs : List UInt8) (i : Nat) : Nat :=
  (bs.getD (4 * i) 0).toNat * 2 ^ 24 ||| (bs.getD (4 * i + 1) 0).toNat * 2 ^ 16 ||| (bs.getD (4 * i + 2) 0).toNat * 2 ^ 8 ||| (bs.getD (4 * i + 3) 0).toNat
def wnext (ws : List Nat) (i : Nat) : Nat :=
  (((ws.getD (i - 16) 0 + smallF (ws.getD (i - 15) 0) 7 18 3) % 4294967296 + ws.getD (i - 7) 0) % 4294967296 + smallF (ws.getD (i - 2) 0) 17 19 10) % 4294967296
/-- The first k words of the schedule. -/
def sched (bs : List UInt8) : Nat → List Nat
  | 0 => []
  | k + 1 => sched bs k ++ [if k < 16 then be32 bs k else wnext (sched bs k) k]
theorem sched_length (bs : List UInt8) (k : Nat) : (sched bs k).length = k := by induction k with | zero => rfl | succ k ih => simp [sched, ih]

def n32 (x : Nat) : Nat := 4294967295 ^^^ x
def chF (e f g : Nat) : Nat := (e &&& f) ^^^ (n32 e &&& g)
def majF (a b c : Nat) : Nat := (a &&& b) ^^^ (a &&& c) ^^^ (b &&& c)
def rnd (v : List Nat) (k w : Nat) : List Nat :=
  let t := ((((v.getD 7 0 + turnedF (v.getD 4 0) 6 11 25) % 4294967296 + chF (v.getD 4 0) (v.getD 5 0) (v.getD 6 0)) % 4294967296 + k) % 4294967296 + w) % 4294967296
  let u := (turnedF (v.getD 0 0) 2 13 22 + majF (v.getD 0 0) (v.getD 1 0) (v.getD 2 0)) % 4294967296
  [(t + u) % 4294967296, v.getD 0 0, v.getD 1 0, v.getD 2 0, (v.getD 3 0 + t) % 4294967296, v.getD 4 0, v.getD 5 0, v.getD 6 0]
def rnds (ws h : List Nat) : Nat → List Nat
  | 0 => h
  | k + 1 => rnd (rnds ws h k) (kwords.getD k 0) (ws.getD k 0)
/-- A block taken: the words behind it. -/
def comp (h : List Nat) (bs : List UInt8) : List Nat := (List.range 8).map fun i => (h.getD i 0 + (rnds (sched bs 64) h 64).getD i 0) % 4294967296

def w32 (l : List Nat) : Prop := ∀ i, l.getD i 0 < 4294967296
theorem be32_lt (bs : List UInt8) (i : Nat) : be32 bs i < 4294967296 := by
  have h : ∀ (b : UInt8) (k : Nat), k ≤ 24 → b.toNat * 2 ^ k < 2 ^ 32 := fun b k hk => by
    have h1 := b.toNat_lt
    have h2 : (2 : Nat) ^ k ≤ 2 ^ 24 := Nat.pow_le_pow_right (by decide) hk
    calc b.toNat * 2 ^ k ≤ 255 * 2 ^ 24 := Nat.mul_le_mul (by omega) h2
      _ < 2 ^ 32 := by decide
  exact Nat.or_lt_two_pow (Nat.or_lt_two_pow (Nat.or_lt_two_pow (h _ _ (by decide)) (h _ _ (by decide))) (h _ _ (by decide))) (by have := h (bs.getD (4 * i + 3) 0) 0 (by decide); simpa using this)
theorem sched_lt (bs : List UInt8) (k : Nat) : w32 (sched bs k) := by
  induction k with
  | zero => intro i; simp [sched]
  | succ k ih =>
    intro i
    simp only [sched, List.getD, List.getElem?_append, sched_length]
    by_cases h1 : i < k
    · rw [if_pos h1]; exact ih i
    · rw [if_neg h1]
      by_cases h2 : i = k
      · subst h2
        simp only [Nat.sub_self, List.getElem?_cons_zero, Option.getD_some]
        by_cases h3 : i < 16
        · rw [if_pos h3]; exact be32_lt bs i
        · rw [if_neg h3]; exact Nat.mod_lt _ (by decide)
      · rw [List.getElem?_eq_none (by simp; omega)]; decide
theorem rnd_lt (v : List Nat) (k w : Nat) (hv : w32 v) : w32 (rnd v k w) := by
  intro i
  simp only [rnd]
  match i with
  | 0 => exact Nat.mod_lt _ (by decide)
  | 1 => exact hv 0
  | 2 => exact hv 1
  | 3 => exact hv 2
  | 4 => exact Nat.mod_lt _ (by decide)
  | 5 => exact hv 4
  | 6 => exact hv 5
  | 7 => exact hv 6
  | i + 8 => simp [List.getD]
theorem rnds_lt (ws h : List Nat) (hh : w32 h) (k : Nat) : w32 (rnds ws h k) := by
  induction k with
  | zero => exact hh
  | succ k ih => exact rnd_lt _ _ _ ih
theorem rnds_length (ws h : List Nat) (hh : h.length = 8) (k : Nat) : (rnds ws h k).length = 8 := by cases k with | zero => exact hh | succ k => rfl
theorem comp_lt (h : List Nat) (bs : List UInt8) : w32 (comp h bs) := by
  intro i
  unfold comp
  by_cases hi : i < 8
  · simp [List.getD, hi]; exact Nat.mod_lt _ (by decide)
  · simp [List.getD, hi]
theorem comp_length (h : List Nat) (bs : List UInt8) : (comp h bs).length = 8 := by simp [comp]

end Go.Proofs.Ytogpecgbgfcdcaa
