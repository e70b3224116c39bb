/- The contract of (*Hash).block: its first loop. -/
import Derived.Test.YtogpecgbgfcdcaaSG0
import Derived.BigRegion
import Derived.Deep.RegionLaw
import Derived.StillTailTactics
import Derived.Deep.DeepCutAuto
namespace Go.Proofs.Ytogpecgbgfcdcaa
open Go.RowKit

theorem Try.size44 : (Try.prog.info? 44).map (·.size) = some 8 := by kernel_rfl
def zer32 (n : Nat) : List Value := List.replicate n (Value.int .u32 0)
theorem be_fin (a b c d : Nat) (ha : a < 256) (hb : b < 256) (hc : c < 256) (hd : d < 256) :
    bits .or .u32 (bits .or .u32 (bits .or .u32 ((a : Int) * 16777216) ((b : Int) * 65536)) ((c : Int) * 256)) (d : Int) = ((a * 2 ^ 24 ||| b * 2 ^ 16 ||| c * 2 ^ 8 ||| d : Nat) : Int) := by
  have h1 : a * 2 ^ 24 < 4294967296 := Nat.lt_of_le_of_lt (Nat.mul_le_mul_right (2 ^ 24) (show a ≤ 255 by omega)) (by decide)
  have h2 : b * 2 ^ 16 < 4294967296 := Nat.lt_of_le_of_lt (Nat.mul_le_mul_right (2 ^ 16) (show b ≤ 255 by omega)) (by decide)
  have h3 : c * 2 ^ 8 < 4294967296 := Nat.lt_of_le_of_lt (Nat.mul_le_mul_right (2 ^ 8) (show c ≤ 255 by omega)) (by decide)
  have e1 := or32 _ _ h1 h2
  have l1 := Nat.or_lt_two_pow (n := 32) h1 h2
  have e2 := or32 _ _ l1 h3
  have l2 := Nat.or_lt_two_pow (n := 32) l1 h3
  have e3 := or32 _ d l2 (by omega)
  rw [← e3, ← e2, ← e1]
  congr 3
theorem u32_of (x : Int) (h0 : 0 ≤ x) (h1 : x < 4294967296) : IntKind.u32.wrap x = x := by rw [IntKind.wrap_u32']; omega

theorem size_setCells (b : Nat) : ∀ (us : List Value) (o : Nat) (w : World), (w.setCells b o us).heap.size = w.heap.size
  | [], _, _ => rfl
  | u :: us, o, w => by rw [World.setCells, size_setCells b us]; simp

/-- A whole array stored into a variable of its own. -/
theorem store_whole {ops : Array Oper} {rest : List Oper} {op : Oper} {a : Act} {w : World} {Q : Exit → Act → World → Prop} (hgd : op.guard = none) (ty : TypeId) (x y : Operand) (ho : op.op = .store ty x y)
    (b : Nat) (us vs : List Value) (t : TypeId) (hx : a.eval x = .pointer (some ⟨b, 0, none⟩)) (hy : a.eval y = .agg us.toArray)
    (hB : Blk w b vs t) (hl : us.length = vs.length) (hi : (Try.prog.info? ty).map (·.size) = some us.length) (h1 : ∀ v ∈ us, v.oneCell' = true)
    (h : ∀ w2, Blk w2 b us t → (∀ c cs t', c ≠ b → Blk w c cs t' → Blk w2 c cs t') → w2.heap.size = w.heap.size → (∀ B a, B ≤ b → Below B a w → Below B a w2) → wpList Try.prog ops Q rest (a.put op.dst undef) w2) :
    wpList Try.prog ops Q (op :: rest) a w :=
  wpList_store_mid hgd ty x y ho b 0 us.toArray hx hy (by rw [List.size_toArray, hl]; exact hB.there 0 _ (by omega)) (by rw [List.size_toArray]; exact hi) (all_oneCell_toArray h1)
    (h _ (hB.puts_all hl) (fun c cs t' hc h => Blk.puts_other (fun e => hc e.symm) us 0 cs w h) (size_setCells b us 0 w) (fun B a hb h => below_setCells h b hb us 0))

/-- The bytes of a row, as the schedule asks for them. -/
theorem Bys.at {w : World} {B : Nat} {a : Option Addr} {bs : List UInt8} (h : Bys B w a bs) (h0 : 0 < bs.length) :
    ∃ b off, a = some ⟨b, off, none⟩ ∧ B ≤ b ∧ b < w.heap.size ∧ ∀ j, j < bs.length → w.cell? ⟨b, off + j, none⟩ = some (.int .u8 (((bs.getD j 0).toNat : Nat) : Int)) := by
  rcases h with h | ⟨b, off, e, hB, hb, hc⟩
  · have : bs = [] := by simpa [nums] using h
    subst this; simp at h0
  · refine ⟨b, off, e, hB, hb, fun j hj => ?_⟩
    rw [hc j (by rw [nums_length]; exact hj)]
    simp [nums, List.getD, hj]

theorem eight {l : List Nat} (h : l.length = 8) : ∃ a b c d e f g k, l = [a, b, c, d, e, f, g, k] := by
  match l, h with
  | [a, b, c, d, e, f, g, k], _ => exact ⟨a, b, c, d, e, f, g, k, rfl⟩
def st8 (a b c d e f g k : Nat) (v : Value) (n : Int) : List Value := [.int .u32 a, .int .u32 b, .int .u32 c, .int .u32 d, .int .u32 e, .int .u32 f, .int .u32 g, .int .u32 k, v, .int .i64 n]
theorem kw_lt (k : Nat) : kwords.getD k 0 < 4294967296 := by
  by_cases h : k < 64
  · exact (by decide +kernel : ∀ k, k < 64 → kwords.getD k 0 < 4294967296) k h
  · rw [List.getD, List.getElem?_eq_none (by show 64 ≤ k; omega)]; decide
theorem n32_lt (x : Nat) (h : x < 4294967296) : n32 x < 4294967296 := Nat.xor_lt_two_pow (n := 32) (by decide) h
theorem not32 (x : Nat) (h : x < 4294967296) : bits .xor .u32 (if IntKind.u32.signed = true then -1 else IntKind.u32.max) (x : Int) = ((n32 x : Nat) : Int) := xor32 4294967295 x (by decide) h
theorem ch_fin (e f g : Nat) (he : e < 4294967296) (hf : f < 4294967296) (hg : g < 4294967296) :
    bits .xor .u32 (bits .and .u32 (e : Int) (f : Int)) (bits .and .u32 (bits .xor .u32 (if IntKind.u32.signed = true then -1 else IntKind.u32.max) (e : Int)) (g : Int)) = ((chF e f g : Nat) : Int) := by
  rw [not32 e he, and32 e f he hf, and32 _ g (n32_lt e he) hg, xor32 _ _ (Nat.and_lt_two_pow (n := 32) e hf) (Nat.and_lt_two_pow (n := 32) _ hg)]; rfl
theorem maj_fin (a b c : Nat) (ha : a < 4294967296) (hb : b < 4294967296) (hc : c < 4294967296) :
    bits .xor .u32 (bits .xor .u32 (bits .and .u32 (a : Int) (b : Int)) (bits .and .u32 (a : Int) (c : Int))) (bits .and .u32 (b : Int) (c : Int)) = ((majF a b c : Nat) : Int) := by
  have h1 : a &&& b < 4294967296 := Nat.and_lt_two_pow (n := 32) a hb
  have h2 : a &&& c < 4294967296 := Nat.and_lt_two_pow (n := 32) a hc
  have h3 : b &&& c < 4294967296 := Nat.and_lt_two_pow (n := 32) b hc
  rw [and32 a b ha hb, and32 a c ha hc, and32 b c hb hc, xor32 _ _ h1 h2, xor32 _ _ (Nat.xor_lt_two_pow (n := 32) h1 h2) h3]; rfl
theorem ch_lt (e f g : Nat) (hf : f < 4294967296) (hg : g < 4294967296) : chF e f g < 4294967296 := Nat.xor_lt_two_pow (n := 32) (Nat.and_lt_two_pow (n := 32) e hf) (Nat.and_lt_two_pow (n := 32) _ hg)
theorem maj_lt (a b c : Nat) (hb : b < 4294967296) (hc : c < 4294967296) : majF a b c < 4294967296 :=
  Nat.xor_lt_two_pow (n := 32) (Nat.xor_lt_two_pow (n := 32) (Nat.and_lt_two_pow (n := 32) a hb) (Nat.and_lt_two_pow (n := 32) a hc)) (Nat.and_lt_two_pow (n := 32) b hc)
def rndV (a b c d e f g t ta mj : Nat) : List Nat := [(t + (ta + mj)) % 4294967296, a, b, c, (d + t) % 4294967296, e, f, g]
theorem rnd_eq (a b c d e f g h k w : Nat) : rnd [a, b, c, d, e, f, g, h] k w = rndV a b c d e f g (((((h + turnedF e 6 11 25) % 4294967296 + chF e f g) % 4294967296 + k) % 4294967296 + w) % 4294967296) (turnedF a 2 13 22) (majF a b c) := by
  unfold rnd rndV
  simp only [List.getD_cons_zero, List.getD_cons_succ]
  rw [Nat.add_mod_mod]
/-- The words, the first i of them added to. -/
def part (hs vs : List Nat) (i : Nat) : List Nat := (List.range 8).map fun j => if j < i then (hs.getD j 0 + vs.getD j 0) % 4294967296 else hs.getD j 0
theorem part_length (hs vs : List Nat) (i : Nat) : (part hs vs i).length = 8 := by simp [part]
theorem part_zero (a b c d e f g h : Nat) (vs : List Nat) : part [a, b, c, d, e, f, g, h] vs 0 = [a, b, c, d, e, f, g, h] := rfl
theorem part_getD (hs vs : List Nat) (i j : Nat) (hj : j < 8) : (part hs vs i).getD j 0 = if j < i then (hs.getD j 0 + vs.getD j 0) % 4294967296 else hs.getD j 0 := by
  simp [part, List.getD, hj]
theorem part_step (hs vs : List Nat) (i : Nat) (hi : i < 8) : (part hs vs i).set i ((hs.getD i 0 + vs.getD i 0) % 4294967296) = part hs vs (i + 1) := by
  apply List.ext_getElem?
  intro j
  rw [List.getElem?_set]
  by_cases e : i = j
  · subst e
    rw [if_pos rfl, if_pos (by rw [part_length]; exact hi)]
    simp [part, hi]
  · rw [if_neg e]
    by_cases hj : j < 8
    · simp only [part, List.getElem?_map, List.getElem?_range hj, Option.map_some]
      by_cases h1 : j < i
      · rw [if_pos h1, if_pos (by omega)]
      · rw [if_neg h1, if_neg (by omega)]
    · rw [List.getElem?_eq_none (by rw [part_length]; omega), List.getElem?_eq_none (by rw [part_length]; omega)]
theorem part_all (hs vs : List Nat) (bs : List UInt8) (h : vs = rnds (sched bs 64) hs 64) : part hs vs 8 = comp hs bs := by
  subst h
  unfold part comp
  apply List.map_congr_left
  intro j hj
  rw [if_pos (List.mem_range.1 hj)]
theorem part_at (hs vs : List Nat) (i : Nat) (hi : i < 8) (r : List Value) : (wds (part hs vs i) ++ r)[i]? = some (.int .u32 ((hs.getD i 0 : Nat) : Int)) := by
  rw [List.getElem?_append_left (by rw [wds_length, part_length]; exact hi), wds_get _ _ (by rw [part_length]; exact hi), part_getD _ _ _ _ hi, if_neg (by omega)]
theorem part_put (hs vs : List Nat) (i : Nat) (hi : i < 8) (r : List Value) : (wds (part hs vs i) ++ r).set i (.int .u32 (((hs.getD i 0 + vs.getD i 0) % 4294967296 : Nat) : Int)) = wds (part hs vs (i + 1)) ++ r := by
  rw [List.set_append_left _ _ (by rw [wds_length, part_length]; exact hi), wds_set, part_step hs vs i hi]
theorem zer32_succ (n i : Nat) (h : i < n) : zer32 (n - i) = Value.int .u32 0 :: zer32 (n - (i + 1)) := by
  obtain ⟨m, rfl⟩ : ∃ m, n = i + 1 + m := ⟨n - (i + 1), by omega⟩
  rw [show i + 1 + m - i = m + 1 from by omega, show i + 1 + m - (i + 1) = m from by omega]; rfl
theorem sched_slot (bs : List UInt8) (i : Nat) (h : i < 64) : (wds (sched bs i) ++ zer32 (64 - i))[i]? = some (.int .u32 0) := by
  rw [List.getElem?_append_right (by rw [wds_length, sched_length]; omega), wds_length, sched_length, Nat.sub_self, zer32_succ 64 i h]; rfl
theorem sched_get (bs : List UInt8) (i j : Nat) (h : j < i) : (wds (sched bs i) ++ zer32 (64 - i))[j]? = some (.int .u32 (((sched bs i).getD j 0 : Nat) : Int)) := by
  rw [List.getElem?_append_left (by rw [wds_length, sched_length]; exact h), wds_get _ _ (by rw [sched_length]; exact h)]
theorem far_cell {w : World} {b i j : Nat} {u : Value} (h : w.cell? ⟨b, i, none⟩ = some u) (hij : i ≠ j) (x : Value) : (w.setCell ⟨b, j, none⟩ x).drew.drew.drew.cell? ⟨b, i, none⟩ = some u :=
  (World.cell?_setCell_other w ⟨b, j, none⟩ ⟨b, i, none⟩ x (by simp <;> omega)).trans h
theorem sched_set (bs : List UInt8) (i x : Nat) (h : i < 64) (hx : (if i < 16 then be32 bs i else wnext (sched bs i) i) = x) :
    (wds (sched bs i) ++ zer32 (64 - i)).set i (.int .u32 (x : Int)) = wds (sched bs (i + 1)) ++ zer32 (64 - (i + 1)) := by
  rw [List.set_append_right _ _ (by rw [wds_length, sched_length]; omega), wds_length, sched_length, Nat.sub_self, zer32_succ 64 i h, sched, hx, wds_append]
  simp [wds]

set_option maxRecDepth 1000000 in
set_option maxHeartbeats 8000000 in
theorem block_any (w : World) (p : Nat) (hs : List Nat) (v : Value) (n : Int) (a : Option Addr) (cap : Nat) (bs : List UInt8)
    (hP : Blk w p (wds hs ++ [v, .int .i64 n]) 46) (hh : hs.length = 8) (hb : Bys 0 w a bs) (hl : bs.length = 64) (hsb : w32 hs) :
    Calls Try.prog 20 #[.pointer (some ⟨p, 0, none⟩), .slice a 64 cap] w fun e w' => e = .returned (.tuple #[]) ∧ Blk w' p (wds (comp hs bs) ++ [v, .int .i64 n]) 46 ∧ But p w.heap.size w w' := by
  obtain ⟨b, off, rfl, _, hbl, hbc⟩ := hb.at (by omega)
  have HBC := Lib.hid hbc
  have HL := Lib.hid hl
  clear hbc hb hl
  obtain ⟨h0, h1, h2, h3, h4, h5, h6, h7, rfl⟩ := eight hh
  have hP : Blk w p (st8 h0 h1 h2 h3 h4 h5 h6 h7 v n) 46 := hP
  go_enter Try.func20, Try.ntmps20
  go_wp2_with fail
  refine (keys_any _).mono ?_
  rintro e w1 ⟨rfl, hb1⟩
  have HK : keysV = .agg (wds kwords).toArray := rfl
  rw [HK]
  clear HK
  go_wp2_with (refine store_whole rfl 52 _ _ rfl w1.heap.size (wds kwords) (zer32 64) 52 rfl rfl (Blk.made rfl (zer32 64) 52) (by decide +kernel) Try.size52 (wds_one _) ?_)
  intro w2 hK2 hoth hsz hbel
  have hP2 := hoth p _ _ (by have := hP.lt; have := hb1.size; omega) ((hP.below hb1 hP.lt).alloc (.cells (zer32 64).toArray 52))
  have hb2 := hbel _ _ hb1.size (hb1.alloc hb1.size (.cells (zer32 64).toArray 52))
  have hsz2 : w2.heap.size = w1.heap.size + 1 := hsz
  clear hoth hbel hsz
  go_wp2_with fail
  go_loopg [16] 16 (fun g c wr => ∃ i : Nat, i ≤ 16 ∧ g = 16 - i ∧ c = .int .i64 i ∧ Blk wr p (st8 h0 h1 h2 h3 h4 h5 h6 h7 v n) 46 ∧ Blk wr w1.heap.size (wds kwords) 52 ∧ Blk wr (w1.heap.size + 1) (wds (sched bs i) ++ zer32 (64 - i)) 52 ∧ Below w.heap.size w wr)
  case atStart => exact ⟨0, Nat.zero_le _, rfl, rfl, hP2.alloc _, hK2.alloc _, Blk.made (by rw [hsz2]) (zer32 64) 52, hb2.alloc hb2.size _⟩
  case round =>
    obtain ⟨i, hi, rfl, rfl, hPr, hKr, hWr, hbel⟩ := hrel
    by_cases hlt : i < 16
    · -- <<
      have hc0 := HBC.out (4 * i) (by have := HL.out; omega)
      have hc1 := HBC.out (4 * i + 1) (by have := HL.out; omega)
      have hc2 := HBC.out (4 * i + 2) (by have := HL.out; omega)
      have hc3 := HBC.out (4 * i + 3) (by have := HL.out; omega)
      rw [← hbel.cell (p := ⟨b, _, none⟩) hbl] at hc0 hc1 hc2 hc3
      have d0 := (bs.getD (4 * i) 0).toNat_lt
      have d1 := (bs.getD (4 * i + 1) 0).toNat_lt
      have d2 := (bs.getD (4 * i + 2) 0).toNat_lt
      have d3 := (bs.getD (4 * i + 3) 0).toNat_lt
      have HE : Hid (be32 bs i = ((bs.getD (4 * i) 0).toNat * 2 ^ 24 ||| (bs.getD (4 * i + 1) 0).toNat * 2 ^ 16 ||| (bs.getD (4 * i + 2) 0).toNat * 2 ^ 8 ||| (bs.getD (4 * i + 3) 0).toNat)) := rfl
      generalize (bs.getD (4 * i) 0).toNat = x0 at *
      generalize (bs.getD (4 * i + 1) 0).toNat = x1 at *
      generalize (bs.getD (4 * i + 2) 0).toNat = x2 at *
      generalize (bs.getD (4 * i + 3) 0).toNat = x3 at *
      have HF := Lib.hid (be_fin x0 x1 x2 x3 d0 d1 d2 d3)
      have hwl := hWr.lt
      have hwc := hWr.cell i _ (sched_slot bs i (by omega))
      have hwf := hWr.free i
      have i0 : (0 : Int) ≤ (i : Int) := Int.natCast_nonneg _
      have i16 : (i : Int) < 16 := by omega
      have m0 : IntKind.i64.wrap (4 * (i : Int)) = 4 * (i : Int) := by rw [IntKind.wrap_i64]; omega
      have m1 : IntKind.i64.wrap (4 * (i : Int) + 1) = 4 * (i : Int) + 1 := by rw [IntKind.wrap_i64]; omega
      have m2 : IntKind.i64.wrap (4 * (i : Int) + 2) = 4 * (i : Int) + 2 := by rw [IntKind.wrap_i64]; omega
      have m3 : IntKind.i64.wrap (4 * (i : Int) + 3) = 4 * (i : Int) + 3 := by rw [IntKind.wrap_i64]; omega
      have t0 : (4 * (i : Int)).toNat = 4 * i := by omega
      have t1 : (4 * (i : Int) + 1).toNat = 4 * i + 1 := by omega
      have t2 : (4 * (i : Int) + 2).toNat = 4 * i + 2 := by omega
      have t3 : (4 * (i : Int) + 3).toNat = 4 * i + 3 := by omega
      have u0 : IntKind.u32.wrap (x0 : Int) = x0 := u32_of _ (by omega) (by omega)
      have u1 : IntKind.u32.wrap (x1 : Int) = x1 := u32_of _ (by omega) (by omega)
      have u2 : IntKind.u32.wrap (x2 : Int) = x2 := u32_of _ (by omega) (by omega)
      have u3 : IntKind.u32.wrap (x3 : Int) = x3 := u32_of _ (by omega) (by omega)
      have s0 : IntKind.u32.wrap ((x0 : Int) * 16777216) = (x0 : Int) * 16777216 := u32_of _ (by omega) (by omega)
      have s1 : IntKind.u32.wrap ((x1 : Int) * 65536) = (x1 : Int) * 65536 := u32_of _ (by omega) (by omega)
      have s2 : IntKind.u32.wrap ((x2 : Int) * 256) = (x2 : Int) * 256 := u32_of _ (by omega) (by omega)
      have n0 : (0 : Int) ≤ 4 * (i : Int) := by omega
      have n1 : (0 : Int) ≤ 4 * (i : Int) + 1 := by omega
      have n2 : (0 : Int) ≤ 4 * (i : Int) + 2 := by omega
      have n3 : (0 : Int) ≤ 4 * (i : Int) + 3 := by omega
      have p0 : 4 * (i : Int) < 64 := by omega
      have p1 : 4 * (i : Int) + 1 < 64 := by omega
      have p2 : 4 * (i : Int) + 2 < 64 := by omega
      have p3 : 4 * (i : Int) + 3 < 64 := by omega
      have p4 : (i : Int) < 64 := by omega
      have hpn : w1.heap.size + 1 ≠ p := by have := hP.lt; have := hb1.size; omega
      have hne : b ≠ w1.heap.size + 1 := by have := hb1.size; omega
      go_wp2_with fail
      go_still_tail 35, (by kernel_rfl)
      change wpList _ _ _ _ _ wr.drew
      go_wp2
      go_roundg (16 - (i + 1))
      case measure => omega
      case rel =>
        refine ⟨i + 1, by omega, rfl, by go_num, hPr.set_other hpn _, hKr.set_other (by simp) _, ?_, (hbel.setCell (p := ⟨w1.heap.size + 1, i, none⟩) (by have := hb1.size; show w.heap.size ≤ w1.heap.size + 1; omega) _).drew⟩
        have := hWr.set i (.int .u32 ((be32 bs i : Nat) : Int))
        rw [sched_set bs i (be32 bs i) (by omega) (if_pos hlt)] at this
        rw [HF.out, ← HE.out]
        exact this
      -- >>
    · have hi16 : i = 16 := by omega
      subst hi16
      clear hi hlt
      go_upto_region 8 with fail
      go_loopg [7] 48 (fun g c wr => ∃ i : Nat, 16 ≤ i ∧ i ≤ 64 ∧ g = 64 - i ∧ c = .int .i64 i ∧ Blk wr p (st8 h0 h1 h2 h3 h4 h5 h6 h7 v n) 46 ∧ Blk wr w1.heap.size (wds kwords) 52 ∧ Blk wr (w1.heap.size + 1) (wds (sched bs i) ++ zer32 (64 - i)) 52 ∧ Below w.heap.size w wr)
      case atStart => exact ⟨16, by omega, by omega, by omega, rfl, hPr, hKr, hWr, hbel⟩
      case round =>
        clear hPr hKr hWr hbel
        obtain ⟨i, hi0, hi, rfl, rfl, hPr, hKr, hWr, hbel⟩ := hrel
        by_cases hlt : i < 64
        · -- <<
          have hws := sched_lt bs i
          have y0 := hWr.cell (i - 16) _ (sched_get bs i (i - 16) (by omega))
          have y1 := hWr.cell (i - 15) _ (sched_get bs i (i - 15) (by omega))
          have y2 := hWr.cell (i - 7) _ (sched_get bs i (i - 7) (by omega))
          have y3 := hWr.cell (i - 2) _ (sched_get bs i (i - 2) (by omega))
          have l0 := hws (i - 16)
          have l1 := hws (i - 15)
          have l2 := hws (i - 7)
          have l3 := hws (i - 2)
          have HE := Lib.hid (show (if i < 16 then be32 bs i else wnext (sched bs i) i) = (((((sched bs i).getD (i - 16) 0 + smallF ((sched bs i).getD (i - 15) 0) 7 18 3) % 4294967296 + (sched bs i).getD (i - 7) 0) % 4294967296 + smallF ((sched bs i).getD (i - 2) 0) 17 19 10) % 4294967296) from by rw [if_neg (by omega)]; rfl)
          clear hws
          generalize (sched bs i).getD (i - 16) 0 = x0 at *
          generalize (sched bs i).getD (i - 15) 0 = x1 at *
          generalize (sched bs i).getD (i - 7) 0 = x2 at *
          generalize (sched bs i).getD (i - 2) 0 = x3 at *
          have SA := Lib.hid (fun W => small_a W x1 l1)
          have SB := Lib.hid (fun W => small_b W x3 l3)
          have s1 := smallF_lt x1 7 18 3 l1
          have s3 := smallF_lt x3 17 19 10 l3
          generalize smallF x1 7 18 3 = q1 at *
          generalize smallF x3 17 19 10 = q3 at *
          have hwc := hWr.cell i _ (sched_slot bs i hlt)
          have hwf := hWr.free i
          have hpn : w1.heap.size + 1 ≠ p := by have := hP.lt; have := hb1.size; omega
          have e0 : i - 16 ≠ i := by omega
          have e1 : i - 15 ≠ i := by omega
          have e2 : i - 7 ≠ i := by omega
          have e3 : i - 2 ≠ i := by omega
          have f0 : i ≠ i - 16 := by omega
          have f1 : i ≠ i - 15 := by omega
          have f2 : i ≠ i - 7 := by omega
          have f3 : i ≠ i - 2 := by omega
          have e4 : i ≠ 0 := by omega
          have e5 : 0 < i := by omega
          have i0 : (0 : Int) ≤ (i : Int) := Int.natCast_nonneg _
          have m0 : IntKind.i64.wrap ((i : Int) - 16) = (i : Int) - 16 := by rw [IntKind.wrap_i64]; omega
          have m1 : IntKind.i64.wrap ((i : Int) - 15) = (i : Int) - 15 := by rw [IntKind.wrap_i64]; omega
          have m2 : IntKind.i64.wrap ((i : Int) - 7) = (i : Int) - 7 := by rw [IntKind.wrap_i64]; omega
          have m3 : IntKind.i64.wrap ((i : Int) - 2) = (i : Int) - 2 := by rw [IntKind.wrap_i64]; omega
          have t0 : ((i : Int) - 16).toNat = i - 16 := by omega
          have t1 : ((i : Int) - 15).toNat = i - 15 := by omega
          have t2 : ((i : Int) - 7).toNat = i - 7 := by omega
          have t3 : ((i : Int) - 2).toNat = i - 2 := by omega
          have v0 : (16 : Int) ≤ (i : Int) := by omega
          have v1 : (15 : Int) ≤ (i : Int) := by omega
          have v2 : (7 : Int) ≤ (i : Int) := by omega
          have v3 : (2 : Int) ≤ (i : Int) := by omega
          have n0 : (0 : Int) ≤ (i : Int) - 16 := by omega
          have n1 : (0 : Int) ≤ (i : Int) - 15 := by omega
          have n2 : (0 : Int) ≤ (i : Int) - 7 := by omega
          have n3 : (0 : Int) ≤ (i : Int) - 2 := by omega
          have r0 : (i : Int) - 16 < 64 := by omega
          have r1 : (i : Int) - 15 < 64 := by omega
          have r2 : (i : Int) - 7 < 64 := by omega
          have r3 : (i : Int) - 2 < 64 := by omega
          have r4 : (i : Int) < 64 := by omega
          have KP : ∀ u, (wr.setCell ⟨w1.heap.size + 1, i, none⟩ u).drew.drew.drew.cell? ⟨w1.heap.size + 1, i - 16, none⟩ = some (.int .u32 x0) ∧ (wr.setCell ⟨w1.heap.size + 1, i, none⟩ u).drew.drew.drew.cell? ⟨w1.heap.size + 1, i - 15, none⟩ = some (.int .u32 x1) ∧ (wr.setCell ⟨w1.heap.size + 1, i, none⟩ u).drew.drew.drew.cell? ⟨w1.heap.size + 1, i - 7, none⟩ = some (.int .u32 x2) ∧ (wr.setCell ⟨w1.heap.size + 1, i, none⟩ u).drew.drew.drew.cell? ⟨w1.heap.size + 1, i - 2, none⟩ = some (.int .u32 x3) := fun u =>
            ⟨far_cell y0 (by omega) _, far_cell y1 (by omega) _, far_cell y2 (by omega) _, far_cell y3 (by omega) _⟩
          have KP := Lib.hid KP
          go_wp2_with fail
          go_region_held3 (fun w' => w'.cell? ⟨w1.heap.size + 1, i - 16, none⟩ = some (.int .u32 x0) ∧ w'.cell? ⟨w1.heap.size + 1, i - 15, none⟩ = some (.int .u32 x1) ∧ w'.cell? ⟨w1.heap.size + 1, i - 7, none⟩ = some (.int .u32 x2) ∧ w'.cell? ⟨w1.heap.size + 1, i - 2, none⟩ = some (.int .u32 x3))
            (first | exact KP.out _ | go_keep)
            (first
              | (go_at_call 26; with_reducible refine (SA.out _).mono ?_; rintro e wn ⟨rfl, rfl⟩)
              | (go_at_call 26; with_reducible refine (SB.out _).mono ?_; rintro e wn ⟨rfl, rfl⟩))
          go_wp2
          go_roundg (64 - (i + 1))
          case measure => omega
          case rel =>
            refine ⟨i + 1, by omega, by omega, by omega, by go_num, hPr.set_other hpn _, hKr.set_other (by simp) _, ?_, ((((hbel.setCell (p := ⟨w1.heap.size + 1, i, none⟩) (by have := hb1.size; show w.heap.size ≤ w1.heap.size + 1; omega) _).drew).drew).drew)⟩
            have := hWr.set i (.int .u32 (((((x0 + q1) % 4294967296 + x2) % 4294967296 + q3) % 4294967296 : Nat) : Int))
            rw [sched_set bs i _ (by omega) HE.out] at this
            exact this
          -- >>
        · have hi64 : i = 64 := by omega
          subst hi64
          clear hi hlt hi0
          have hP8 : Blk wr p (st8 h0 h1 h2 h3 h4 h5 h6 h7 v n) 46 := hPr
          have z0 := hP8.cell 0 _ rfl
          have z1 := hP8.cell 1 _ rfl
          have z2 := hP8.cell 2 _ rfl
          have z3 := hP8.cell 3 _ rfl
          have z4 := hP8.cell 4 _ rfl
          have z5 := hP8.cell 5 _ rfl
          have z6 := hP8.cell 6 _ rfl
          have z7 := hP8.cell 7 _ rfl
          go_upto_region 13 with fail
          clear z0 z1 z2 z3 z4 z5 z6 z7
          have hV := Blk.made (w := wr) rfl (wds [h0, h1, h2, h3, h4, h5, h6, h7]) 44
          have hP9 := hP8.alloc (.cells (wds [h0, h1, h2, h3, h4, h5, h6, h7]).toArray 44)
          have hK9 := hKr.alloc (.cells (wds [h0, h1, h2, h3, h4, h5, h6, h7]).toArray 44)
          have hW9 := hWr.alloc (.cells (wds [h0, h1, h2, h3, h4, h5, h6, h7]).toArray 44)
          have hb9 := hbel.alloc hbel.size (.cells (wds [h0, h1, h2, h3, h4, h5, h6, h7]).toArray 44)
          have hVp : wr.heap.size ≠ p := by have := hP8.lt; omega
          have hVk : wr.heap.size ≠ w1.heap.size := by have := hKr.lt; omega
          have hVw : wr.heap.size ≠ w1.heap.size + 1 := by have := hWr.lt; omega
          have hVb : w.heap.size ≤ wr.heap.size := hbel.size
          change Blk (wr.alloc (.cells #[.int .u32 h0, .int .u32 h1, .int .u32 h2, .int .u32 h3, .int .u32 h4, .int .u32 h5, .int .u32 h6, .int .u32 h7] 44)) _ _ _ at hV hP9 hK9 hW9
          change Below _ _ (wr.alloc (.cells #[.int .u32 h0, .int .u32 h1, .int .u32 h2, .int .u32 h3, .int .u32 h4, .int .u32 h5, .int .u32 h6, .int .u32 h7] 44)) at hb9
          clear hPr hKr hWr hP8 hbel
          generalize wr.alloc (.cells #[.int .u32 h0, .int .u32 h1, .int .u32 h2, .int .u32 h3, .int .u32 h4, .int .u32 h5, .int .u32 h6, .int .u32 h7] 44) = wv at *
          generalize wr.heap.size = V at *
          have HSB := Lib.hid hsb
          clear hsb
          go_loopg [86] 64 (fun g c wr => ∃ k : Nat, k ≤ 64 ∧ g = 64 - k ∧ c = .int .i64 k ∧ Blk wr p (st8 h0 h1 h2 h3 h4 h5 h6 h7 v n) 46 ∧ Blk wr w1.heap.size (wds kwords) 52 ∧ Blk wr (w1.heap.size + 1) (wds (sched bs 64) ++ zer32 (64 - 64)) 52 ∧
            Blk wr V (wds (rnds (sched bs 64) [h0, h1, h2, h3, h4, h5, h6, h7] k)) 44 ∧ Below w.heap.size w wr)
          case atStart => exact ⟨0, by omega, rfl, rfl, hP9, hK9, hW9, hV, hb9⟩
          case round =>
            clear hP9 hK9 hW9 hV hb9
            obtain ⟨k, hk, rfl, rfl, hPr, hKr, hWr, hVr, hbel⟩ := hrel
            by_cases hlt : k < 64
            · -- <<
              have hl8 := rnds_length (sched bs 64) [h0, h1, h2, h3, h4, h5, h6, h7] rfl k
              have hlt8 := rnds_lt (sched bs 64) [h0, h1, h2, h3, h4, h5, h6, h7] HSB.out k
              have HNX := Lib.hid (show rnds (sched bs 64) [h0, h1, h2, h3, h4, h5, h6, h7] (k + 1) = rnd (rnds (sched bs 64) [h0, h1, h2, h3, h4, h5, h6, h7] k) (kwords.getD k 0) ((sched bs 64).getD k 0) from rfl)
              have ck := hKr.cell k _ (wds_get kwords k (by show k < 64; exact hlt))
              have cw := hWr.cell k _ (sched_get bs 64 k hlt)
              have lw := sched_lt bs 64 k
              have lk := kw_lt k
              generalize rnds (sched bs 64) [h0, h1, h2, h3, h4, h5, h6, h7] k = vs at *
              generalize kwords.getD k 0 = kk at *
              generalize (sched bs 64).getD k 0 = ww at *
              obtain ⟨a, b', c, d, e, f, g, h, rfl⟩ := eight hl8
              have q0 := hVr.cell 0 _ rfl
              have q1 := hVr.cell 1 _ rfl
              have q2 := hVr.cell 2 _ rfl
              have q3 := hVr.cell 3 _ rfl
              have q4 := hVr.cell 4 _ rfl
              have q5 := hVr.cell 5 _ rfl
              have q6 := hVr.cell 6 _ rfl
              have q7 := hVr.cell 7 _ rfl
              have la : a < 4294967296 := hlt8 0
              have lb : b' < 4294967296 := hlt8 1
              have lc : c < 4294967296 := hlt8 2
              have ld : d < 4294967296 := hlt8 3
              have le : e < 4294967296 := hlt8 4
              have lf : f < 4294967296 := hlt8 5
              have lg : g < 4294967296 := hlt8 6
              have lh : h < 4294967296 := hlt8 7
              clear hlt8 hl8
              have HCH := Lib.hid (ch_fin e f g le lf lg)
              have HMJ := Lib.hid (maj_fin a b' c la lb lc)
              have lch := ch_lt e f g lf lg
              have lmj := maj_lt a b' c lb lc
              have T1 := Lib.hid (fun W => turned_e W e le)
              have T2 := Lib.hid (fun W => turned_a W a la)
              have HRND := Lib.hid (rnd_eq a b' c d e f g h kk ww)
              have lt1 := turnedF_lt e 6 11 25 le
              have lt2 := turnedF_lt a 2 13 22 la
              have k0 : (0 : Int) ≤ (k : Int) := Int.natCast_nonneg _
              have k1 : (k : Int) < 64 := by omega
              go_upto_region 16 with fail
              rw [HCH.out]
              go_upto_region 17 with fail
              rw [HMJ.out]
              clear HCH HMJ
              generalize chF e f g = ch at *
              generalize majF a b' c = mj at *
              generalize turnedF e 6 11 25 = te at *
              generalize turnedF a 2 13 22 = ta at *
              go_cut [12] (fun s12 wx => s12 = .int .u32 (((((h + te) % 4294967296 + ch) % 4294967296 + kk) % 4294967296 + ww) % 4294967296 : Nat) ∧ wx = wr.drew)
              case first =>
                go_region_held3 (fun w' => w'.cell? ⟨V, 7, none⟩ = some (.int .u32 h) ∧ w'.cell? ⟨V, 4, none⟩ = some (.int .u32 e) ∧ w'.cell? ⟨w1.heap.size, k, none⟩ = some (.int .u32 kk) ∧ w'.cell? ⟨w1.heap.size + 1, k, none⟩ = some (.int .u32 ww))
                  (go_keep)
                  (first | (go_at_call 27; with_reducible refine (T1.out _).mono ?_; rintro e wn ⟨rfl, rfl⟩))
                go_wp2_with fail
                go_meet
                exact ⟨rfl, rfl⟩
              case rest =>
                obtain ⟨rfl, rfl⟩ := hcut
                generalize ((((h + te) % 4294967296 + ch) % 4294967296 + kk) % 4294967296 + ww) % 4294967296 = t at *
                have HV := Lib.hid (show Blk wr.drew V (wds [a, b', c, d, e, f, g, h]) 44 from hVr)
                go_upto_region 19 with (go_at_call 27; with_reducible refine (T2.out _).mono ?_; rintro e wn ⟨rfl, rfl⟩)
                go_wp2_with (refine store_whole rfl 44 _ _ rfl V _ (wds [a, b', c, d, e, f, g, h]) 44 rfl rfl HV.out ?hl ?hi ?one ?_)
                case hl => rfl
                case hi => exact Try.size44
                case one =>
                  intro x hx
                  simp only [List.mem_cons, List.not_mem_nil, or_false] at hx
                  rcases hx with rfl | rfl | rfl | rfl | rfl | rfl | rfl | rfl <;> rfl
                intro w9 hV9 hoth hsz9 hbel9
                have gP := hoth p _ _ (Ne.symm hVp) hPr
                have gK := hoth w1.heap.size _ _ (Ne.symm hVk) hKr
                have gW := hoth (w1.heap.size + 1) _ _ (Ne.symm hVw) hWr
                have gB := hbel9 _ _ hVb (show Below w.heap.size w wr.drew from hbel.drew)
                clear hoth hbel9 hsz9
                go_wp2
                go_roundg (64 - (k + 1))
                case measure => omega
                case rel =>
                  refine ⟨k + 1, by omega, by omega, by go_num, gP, gK, gW, ?_, gB⟩
                  rw [HNX.out, HRND.out]
                  exact hV9
              -- >>
            · have hk64 : k = 64 := by omega
              subst hk64
              clear hk hlt
              have HCOMP := Lib.hid (show comp [h0, h1, h2, h3, h4, h5, h6, h7] bs = (List.range 8).map fun i => (([h0, h1, h2, h3, h4, h5, h6, h7] : List Nat).getD i 0 + (rnds (sched bs 64) [h0, h1, h2, h3, h4, h5, h6, h7] 64).getD i 0) % 4294967296 from rfl)
              have hl8 := rnds_length (sched bs 64) [h0, h1, h2, h3, h4, h5, h6, h7] rfl 64
              have hlt8 := rnds_lt (sched bs 64) [h0, h1, h2, h3, h4, h5, h6, h7] HSB.out 64
              obtain ⟨vs, hvs⟩ : ∃ vs, vs = rnds (sched bs 64) [h0, h1, h2, h3, h4, h5, h6, h7] 64 := ⟨_, rfl⟩
              rw [← hvs] at hVr hl8 hlt8
              have HVS := Lib.hid hvs
              clear hvs HCOMP
              go_upto_region 22 with fail
              go_loopg [160] 8 (fun g c wr => ∃ i : Nat, i ≤ 8 ∧ g = 8 - i ∧ c = .int .i64 i ∧ Blk wr p (wds (part [h0, h1, h2, h3, h4, h5, h6, h7] vs i) ++ [v, .int .i64 n]) 46 ∧ Blk wr V (wds vs) 44 ∧ But p w.heap.size w wr)
              case atStart => exact ⟨0, by omega, rfl, rfl, by rw [part_zero]; exact hPr, hVr, But.of hbel⟩
              case round =>
                clear hPr hKr hWr hVr hbel
                obtain ⟨i, hi, rfl, rfl, hPr, hVr, hbel⟩ := hrel
                by_cases hlt : i < 8
                · have hl := part_length [h0, h1, h2, h3, h4, h5, h6, h7] vs i
                  have q0 := hPr.cell i _ (part_at _ _ i hlt [v, .int .i64 n])
                  have f0 := hPr.free i
                  have q1 := hVr.cell i _ (wds_get vs i (by omega))
                  have hnn := part_put [h0, h1, h2, h3, h4, h5, h6, h7] vs i hlt [v, .int .i64 n]
                  have b0 := HSB.out i
                  have b1 := hlt8 i
                  have i0 : (0 : Int) ≤ (i : Int) := Int.natCast_nonneg _
                  have i8 : (i : Int) < 8 := by omega
                  have HN := Lib.hid hnn
                  clear hnn
                  generalize ([h0, h1, h2, h3, h4, h5, h6, h7] : List Nat).getD i 0 = x at *
                  generalize vs.getD i 0 = y at *
                  go_wp2_with fail
                  go_still_tail 13, (by kernel_rfl)
                  change wpList _ _ _ _ _ wr.drew
                  go_wp2
                  go_roundg (8 - (i + 1))
                  case measure => omega
                  case rel =>
                    refine ⟨i + 1, by omega, by omega, by go_num, ?_, hVr.set_other (Ne.symm hVp) _, (hbel.setCell (x := ⟨p, i, none⟩) (.inr rfl) _).drew⟩
                    have := hPr.set i (.int .u32 (((x + y) % 4294967296 : Nat) : Int))
                    rw [HN.out] at this
                    exact this
                · have hi8 : i = 8 := by omega
                  subst hi8
                  rw [part_all _ _ bs HVS.out] at hPr
                  go_wp2
                  go_end0
                  exact ⟨rfl, hPr, hbel⟩

end Go.Proofs.Ytogpecgbgfcdcaa
