/- The contract of the reference's round. -/
import Derived.Test.YtogpecgbgfcdcaaSI
import Derived.BigQuiet
import Derived.Deep.QuietTactic
namespace Go.Proofs.Ytogpecgbgfcdcaa
open Go.RowKit

theorem keys_ref (w : World) : Calls Try.prog 18 #[] w fun e w' => ∃ K, e = .returned (.slice (some ⟨K, 0, none⟩) 64 64) ∧ Blk w' K (wds kwords) 40 ∧ w.heap.size ≤ K ∧ Below w.heap.size w w' := by
  go_enter Try.func18, Try.ntmps18
  go_wp2
  go_ret
  exact ⟨w.heap.size, rfl, Blk.new _ (wds kwords) _, Nat.le_refl _, (Below.refl _ _).alloc (Nat.le_refl _) _⟩

/-- The block reads as these words from its first cell on. -/
def Wd (w : World) (V : Nat) (ws : List Nat) : Prop := V < w.heap.size ∧ ∀ j, j < ws.length → w.cell? ⟨V, j, none⟩ = some (.int .u32 ((ws.getD j 0 : Nat) : Int))
theorem Blk.wd {w : World} {V : Nat} {ws : List Nat} {t : TypeId} (h : Blk w V (wds ws) t) : Wd w V ws := ⟨h.lt, fun j hj => h.cell j _ (wds_get ws j hj)⟩
theorem Wd.below {w w' : World} {B V : Nat} {ws : List Nat} (h : Wd w V ws) (hb : Below B w w') (hB : V < B) : Wd w' V ws :=
  ⟨by have := hb.size; have := h.1; omega, fun j hj => (hb.cell (p := ⟨V, j, none⟩) hB).trans (h.2 j hj)⟩
theorem Wd.other {w : World} {V : Nat} {ws : List Nat} (h : Wd w V ws) {x : Addr} (hx : x.block ≠ V) (v : Value) : Wd (w.setCell x v) V ws :=
  ⟨by simpa [World.setCell] using h.1, fun j hj => (World.cell?_setCell_other w x ⟨V, j, none⟩ v (fun e => hx (by rw [e]))).trans (h.2 j hj)⟩

theorem Try.info40 : (Try.prog.info? 40).map (fun i => (i.zero, i.size, i.bytes)) = some (some (.int .u32 0), 1, 4) := by kernel_rfl
theorem own_blk {w : World} {B g n : Nat} {xs : List Value} (h : w.ownsRow B 40 1 (.slice (some ⟨g, 0, none⟩) n n) n xs) : Blk w g xs 40 ∧ B ≤ g := by
  obtain ⟨_, ⟨h2, _⟩ | ⟨g', cap, cur, e, hB, hh, hle, hcm, hs, ht⟩⟩ := h
  · simp at h2
  · simp only [Value.slice.injEq, Option.some.injEq, Addr.mk.injEq, and_true] at e
    obtain ⟨rfl, -, rfl⟩ := e
    refine ⟨?_, hB⟩
    have : cur.toList = xs := by
      rw [← ht, List.take_of_length_le]
      simp; omega
    unfold Blk
    rw [hh, ← this]
theorem made0 (n : Nat) : (madeCells (Value.int .u32 0).cells (n * 1)).toList = zer32 n := by
  apply List.ext_getElem
  · simp [madeCells, zer32]
  · intro i h1 h2
    simp [madeCells, zer32, Value.cells, Nat.mod_one]
/-- 'make([]uint32, n)'. -/
theorem make_words {w : World} {ops : Array Oper} {rest : List Oper} {o : Oper} {a : Act} {Q : Exit → Act → World → Prop} (hg : o.guard = none) (n : Nat) (hop : o.op = Op.makeSlice 41 (.const (.int .i64 (n : Int))) (.const (.int .i64 (n : Int)))) (hn : n ≤ 64)
    (hK : ∀ w', Blk w' w.heap.size (zer32 n) 40 → Below w.heap.size w w' → wpList Try.prog ops Q rest (a.put o.dst (.slice (some ⟨w.heap.size, 0, none⟩) n n)) w') : wpList Try.prog ops Q (o :: rest) a w := by
  obtain ⟨i0, hi, hz0, hz1, hz2⟩ := info_parts Try.info40
  refine wpList_make_full (P := Try.prog) w hg _ _ 41 hop w.heap.size 40 i0 (.int .u32 0) 1 Try.underlying41 hi hz0 hz1 .i64 .i64 n n n rfl rfl rfl rfl (by rw [hz2]; omega) (by unfold maxLen; omega) (Nat.le_refl _) ?_
  intro w' h1 h2
  obtain ⟨h3, _⟩ := own_blk h1
  refine hK w' (by
    rw [← made0]; exact h3) ⟨h2.os, h2.tape, h2.output, h2.size, fun k hk => h2.block k hk (by simp)⟩

/-- 'append([]uint32{}, h...)'. -/
theorem append_words {w : World} {ops : Array Oper} {rest : List Oper} {o : Oper} {a : Act} {Q : Exit → Act → World → Prop} (hgd : o.guard = none) (s x : Operand)
    (ho : o.op = .call { callee := .builtin .append, args := #[s, x], argTypes := #[41, 41] }) (g H : Nat) (ws : List Nat)
    (hs : a.eval s = .slice (some ⟨g, 0, none⟩) 0 0) (hx : a.eval x = .slice (some ⟨H, 0, none⟩) 8 8) (hg : w.heap[g]? = some (.cells #[] 40 (0, 0))) (hz : Wd w H ws) (hl : ws.length = 8) (B : Nat) (hB : B ≤ g) (hB2 : B ≤ w.heap.size)
    (h : ∀ V cap' w', Wd w' V ws → B ≤ V → w.grownBy w' (some g) → wpList Try.prog ops Q rest (a.put o.dst (.slice (some ⟨V, 0, none⟩) 8 cap')) w') : wpList Try.prog ops Q (o :: rest) a w := by
  obtain ⟨i0, hi, hz0, hz1, hz2⟩ := info_parts Try.info40
  refine wpList_append_own (P := Try.prog) w hgd s x 41 ho B 40 i0 (.int .u32 0) 1 4 Try.underlying41 hi hz0 hz1 hz2 rfl (by decide) _ 0 [] hs ⟨rfl, .inr ⟨g, 0, #[], rfl, hB, hg, Nat.le_refl _, by decide, rfl, rfl⟩⟩ ⟨H, 0, none⟩ 8 8 (wds ws) hx (by rw [wds_length, hl]) ?_ (wds_one ws) (by decide) (by decide) hB2 ?_
  · intro j u hj
    have hjl : j < ws.length := by have := (List.getElem?_eq_some_iff.1 hj).1; rwa [wds_length] at this
    rw [wds_get ws j hjl] at hj
    rw [Addr.add_mid, Nat.zero_add, hz.2 j hjl]
    exact hj
  · intro v' w' hown' hgr _
    rw [Nat.zero_add, List.nil_append] at hown'
    obtain ⟨V, cap, e, hV, hlt⟩ := hown'.form (by decide)
    subst e
    refine h V cap w' ⟨hlt, fun j hj => ?_⟩ hV hgr
    obtain ⟨_, ⟨h2, _⟩ | ⟨g', cap', cur, e, _, hh, _, _, _, ht⟩⟩ := hown'
    · simp at h2
    · simp only [Value.slice.injEq, Option.some.injEq, Addr.mk.injEq, and_true] at e
      obtain ⟨rfl, -, rfl⟩ := e
      have h1 : cur.toList[j]? = some (.int .u32 ((ws.getD j 0 : Nat) : Int)) := by
        have : (cur.toList.take (8 * 1))[j]? = (wds ws)[j]? := by rw [ht]
        rw [List.getElem?_take, if_pos (by omega), wds_get ws j hj] at this
        exact this
      simp [World.cell?, hh]
      simpa using h1
def outP (hs vs : List Nat) (i : Nat) : List Nat := (List.range i).map fun j => (hs.getD j 0 + vs.getD j 0) % 4294967296
theorem outP_length (hs vs : List Nat) (i : Nat) : (outP hs vs i).length = i := by simp [outP]
theorem outP_slot (hs vs : List Nat) (i : Nat) (h : i < 8) : (wds (outP hs vs i) ++ zer32 (8 - i))[i]? = some (.int .u32 0) := by
  rw [List.getElem?_append_right (by rw [wds_length, outP_length]; omega), wds_length, outP_length, Nat.sub_self, zer32_succ 8 i h]; rfl
theorem outP_set (hs vs : List Nat) (i : Nat) (h : i < 8) :
    (wds (outP hs vs i) ++ zer32 (8 - i)).set i (.int .u32 (((hs.getD i 0 + vs.getD i 0) % 4294967296 : Nat) : Int)) = wds (outP hs vs (i + 1)) ++ zer32 (8 - (i + 1)) := by
  rw [List.set_append_right _ _ (by rw [wds_length, outP_length]; omega), wds_length, outP_length, Nat.sub_self, zer32_succ 8 i h, outP, outP, List.range_succ, List.map_append, wds_append]
  simp [wds]
theorem e17_fin (ta mj : Nat) : ((ta : Int) + mj) % 4294967296 = (((ta + mj) % 4294967296 : Nat) : Int) := by omega
theorem wrap_add32 (x y : Nat) : IntKind.u32.wrap ((x : Int) + (y : Int)) = (((x + y) % 4294967296 : Nat) : Int) := by rw [IntKind.wrap_u32']; omega
theorem t_fin (h te ch kk ww : Nat) : (((h : Int) + te + ch + kk) % 4294967296 + ww) % 4294967296 = ((((((h + te) % 4294967296 + ch) % 4294967296 + kk) % 4294967296 + ww) % 4294967296 : Nat) : Int) := by
  rw [Nat.mod_add_mod, Nat.mod_add_mod]
  omega
theorem small_fin (x : Nat) (h : x < 4294967296) : bits .xor .u32 (bits .xor .u32 ((rotr x 7 : Nat) : Int) ((rotr x 18 : Nat) : Int)) ((x : Int) / 8) = ((smallF x 7 18 3 : Nat) : Int) := by
  have := xor3 (rotr x 7) (rotr x 18) (x / 8) (rotr_lt x 7 h) (rotr_lt x 18 h) (by omega)
  rw [show ((x / 8 : Nat) : Int) = (x : Int) / 8 from by omega] at this
  rw [this]; rfl
theorem small_fin2 (x : Nat) (h : x < 4294967296) : bits .xor .u32 (bits .xor .u32 ((rotr x 17 : Nat) : Int) ((rotr x 19 : Nat) : Int)) ((x : Int) / 1024) = ((smallF x 17 19 10 : Nat) : Int) := by
  have := xor3 (rotr x 17) (rotr x 19) (x / 1024) (rotr_lt x 17 h) (rotr_lt x 19 h) (by omega)
  rw [show ((x / 1024 : Nat) : Int) = (x : Int) / 1024 from by omega] at this
  rw [this]; rfl

set_option maxRecDepth 1000000 in
set_option maxHeartbeats 8000000 in
theorem rround_any (w : World) (H K : Nat) (hs : List Nat) (a : Option Addr) (cap : Nat) (bs : List UInt8)
    (hH : Wd w H hs) (hh : hs.length = 8) (hb : Bys 0 w a bs) (hl : bs.length = 64) (hsb : w32 hs) (hK : Wd w K kwords) :
    Calls Try.prog 19 #[.slice (some ⟨H, 0, none⟩) 8 8, .slice a 64 cap, .slice (some ⟨K, 0, none⟩) 64 64] w fun e w' => ∃ R, e = .returned (.slice (some ⟨R, 0, none⟩) 8 8) ∧ w.heap.size ≤ R ∧ Blk w' R (wds (comp hs bs)) 40 ∧ Below w.heap.size w w' := by
  obtain ⟨b, off, rfl, _, hbl, hbc⟩ := hb.at (by omega)
  have HBC := Lib.hid hbc
  have HL := Lib.hid hl
  clear hbc hb hl
  obtain ⟨h0, h1, h2, h3, h4, h5, h6, h7, rfl⟩ := eight hh
  go_enter Try.func19, Try.ntmps19
  go_wp2_with (at_make; refine make_words rfl 64 rfl (by omega) ?_)
  intro w1 hW1 hb1
  go_wp2_with fail
  go_loopg [8] 16 (fun g c wr => ∃ i : Nat, i ≤ 16 ∧ g = 16 - i ∧ c = .int .i64 i ∧ Blk wr w.heap.size (wds (sched bs i) ++ zer32 (64 - i)) 40 ∧ Below w.heap.size w wr)
  case atStart => exact ⟨0, Nat.zero_le _, rfl, rfl, hW1, hb1⟩
  case round =>
    clear hW1 hb1
    obtain ⟨i, hi, rfl, rfl, hWr, hbel⟩ := hrel
    by_cases hlt : i < 16
    · -- <<
      have hc0 := HBC.out (4 * i) (by have := HL.out; omega)
      have hc1 := HBC.out (4 * i + 1) (by have := HL.out; omega)
      have hc2 := HBC.out (4 * i + 2) (by have := HL.out; omega)
      have hc3 := HBC.out (4 * i + 3) (by have := HL.out; omega)
      rw [← hbel.cell (p := ⟨b, _, none⟩) hbl] at hc0 hc1 hc2 hc3
      have d0 := (bs.getD (4 * i) 0).toNat_lt
      have d1 := (bs.getD (4 * i + 1) 0).toNat_lt
      have d2 := (bs.getD (4 * i + 2) 0).toNat_lt
      have d3 := (bs.getD (4 * i + 3) 0).toNat_lt
      have HE : Hid (be32 bs i = ((bs.getD (4 * i) 0).toNat * 2 ^ 24 ||| (bs.getD (4 * i + 1) 0).toNat * 2 ^ 16 ||| (bs.getD (4 * i + 2) 0).toNat * 2 ^ 8 ||| (bs.getD (4 * i + 3) 0).toNat)) := rfl
      generalize (bs.getD (4 * i) 0).toNat = x0 at *
      generalize (bs.getD (4 * i + 1) 0).toNat = x1 at *
      generalize (bs.getD (4 * i + 2) 0).toNat = x2 at *
      generalize (bs.getD (4 * i + 3) 0).toNat = x3 at *
      have HF := Lib.hid (be_fin x0 x1 x2 x3 d0 d1 d2 d3)
      have hwl := hWr.lt
      have hwc := hWr.cell i _ (sched_slot bs i (by omega))
      have hwf := hWr.free i
      have i0 : (0 : Int) ≤ (i : Int) := Int.natCast_nonneg _
      have i16 : (i : Int) < 16 := by omega
      have m0 : IntKind.i64.wrap (4 * (i : Int)) = 4 * (i : Int) := by rw [IntKind.wrap_i64]; omega
      have m1 : IntKind.i64.wrap (4 * (i : Int) + 1) = 4 * (i : Int) + 1 := by rw [IntKind.wrap_i64]; omega
      have m2 : IntKind.i64.wrap (4 * (i : Int) + 2) = 4 * (i : Int) + 2 := by rw [IntKind.wrap_i64]; omega
      have m3 : IntKind.i64.wrap (4 * (i : Int) + 3) = 4 * (i : Int) + 3 := by rw [IntKind.wrap_i64]; omega
      have t0 : (4 * (i : Int)).toNat = 4 * i := by omega
      have t1 : (4 * (i : Int) + 1).toNat = 4 * i + 1 := by omega
      have t2 : (4 * (i : Int) + 2).toNat = 4 * i + 2 := by omega
      have t3 : (4 * (i : Int) + 3).toNat = 4 * i + 3 := by omega
      have u0 : IntKind.u32.wrap (x0 : Int) = x0 := u32_of _ (by omega) (by omega)
      have u1 : IntKind.u32.wrap (x1 : Int) = x1 := u32_of _ (by omega) (by omega)
      have u2 : IntKind.u32.wrap (x2 : Int) = x2 := u32_of _ (by omega) (by omega)
      have u3 : IntKind.u32.wrap (x3 : Int) = x3 := u32_of _ (by omega) (by omega)
      have s0 : IntKind.u32.wrap ((x0 : Int) * 16777216) = (x0 : Int) * 16777216 := u32_of _ (by omega) (by omega)
      have s1 : IntKind.u32.wrap ((x1 : Int) * 65536) = (x1 : Int) * 65536 := u32_of _ (by omega) (by omega)
      have s2 : IntKind.u32.wrap ((x2 : Int) * 256) = (x2 : Int) * 256 := u32_of _ (by omega) (by omega)
      have n0 : (0 : Int) ≤ 4 * (i : Int) := by omega
      have n1 : (0 : Int) ≤ 4 * (i : Int) + 1 := by omega
      have n2 : (0 : Int) ≤ 4 * (i : Int) + 2 := by omega
      have n3 : (0 : Int) ≤ 4 * (i : Int) + 3 := by omega
      have p0 : 4 * (i : Int) < 64 := by omega
      have p1 : 4 * (i : Int) + 1 < 64 := by omega
      have p2 : 4 * (i : Int) + 2 < 64 := by omega
      have p3 : 4 * (i : Int) + 3 < 64 := by omega
      have p4 : (i : Int) < 64 := by omega
      have hne : b ≠ w.heap.size := by omega
      go_wp2_with fail
      go_still_tail 36, (by kernel_rfl)
      change wpList _ _ _ _ _ wr.drew
      go_wp2
      go_roundg (16 - (i + 1))
      case measure => omega
      case rel =>
        refine ⟨i + 1, by omega, rfl, by go_num, ?_, (hbel.setCell (p := ⟨w.heap.size, i, none⟩) (Nat.le_refl _) _).drew⟩
        have := hWr.set i (.int .u32 ((be32 bs i : Nat) : Int))
        rw [sched_set bs i (be32 bs i) (by omega) (if_pos hlt)] at this
        rw [HF.out, ← HE.out]
        exact this
      -- >>
    · have hi16 : i = 16 := by omega
      subst hi16
      clear hi hlt
      go_upto_region 7 with fail
      go_loopg [9] 48 (fun g c wr => ∃ i : Nat, 16 ≤ i ∧ i ≤ 64 ∧ g = 64 - i ∧ c = .int .i64 i ∧ Blk wr w.heap.size (wds (sched bs i) ++ zer32 (64 - i)) 40 ∧ Below w.heap.size w wr)
      case atStart => exact ⟨16, by omega, by omega, by omega, rfl, hWr, hbel⟩
      case round =>
        clear hWr hbel
        obtain ⟨i, hi0, hi, rfl, rfl, hWr, hbel⟩ := hrel
        by_cases hlt : i < 64
        · -- <<
          have hws := sched_lt bs i
          have y0 := hWr.cell (i - 16) _ (sched_get bs i (i - 16) (by omega))
          have y1 := hWr.cell (i - 15) _ (sched_get bs i (i - 15) (by omega))
          have y2 := hWr.cell (i - 7) _ (sched_get bs i (i - 7) (by omega))
          have y3 := hWr.cell (i - 2) _ (sched_get bs i (i - 2) (by omega))
          have l0 := hws (i - 16)
          have l1 := hws (i - 15)
          have l2 := hws (i - 7)
          have l3 := hws (i - 2)
          have HE := Lib.hid (show (if i < 16 then be32 bs i else wnext (sched bs i) i) = (((((sched bs i).getD (i - 16) 0 + smallF ((sched bs i).getD (i - 15) 0) 7 18 3) % 4294967296 + (sched bs i).getD (i - 7) 0) % 4294967296 + smallF ((sched bs i).getD (i - 2) 0) 17 19 10) % 4294967296) from by rw [if_neg (by omega)]; rfl)
          clear hws
          have G0 := Lib.hid (sched_get bs i (i - 16) (by omega))
          have G2 := Lib.hid (sched_get bs i (i - 7) (by omega))
          generalize (sched bs i).getD (i - 16) 0 = x0 at *
          generalize (sched bs i).getD (i - 15) 0 = x1 at *
          generalize (sched bs i).getD (i - 7) 0 = x2 at *
          generalize (sched bs i).getD (i - 2) 0 = x3 at *
          have hwc := hWr.cell i _ (sched_slot bs i hlt)
          have hwf := hWr.free i
          have e0 : i - 16 ≠ i := by omega
          have e1 : i - 15 ≠ i := by omega
          have e2 : i - 7 ≠ i := by omega
          have e3 : i - 2 ≠ i := by omega
          have f0 : i ≠ i - 16 := by omega
          have f1 : i ≠ i - 15 := by omega
          have f2 : i ≠ i - 7 := by omega
          have f3 : i ≠ i - 2 := by omega
          have e4 : i ≠ 0 := by omega
          have e5 : 0 < i := by omega
          have i0 : (0 : Int) ≤ (i : Int) := Int.natCast_nonneg _
          have m0 : IntKind.i64.wrap ((i : Int) - 16) = (i : Int) - 16 := by rw [IntKind.wrap_i64]; omega
          have m1 : IntKind.i64.wrap ((i : Int) - 15) = (i : Int) - 15 := by rw [IntKind.wrap_i64]; omega
          have m2 : IntKind.i64.wrap ((i : Int) - 7) = (i : Int) - 7 := by rw [IntKind.wrap_i64]; omega
          have m3 : IntKind.i64.wrap ((i : Int) - 2) = (i : Int) - 2 := by rw [IntKind.wrap_i64]; omega
          have t0 : ((i : Int) - 16).toNat = i - 16 := by omega
          have t1 : ((i : Int) - 15).toNat = i - 15 := by omega
          have t2 : ((i : Int) - 7).toNat = i - 7 := by omega
          have t3 : ((i : Int) - 2).toNat = i - 2 := by omega
          have v0 : (16 : Int) ≤ (i : Int) := by omega
          have v1 : (15 : Int) ≤ (i : Int) := by omega
          have v2 : (7 : Int) ≤ (i : Int) := by omega
          have v3 : (2 : Int) ≤ (i : Int) := by omega
          have n0 : (0 : Int) ≤ (i : Int) - 16 := by omega
          have n1 : (0 : Int) ≤ (i : Int) - 15 := by omega
          have n2 : (0 : Int) ≤ (i : Int) - 7 := by omega
          have n3 : (0 : Int) ≤ (i : Int) - 2 := by omega
          have r0 : (i : Int) - 16 < 64 := by omega
          have r1 : (i : Int) - 15 < 64 := by omega
          have r2 : (i : Int) - 7 < 64 := by omega
          have r3 : (i : Int) - 2 < 64 := by omega
          have r4 : (i : Int) < 64 := by omega
          have Q1 : Hid (∀ W, Calls Try.prog 24 #[.int .u32 x1, .int .i64 7] W fun e w' => e = .returned (.int .u32 (rotr x1 7)) ∧ W = w') := fun W => turn_any W x1 7 l1 (by decide)
          have Q2 : Hid (∀ W, Calls Try.prog 24 #[.int .u32 x1, .int .i64 18] W fun e w' => e = .returned (.int .u32 (rotr x1 18)) ∧ W = w') := fun W => turn_any W x1 18 l1 (by decide)
          have Q3 : Hid (∀ W, Calls Try.prog 24 #[.int .u32 x3, .int .i64 17] W fun e w' => e = .returned (.int .u32 (rotr x3 17)) ∧ W = w') := fun W => turn_any W x3 17 l3 (by decide)
          have Q4 : Hid (∀ W, Calls Try.prog 24 #[.int .u32 x3, .int .i64 19] W fun e w' => e = .returned (.int .u32 (rotr x3 19)) ∧ W = w') := fun W => turn_any W x3 19 l3 (by decide)
          have SF1 := small_fin x1 l1
          have SF2 := small_fin2 x3 l3
          have s1 := smallF_lt x1 7 18 3 l1
          have s3 := smallF_lt x3 17 19 10 l3
          generalize smallF x1 7 18 3 = q1 at *
          generalize smallF x3 17 19 10 = q3 at *
          generalize rotr x1 7 = z1 at *
          generalize rotr x1 18 = z2 at *
          generalize rotr x3 17 = z3 at *
          generalize rotr x3 19 = z4 at *
          go_wp2_with fail
          go_quiet (fail)
          have hW2 := hWr.below (below_drewN (Below.refl wr.heap.size wr) nq) hWr.lt
          have hb2 := below_drewN hbel nq
          clear y0 y1 y2 y3 hwc hwf hWr hbel
          generalize wr.drewN nq = w2 at *
          have y0 := hW2.cell (i - 16) _ G0.out
          have y2 := hW2.cell (i - 7) _ G2.out
          have hwc := hW2.cell i _ (sched_slot bs i hlt)
          have hwf := hW2.free i
          have KP := Lib.hid (fun u => (show (w2.setCell ⟨w.heap.size, i, none⟩ u).drew.cell? ⟨w.heap.size, i - 16, none⟩ = some (.int .u32 x0) ∧ (w2.setCell ⟨w.heap.size, i, none⟩ u).drew.cell? ⟨w.heap.size, i - 7, none⟩ = some (.int .u32 x2) from
            ⟨(World.cell?_setCell_other w2 ⟨w.heap.size, i, none⟩ ⟨w.heap.size, i - 16, none⟩ u (by simp <;> omega)).trans y0, (World.cell?_setCell_other w2 ⟨w.heap.size, i, none⟩ ⟨w.heap.size, i - 7, none⟩ u (by simp <;> omega)).trans y2⟩))
          go_wp2_with fail
          go_region_held3 (fun w' => w'.cell? ⟨w.heap.size, i - 16, none⟩ = some (.int .u32 x0) ∧ w'.cell? ⟨w.heap.size, i - 7, none⟩ = some (.int .u32 x2))
            (first | exact KP.out _ | go_keep)
            (first
              | (go_at_call 24; with_reducible refine (Q1.out _).mono ?_; rintro e wn ⟨rfl, rfl⟩)
              | (go_at_call 24; with_reducible refine (Q2.out _).mono ?_; rintro e wn ⟨rfl, rfl⟩)
              | (go_at_call 24; with_reducible refine (Q3.out _).mono ?_; rintro e wn ⟨rfl, rfl⟩)
              | (go_at_call 24; with_reducible refine (Q4.out _).mono ?_; rintro e wn ⟨rfl, rfl⟩))
          all_goals
            go_wp2
            go_roundg (64 - (i + 1))
            case measure => omega
            case rel =>
              refine ⟨i + 1, by omega, by omega, by omega, by go_num, ?_, (hb2.setCell (p := ⟨w.heap.size, i, none⟩) (Nat.le_refl _) _).drew⟩
              have := hW2.set i (.int .u32 (((((x0 + q1) % 4294967296 + x2) % 4294967296 + q3) % 4294967296 : Nat) : Int))
              rw [sched_set bs i _ (by omega) HE.out] at this
              exact this
          -- >>
        · have hi64 : i = 64 := by omega
          subst hi64
          clear hi hlt hi0
          have hH2 := hH.below hbel hH.1
          have hK2 := hK.below hbel hK.1
          go_upto_region 11 with fail
          have hgh : (wr.alloc (.cells #[] 40)).heap[wr.heap.size]? = some (.cells #[] 40 (0, 0)) := by show (wr.heap.push _)[wr.heap.size]? = _; simp
          have hH3 := hH2.below ((Below.refl wr.heap.size wr).alloc (Nat.le_refl _) (.cells #[] 40)) hH2.1
          have hbs := hbel.size
          go_wp2_with (at_builtin; refine append_words rfl _ _ rfl wr.heap.size H [h0, h1, h2, h3, h4, h5, h6, h7] rfl rfl hgh hH3 rfl wr.heap.size (Nat.le_refl _) (by simp) ?_)
          intro V c0 w3 hV hVB hg3
          have hb3 : Below wr.heap.size wr w3 := ((Below.refl wr.heap.size wr).alloc (Nat.le_refl _) (.cells #[] 40)).grown hg3 (by simp) (fun k e => by simp only [Option.some.injEq] at e; omega)
          have hW3 := hWr.below hb3 hWr.lt
          have hK3 := hK2.below hb3 hK2.1
          have hH4 := hH2.below hb3 hH2.1
          have hbel3 := hbel.trans (hb3.mono hbs)
          have hVW : V ≠ w.heap.size := by have := hWr.lt; omega
          have hVw : w.heap.size ≤ V := by omega
          clear hgh hH3 hg3 hb3 hWr hK2 hH2 hbel hVB
          have HSB := Lib.hid hsb
          clear hsb
          go_upto_region 13 with fail
          go_loopg [12, 13] 64 (fun g s c wr => ∃ (k V c0 : Nat), k ≤ 64 ∧ g = 64 - k ∧ c = .int .i64 k ∧ s = .slice (some ⟨V, 0, none⟩) 8 c0 ∧ Wd wr V (rnds (sched bs 64) [h0, h1, h2, h3, h4, h5, h6, h7] k) ∧ V ≠ w.heap.size ∧ Blk wr w.heap.size (wds (sched bs 64) ++ zer32 (64 - 64)) 40 ∧ Below w.heap.size w wr)
          case atStart => exact ⟨0, V, c0, by omega, rfl, rfl, rfl, hV, hVW, hW3, hbel3⟩
          case round =>
            clear hV hW3 hK3 hH4 hbel3 hVW hVw
            obtain ⟨k, V, c0, hk, rfl, rfl, rfl, hV, hVW, hWr, hbel⟩ := hrel
            by_cases hlt : k < 64
            · have hl8 := rnds_length (sched bs 64) [h0, h1, h2, h3, h4, h5, h6, h7] rfl k
              have hlt8 := rnds_lt (sched bs 64) [h0, h1, h2, h3, h4, h5, h6, h7] HSB.out k
              have HNX := Lib.hid (show rnds (sched bs 64) [h0, h1, h2, h3, h4, h5, h6, h7] (k + 1) = rnd (rnds (sched bs 64) [h0, h1, h2, h3, h4, h5, h6, h7] k) (kwords.getD k 0) ((sched bs 64).getD k 0) from rfl)
              have ck := (hK.below hbel hK.1).2 k (by show k < 64; exact hlt)
              have cw := hWr.cell k _ (sched_get bs 64 k hlt)
              have lw := sched_lt bs 64 k
              have lk := kw_lt k
              generalize rnds (sched bs 64) [h0, h1, h2, h3, h4, h5, h6, h7] k = vs at *
              generalize hkk : kwords.getD k 0 = kk at *
              have HKK := Lib.hid hkk
              clear hkk
              have HWW := Lib.hid (sched_get bs 64 k hlt)
              generalize (sched bs 64).getD k 0 = ww at *
              obtain ⟨a, b', c, d, e, f, g, h, rfl⟩ := eight hl8
              have q0 : wr.cell? ⟨V, 0, none⟩ = some (.int .u32 (a : Int)) := hV.2 0 (by simp)
              have q1 : wr.cell? ⟨V, 1, none⟩ = some (.int .u32 (b' : Int)) := hV.2 1 (by simp)
              have q2 : wr.cell? ⟨V, 2, none⟩ = some (.int .u32 (c : Int)) := hV.2 2 (by simp)
              have q3 : wr.cell? ⟨V, 3, none⟩ = some (.int .u32 (d : Int)) := hV.2 3 (by simp)
              have q4 : wr.cell? ⟨V, 4, none⟩ = some (.int .u32 (e : Int)) := hV.2 4 (by simp)
              have q5 : wr.cell? ⟨V, 5, none⟩ = some (.int .u32 (f : Int)) := hV.2 5 (by simp)
              have q6 : wr.cell? ⟨V, 6, none⟩ = some (.int .u32 (g : Int)) := hV.2 6 (by simp)
              have q7 : wr.cell? ⟨V, 7, none⟩ = some (.int .u32 (h : Int)) := hV.2 7 (by simp)
              have la : a < 4294967296 := hlt8 0
              have lb : b' < 4294967296 := hlt8 1
              have lc : c < 4294967296 := hlt8 2
              have ld : d < 4294967296 := hlt8 3
              have le : e < 4294967296 := hlt8 4
              have lf : f < 4294967296 := hlt8 5
              have lg : g < 4294967296 := hlt8 6
              have lh : h < 4294967296 := hlt8 7
              clear hlt8 hl8
              have hch := ch_fin e f g le lf lg
              have hmj := maj_fin a b' c la lb lc
              have lch := ch_lt e f g lf lg
              have lmj := maj_lt a b' c lb lc
              have hte := xor3 (rotr e 6) (rotr e 11) (rotr e 25) (rotr_lt e 6 le) (rotr_lt e 11 le) (rotr_lt e 25 le)
              have hta := xor3 (rotr a 2) (rotr a 13) (rotr a 22) (rotr_lt a 2 la) (rotr_lt a 13 la) (rotr_lt a 22 la)
              change _ = ((turnedF e 6 11 25 : Nat) : Int) at hte
              change _ = ((turnedF a 2 13 22 : Nat) : Int) at hta
              have T6 : Hid (∀ W, Calls Try.prog 24 #[.int .u32 e, .int .i64 6] W fun e' w' => e' = .returned (.int .u32 (rotr e 6)) ∧ w' = W) := fun W => (turn_any W e 6 le (by decide)).mono fun _ _ ⟨x, y⟩ => ⟨x, y.symm⟩
              have T11 : Hid (∀ W, Calls Try.prog 24 #[.int .u32 e, .int .i64 11] W fun e' w' => e' = .returned (.int .u32 (rotr e 11)) ∧ w' = W) := fun W => (turn_any W e 11 le (by decide)).mono fun _ _ ⟨x, y⟩ => ⟨x, y.symm⟩
              have T25 : Hid (∀ W, Calls Try.prog 24 #[.int .u32 e, .int .i64 25] W fun e' w' => e' = .returned (.int .u32 (rotr e 25)) ∧ w' = W) := fun W => (turn_any W e 25 le (by decide)).mono fun _ _ ⟨x, y⟩ => ⟨x, y.symm⟩
              have T2 : Hid (∀ W, Calls Try.prog 24 #[.int .u32 a, .int .i64 2] W fun e' w' => e' = .returned (.int .u32 (rotr a 2)) ∧ w' = W) := fun W => (turn_any W a 2 la (by decide)).mono fun _ _ ⟨x, y⟩ => ⟨x, y.symm⟩
              have T13 : Hid (∀ W, Calls Try.prog 24 #[.int .u32 a, .int .i64 13] W fun e' w' => e' = .returned (.int .u32 (rotr a 13)) ∧ w' = W) := fun W => (turn_any W a 13 la (by decide)).mono fun _ _ ⟨x, y⟩ => ⟨x, y.symm⟩
              have T22 : Hid (∀ W, Calls Try.prog 24 #[.int .u32 a, .int .i64 22] W fun e' w' => e' = .returned (.int .u32 (rotr a 22)) ∧ w' = W) := fun W => (turn_any W a 22 la (by decide)).mono fun _ _ ⟨x, y⟩ => ⟨x, y.symm⟩
              have HRND := Lib.hid (rnd_eq a b' c d e f g h kk ww)
              have lt1 := turnedF_lt e 6 11 25 le
              have lt2 := turnedF_lt a 2 13 22 la
              have k0 : (0 : Int) ≤ (k : Int) := Int.natCast_nonneg _
              have k1 : (k : Int) < 64 := by omega
              generalize chF e f g = ch at *
              generalize majF a b' c = mj at *
              generalize turnedF e 6 11 25 = te at *
              generalize turnedF a 2 13 22 = ta at *
              generalize rotr e 6 = r6 at *
              generalize rotr e 11 = r11 at *
              generalize rotr e 25 = r25 at *
              generalize rotr a 2 = r2 at *
              generalize rotr a 13 = r13 at *
              generalize rotr a 22 = r22 at *
              go_wp2_with fail
              go_quiet (fail)
              have hx := below_drewN (Below.refl wr.heap.size wr) nq
              replace hV := hV.below hx hV.1
              replace hWr := hWr.below hx hWr.lt
              replace hbel := below_drewN hbel nq
              clear hx q0 q1 q2 q3 q4 q5 q6 q7 ck cw
              generalize wr.drewN nq = wa at *
              have q0 : wa.cell? ⟨V, 0, none⟩ = some (.int .u32 (a : Int)) := hV.2 0 (by simp)
              have q1 : wa.cell? ⟨V, 1, none⟩ = some (.int .u32 (b' : Int)) := hV.2 1 (by simp)
              have q2 : wa.cell? ⟨V, 2, none⟩ = some (.int .u32 (c : Int)) := hV.2 2 (by simp)
              have q3 : wa.cell? ⟨V, 3, none⟩ = some (.int .u32 (d : Int)) := hV.2 3 (by simp)
              have q4 : wa.cell? ⟨V, 4, none⟩ = some (.int .u32 (e : Int)) := hV.2 4 (by simp)
              have q5 : wa.cell? ⟨V, 5, none⟩ = some (.int .u32 (f : Int)) := hV.2 5 (by simp)
              have q6 : wa.cell? ⟨V, 6, none⟩ = some (.int .u32 (g : Int)) := hV.2 6 (by simp)
              have q7 : wa.cell? ⟨V, 7, none⟩ = some (.int .u32 (h : Int)) := hV.2 7 (by simp)
              have ck : wa.cell? ⟨K, k, none⟩ = some (.int .u32 (kk : Int)) := by rw [← HKK.out]; exact (hK.below hbel hK.1).2 k (by show k < 64; exact hlt)
              have cw := hWr.cell k _ HWW.out
              go_wp2_with fail
              go_quiet (first
                | (go_at_call 24; with_reducible refine Calls.quiet_of_same (T6.out _))
                | (go_at_call 24; with_reducible refine Calls.quiet_of_same (T11.out _))
                | (go_at_call 24; with_reducible refine Calls.quiet_of_same (T25.out _)))
              obtain ⟨t, ht⟩ : ∃ t : Nat, t = ((((h + te) % 4294967296 + ch) % 4294967296 + kk) % 4294967296 + ww) % 4294967296 := ⟨_, rfl⟩
              have e16 : (((h : Int) + te + ch + kk) % 4294967296 + ww) % 4294967296 = (t : Int) := by rw [ht]; exact t_fin h te ch kk ww
              have ltt : t < 4294967296 := by rw [ht]; exact Nat.mod_lt _ (by decide)
              rw [e16]
              try generalize ((h : Int) + te + ch + kk) % 4294967296 = j3
              try generalize ((h : Int) + te + ch) % 4294967296 = j2
              try generalize ((h : Int) + te) % 4294967296 = j1
              try generalize (j1 + (ch : Int)) % 4294967296 = j6
              try generalize (j2 + (kk : Int)) % 4294967296 = j7
              try generalize bits .xor .u32 (r6 : Int) (r11 : Int) = y1
              try generalize bits .and .u32 (bits .xor .u32 (if IntKind.u32.signed = true then -1 else IntKind.u32.max) (e : Int)) (g : Int) = y2
              try generalize bits .xor .u32 (if IntKind.u32.signed = true then -1 else IntKind.u32.max) (e : Int) = y3
              try generalize bits .and .u32 (e : Int) (f : Int) = y4
              have HTT := Lib.hid ht
              clear e16 ht hch hte T6 T11 T25
              have hx := below_drewN (Below.refl wa.heap.size wa) nq
              replace hV := hV.below hx hV.1
              replace hWr := hWr.below hx hWr.lt
              replace hbel := below_drewN hbel nq
              clear hx q0 q1 q2 q3 q4 q5 q6 q7 ck cw
              generalize wa.drewN nq = wb at *
              have q0 : wb.cell? ⟨V, 0, none⟩ = some (.int .u32 (a : Int)) := hV.2 0 (by simp)
              have q1 : wb.cell? ⟨V, 1, none⟩ = some (.int .u32 (b' : Int)) := hV.2 1 (by simp)
              have q2 : wb.cell? ⟨V, 2, none⟩ = some (.int .u32 (c : Int)) := hV.2 2 (by simp)
              have q3 : wb.cell? ⟨V, 3, none⟩ = some (.int .u32 (d : Int)) := hV.2 3 (by simp)
              have q4 : wb.cell? ⟨V, 4, none⟩ = some (.int .u32 (e : Int)) := hV.2 4 (by simp)
              have q5 : wb.cell? ⟨V, 5, none⟩ = some (.int .u32 (f : Int)) := hV.2 5 (by simp)
              have q6 : wb.cell? ⟨V, 6, none⟩ = some (.int .u32 (g : Int)) := hV.2 6 (by simp)
              have q7 : wb.cell? ⟨V, 7, none⟩ = some (.int .u32 (h : Int)) := hV.2 7 (by simp)
              have ck : wb.cell? ⟨K, k, none⟩ = some (.int .u32 (kk : Int)) := by rw [← HKK.out]; exact (hK.below hbel hK.1).2 k (by show k < 64; exact hlt)
              have cw := hWr.cell k _ HWW.out
              go_upto_region 17 with fail
              go_quiet (first
                | (go_at_call 24; with_reducible refine Calls.quiet_of_same (T2.out _))
                | (go_at_call 24; with_reducible refine Calls.quiet_of_same (T13.out _))
                | (go_at_call 24; with_reducible refine Calls.quiet_of_same (T22.out _)))
              have hx := below_drewN (Below.refl wb.heap.size wb) nq
              replace hV := hV.below hx hV.1
              replace hWr := hWr.below hx hWr.lt
              replace hbel := below_drewN hbel nq
              clear hx q0 q1 q2 q3 q4 q5 q6 q7 ck cw
              generalize wb.drewN nq = wc at *
              have q0 : wc.cell? ⟨V, 0, none⟩ = some (.int .u32 (a : Int)) := hV.2 0 (by simp)
              have q1 : wc.cell? ⟨V, 1, none⟩ = some (.int .u32 (b' : Int)) := hV.2 1 (by simp)
              have q2 : wc.cell? ⟨V, 2, none⟩ = some (.int .u32 (c : Int)) := hV.2 2 (by simp)
              have q3 : wc.cell? ⟨V, 3, none⟩ = some (.int .u32 (d : Int)) := hV.2 3 (by simp)
              have q4 : wc.cell? ⟨V, 4, none⟩ = some (.int .u32 (e : Int)) := hV.2 4 (by simp)
              have q5 : wc.cell? ⟨V, 5, none⟩ = some (.int .u32 (f : Int)) := hV.2 5 (by simp)
              have q6 : wc.cell? ⟨V, 6, none⟩ = some (.int .u32 (g : Int)) := hV.2 6 (by simp)
              have q7 : wc.cell? ⟨V, 7, none⟩ = some (.int .u32 (h : Int)) := hV.2 7 (by simp)
              have ck : wc.cell? ⟨K, k, none⟩ = some (.int .u32 (kk : Int)) := by rw [← HKK.out]; exact (hK.below hbel hK.1).2 k (by show k < 64; exact hlt)
              have cw := hWr.cell k _ HWW.out
              go_upto_region 18 with fail
              have e17 : ((ta : Int) + mj) % 4294967296 = (((ta + mj) % 4294967296 : Nat) : Int) := e17_fin ta mj
              rw [e17]
              try generalize bits .xor .u32 (r2 : Int) (r13 : Int) = y5
              try generalize bits .xor .u32 (bits .and .u32 (a : Int) (b' : Int)) (bits .and .u32 (a : Int) (c : Int)) = y6
              try generalize bits .and .u32 (a : Int) (b' : Int) = y7
              try generalize bits .and .u32 (a : Int) (c : Int) = y8
              try generalize bits .and .u32 (b' : Int) (c : Int) = y9
              have lu : (ta + mj) % 4294967296 < 4294967296 := Nat.mod_lt _ (by decide)
              have HU : Hid ((t + (ta + mj) % 4294967296) % 4294967296 = (t + (ta + mj)) % 4294967296) := by show _ = _; rw [Nat.add_mod_mod]
              clear e17 hmj hta T2 T13 T22 lt1 lt2
              generalize (ta + mj) % 4294967296 = uu at *
              clear ck cw
              go_region_held3 (fun w' => w'.cell? ⟨V, 0, none⟩ = some (.int .u32 a) ∧ w'.cell? ⟨V, 1, none⟩ = some (.int .u32 b') ∧ w'.cell? ⟨V, 2, none⟩ = some (.int .u32 c) ∧ w'.cell? ⟨V, 3, none⟩ = some (.int .u32 d) ∧
                  w'.cell? ⟨V, 4, none⟩ = some (.int .u32 e) ∧ w'.cell? ⟨V, 5, none⟩ = some (.int .u32 f) ∧ w'.cell? ⟨V, 6, none⟩ = some (.int .u32 g))
                (go_keep)
                (fail)
              clear q0 q1 q2 q3 q4 q5 q6 q7 la lb lc ld le lf lg lh lch lmj lw lk ltt lu
              go_upto_region 14 with fail
              rename_i hHeld0
              clear hHeld0
              rw [wrap_add32 t uu, wrap_add32 d t]
              change Code.wp _ _ _ _ (wc.drew.alloc (.cells (wds [(t + uu) % 4294967296, a, b', c, (d + t) % 4294967296, e, f, g]).toArray 40))
              have hm := (Blk.made (w := wc.drew) rfl (wds [(t + uu) % 4294967296, a, b', c, (d + t) % 4294967296, e, f, g]) 40).wd
              have hWn := Blk.alloc (w := wc.drew) hWr (.cells (wds [(t + uu) % 4294967296, a, b', c, (d + t) % 4294967296, e, f, g]).toArray 40)
              have hbn := Below.alloc (w := wc.drew) hbel.drew hbel.size (.cells (wds [(t + uu) % 4294967296, a, b', c, (d + t) % 4294967296, e, f, g]).toArray 40)
              have hVn : wc.heap.size ≠ w.heap.size := by have := hWr.lt; omega
              change Wd _ wc.heap.size _ at hm
              clear hWr hbel hV
              generalize wc.drew.alloc (.cells (wds [(t + uu) % 4294967296, a, b', c, (d + t) % 4294967296, e, f, g]).toArray 40) = wn at *
              generalize wc.heap.size = Vn at *
              have HM : Hid (Wd wn Vn (rnds (sched bs 64) [h0, h1, h2, h3, h4, h5, h6, h7] (k + 1))) := by
                show Wd _ _ _
                rw [HNX.out, HRND.out, ← HTT.out]
                unfold rndV
                rw [← HU.out]
                exact hm
              clear hm HU HTT HRND
              generalize (((t + uu) % 4294967296 : Nat) : Int) = j4
              generalize (((d + t) % 4294967296 : Nat) : Int) = j5
              go_wp2
              go_roundg (64 - (k + 1))
              case measure => omega
              case rel => exact ⟨k + 1, Vn, 8, by omega, by omega, by go_num, rfl, HM.out, hVn, hWn, hbn⟩
            · have hk64 : k = 64 := by omega
              subst hk64
              clear hk hlt
              have hl8 := rnds_length (sched bs 64) [h0, h1, h2, h3, h4, h5, h6, h7] rfl 64
              have hlt8 := rnds_lt (sched bs 64) [h0, h1, h2, h3, h4, h5, h6, h7] HSB.out 64
              have HCOMP := Lib.hid (show comp [h0, h1, h2, h3, h4, h5, h6, h7] bs = outP [h0, h1, h2, h3, h4, h5, h6, h7] (rnds (sched bs 64) [h0, h1, h2, h3, h4, h5, h6, h7] 64) 8 from rfl)
              generalize rnds (sched bs 64) [h0, h1, h2, h3, h4, h5, h6, h7] 64 = vs at *
              go_upto_region 19 with fail
              go_wp2_with (at_make; refine make_words rfl 8 rfl (by omega) ?_)
              intro w5 hR5 hb5
              have hV5 := hV.below hb5 hV.1
              have hbs := hbel.size
              have hbel5 := hbel.trans (hb5.mono hbs)
              have hVR : V < wr.heap.size := hV.1
              have hHlt := hH.1
              clear hV hb5 hWr hbel
              generalize wr.heap.size = R at *
              go_upto_region 21 with fail
              go_loopg [19] 8 (fun g s wr => ∃ i : Nat, i ≤ 8 ∧ g = 8 - i ∧ s = .int .i64 i ∧ Blk wr R (wds (outP [h0, h1, h2, h3, h4, h5, h6, h7] vs i) ++ zer32 (8 - i)) 40 ∧ Wd wr V vs ∧ Below w.heap.size w wr)
              case atStart => exact ⟨0, by omega, rfl, rfl, hR5, hV5, hbel5⟩
              case round =>
                clear hR5 hV5 hbel5
                obtain ⟨i, hi, rfl, rfl, hR, hV, hbel⟩ := hrel
                by_cases hlt : i < 8
                · have hx0 := (hH.below hbel hHlt).2 i hlt
                  have hy0 := hV.2 i (by omega)
                  have b0 := HSB.out i
                  have b1 := hlt8 i
                  have HSET := Lib.hid (outP_set [h0, h1, h2, h3, h4, h5, h6, h7] vs i hlt)
                  generalize ([h0, h1, h2, h3, h4, h5, h6, h7] : List Nat).getD i 0 = x at *
                  generalize vs.getD i 0 = y at *
                  have hz0 := hR.cell i _ (outP_slot _ _ i hlt)
                  have hf0 := hR.free i
                  have i0 : (0 : Int) ≤ (i : Int) := Int.natCast_nonneg _
                  have i8 : (i : Int) < 8 := by omega
                  go_wp2_with fail
                  go_still_tail 12, (by kernel_rfl)
                  change wpList _ _ _ _ _ wr.drew
                  go_wp2
                  go_roundg (8 - (i + 1))
                  case measure => omega
                  case rel =>
                    refine ⟨i + 1, by omega, by omega, by go_num, ?_, hV.other (by show R ≠ V; omega) _, (hbel.setCell (p := ⟨R, i, none⟩) hbs _).drew⟩
                    have := hR.set i (.int .u32 (((x + y) % 4294967296 : Nat) : Int))
                    rw [HSET.out] at this
                    exact this
                · have hi8 : i = 8 := by omega
                  subst hi8
                  go_wp2
                  go_ret
                  refine ⟨R, rfl, hbs, ?_, hbel⟩
                  rw [HCOMP.out]
                  simpa [zer32] using hR

end Go.Proofs.Ytogpecgbgfcdcaa
