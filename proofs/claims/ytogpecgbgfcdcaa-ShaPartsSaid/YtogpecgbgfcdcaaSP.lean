/- Bytes as strings; the contract of Hex. -/
import Derived.Test.YtogpecgbgfcdcaaSF
import Derived.Laws.IdiomStrings
import Derived.Laws.BytesArg
import Derived.BigRegion
import Derived.StillTailTactics
import Derived.Deep.AppendLies
import Derived.Deep.RegionLaw
import Derived.Deep.DeepCutAuto
namespace Go.Proofs.Ytogpecgbgfcdcaa
open Go.RowKit

def str (bs : List UInt8) : Value := .string ⟨bs.toArray⟩
theorem conv_str {w : World} {B : Nat} {v : Value} {bs : List UInt8} (h : OwnB w B v bs) : (convert 22 9 v).run Try.prog w = .ok (str bs) w := by
  obtain ⟨a, cap, rfl, _, hB⟩ := h.row
  rcases hB with hB | ⟨b, off, rfl, _, _, hc⟩
  · have : bs = [] := by simpa [nums] using hB
    subst this
    cases a with
    | none => exact run_convert_bytes_nil w 22 5 Try.underlying22 Try.underlying5 _ _ 9 Try.underlying9
    | some a => exact run_convert_bytes_back w 22 9 5 a cap [] Try.underlying22 Try.underlying5 Try.underlying9 (fun j hj => by simp at hj)
  · refine run_convert_bytes_back w 22 9 5 _ cap bs Try.underlying22 Try.underlying5 Try.underlying9 (fun j hj => ?_)
    rw [Addr.add_mid, hc j (by rw [nums_length]; exact hj)]
    simp [nums, List.getD, hj]

/-- 'append(s, t...)' of some bytes in a region that draws its order. -/
theorem step_append_bytes {w : World} {ops : Array Oper} {o : Oper} {a : Act} {K : Act → World → Prop} {Q : Exit → Act → World → Prop} {E : Prop} (hgd : o.guard = none) (s x : Operand)
    (ho : o.op = .call { callee := .builtin .append, args := #[s, x], argTypes := #[22, 22] }) (B : Nat) (v : Value) (bs cs : List UInt8) (ad : Addr) (c : Nat)
    (hs : a.eval s = v) (hx : a.eval x = .slice (some ad) cs.length c) (hown : OwnB w B v bs) (hz : Bys 0 w (some ad) cs) (h0 : 0 < cs.length) (hl : bs.length + cs.length ≤ 4294967296) (hB : B ≤ w.heap.size)
    (h : ∀ a' cap' w', OwnB w' B (.slice a' (bs.length + cs.length) cap') (bs ++ cs) → w.grownBy w' v.ownBlock → K (a.put o.dst (.slice a' (bs.length + cs.length) cap')) w') :
    if Region.wanted o (yielded ops a.tmps) = true then Oper.wp Try.prog o a w K Q else E := by
  obtain ⟨i0, hi, hz0, hz1, hz2⟩ := info_parts Try.info5
  refine step_append_lies (P := Try.prog) w hgd s x 22 ho B 5 i0 (.int .u8 0) 1 1 Try.underlying22 hi hz0 hz1 hz2 rfl (by decide) v bs.length (byv bs) hs hown ad cs.length c (byv cs) hx (by simp [byv]) ?_ (byv_one cs) h0 (by unfold maxLen; omega) (by omega) hB _ rfl ?_
  · intro j u hj
    have hjl : j < cs.length := by have := (List.getElem?_eq_some_iff.1 hj).1; simpa [byv] using this
    rcases hz with hz | ⟨b, off, e, _, _, hc⟩
    · have : cs = [] := by simpa [nums] using hz
      subst this; simp at hjl
    · simp only [Option.some.injEq] at e
      subst e
      rw [Addr.add_mid, hc j (by rw [nums_length]; exact hjl)]
      rw [← hj]; simp [byv, nums, List.getD, hjl]
  · intro g cap' w' hown' hg _ _
    refine h (some ⟨g, 0, none⟩) cap' w' ?_ hg
    unfold OwnB; rw [byv_append, List.length_append]; exact hown'

/-- The digit of a number below sixteen. -/
def hexd (n : Nat) : UInt8 := UInt8.ofNat (if n < 10 then 48 + n else 87 + n)
def hexL : List UInt8 → List UInt8
  | [] => []
  | b :: bs => hexd (b.toNat / 16) :: hexd (b.toNat % 16) :: hexL bs
theorem hexL_append (a b : List UInt8) : hexL (a ++ b) = hexL a ++ hexL b := by induction a with | nil => rfl | cons x a ih => simp [hexL, ih]
theorem hexL_length (a : List UInt8) : (hexL a).length = 2 * a.length := by induction a with | nil => rfl | cons x a ih => simp [hexL, ih]; omega
theorem take_succ {bs : List UInt8} {i : Nat} (h : i < bs.length) : bs.take (i + 1) = bs.take i ++ [bs.getD i 0] := by
  rw [List.take_add_one]; simp [List.getD, h]
theorem hexL_take {bs : List UInt8} {i : Nat} (h : i < bs.length) : hexL (bs.take (i + 1)) = hexL (bs.take i) ++ [hexd ((bs.getD i 0).toNat / 16), hexd ((bs.getD i 0).toNat % 16)] := by
  rw [take_succ h, hexL_append]; rfl

/-- The byte at a place. -/
def byteAt (bs : List UInt8) (j : Int) : Int := ((bs.getD j.toNat 0).toNat : Int)
theorem byteAt_nat (bs : List UInt8) (i : Nat) : byteAt bs (i : Int) = ((bs.getD i 0).toNat : Int) := by simp [byteAt]
theorem byteAt_bd (bs : List UInt8) (j : Int) : 0 ≤ byteAt bs j ∧ byteAt bs j < 256 := by
  unfold byteAt
  have := (bs.getD j.toNat 0).toNat_lt
  omega
@[go_sem high] theorem run_index_bytes (w : World) (t : TypeId) (bs : List UInt8) (k : IntKind) (j : Int) (h : Try.prog.underlying t = some .string) (h0 : 0 ≤ j) (h1 : j < bs.length) :
    (Instr.index t (.string ⟨bs.toArray⟩) (.int k j)).run Try.prog w = .ok (.int .u8 (byteAt bs j)) w := by
  have hs : (⟨bs.toArray⟩ : ByteArray).size = bs.length := by simp [ByteArray.size]
  rw [run_index_string w t ⟨bs.toArray⟩ k j h, dif_pos ⟨h0, by rw [hs]; exact h1⟩]
  have hl : j.toNat < bs.length := by omega
  show Result.ok (Value.int .u8 ((bs[j.toNat]'hl).toNat : Int)) w = _
  unfold byteAt
  simp [List.getD, hl]
def digs : List UInt8 := [48, 49, 50, 51, 52, 53, 54, 55, 56, 57, 97, 98, 99, 100, 101, 102]
theorem digs_at : ∀ n, n < 16 → digs.getD n 0 = hexd n := by decide +kernel
theorem and15 : ∀ x, x < 256 → bits .and .u8 ((x : Nat) : Int) 15 = ((x % 16 : Nat) : Int) := by decide +kernel

theorem dig_at (n : Nat) (h : n < 16) : byteAt [48, 49, 50, 51, 52, 53, 54, 55, 56, 57, 97, 98, 99, 100, 101, 102] (n : Int) = ((hexd n).toNat : Int) := by
  rw [byteAt_nat, ← digs_at n h]; rfl
/-- Bytes just laid into a block. -/
theorem Bys.new (w : World) (bs : List UInt8) (t : TypeId) : Bys 0 (w.alloc (.cells (byv bs).toArray t)) (some ⟨w.heap.size, 0, none⟩) bs := by
  refine .inr ⟨w.heap.size, 0, rfl, Nat.zero_le _, by simp, fun i hi => ?_⟩
  rw [nums_length] at hi
  rw [Nat.zero_add, (Blk.made rfl (byv bs) t).cell i _ (show (byv bs)[i]? = some (.int .u8 ((nums bs).getD i 0)) by simp [byv, nums, List.getD, hi])]

theorem OwnB.ownBlock_lt {w : World} {B : Nat} {v : Value} {bs : List UInt8} (h : OwnB w B v bs) {g : Nat} (e : v.ownBlock = some g) : B ≤ g ∧ g < w.heap.size := World.ownsRow.lt h g e

set_option maxRecDepth 100000 in
set_option maxHeartbeats 4000000 in
theorem hex_any (w : World) (bs : List UInt8) (hl : bs.length ≤ 1048576) :
    Calls Try.prog 14 #[str bs] w fun e w' => e = .returned (str (hexL bs)) ∧ Below w.heap.size w w' := by
  unfold str
  go_enter Try.func14, Try.ntmps14
  go_wp2_with fail
  go_loopg [3, 7] bs.length (fun g v c wr => ∃ (i : Nat), i ≤ bs.length ∧ g = bs.length - i ∧ c = .int .i64 i ∧ OwnB wr w.heap.size v (hexL (bs.take i)) ∧ Below w.heap.size w wr)
  case atStart => exact ⟨0, Nat.zero_le _, rfl, rfl, OwnB.nil _ _, Below.refl _ _⟩
  case round =>
    obtain ⟨i, hi, rfl, rfl, hO, hbel⟩ := hrel
    by_cases hlt : i < bs.length
    · have i0 : (0 : Int) ≤ (i : Int) := Int.natCast_nonneg _
      have i1 : (i : Int) < (bs.length : Int) := by omega
      have hbd := byteAt_bd bs i
      have q0 : 0 ≤ byteAt bs i / 16 := by omega
      have q1 : byteAt bs i / 16 < 16 := by omega
      have hand : bits .and .u8 (byteAt bs i) 15 = byteAt bs i % 16 := by
        obtain ⟨x, hx⟩ := Int.eq_ofNat_of_zero_le hbd.1
        rw [hx, and15 x (by omega)]; omega
      have q2 : 0 ≤ byteAt bs i % 16 := by omega
      have q3 : byteAt bs i % 16 < 16 := by omega
      have hd1 : byteAt [48, 49, 50, 51, 52, 53, 54, 55, 56, 57, 97, 98, 99, 100, 101, 102] (byteAt bs i / 16) = ((hexd ((bs.getD i 0).toNat / 16)).toNat : Int) := by
        rw [byteAt_nat] at hbd ⊢
        rw [← dig_at _ (by omega)]; congr 1
      have hd2 : byteAt [48, 49, 50, 51, 52, 53, 54, 55, 56, 57, 97, 98, 99, 100, 101, 102] (byteAt bs i % 16) = ((hexd ((bs.getD i 0).toNat % 16)).toNat : Int) := by
        rw [byteAt_nat] at hbd ⊢
        rw [← dig_at _ (by omega)]; congr 1
      have HT := Lib.hid (hexL_take hlt)
      generalize hexd ((bs.getD i 0).toNat / 16) = x1 at *
      generalize hexd ((bs.getD i 0).toNat % 16) = x2 at *
      have hll : (hexL (bs.take i)).length = 2 * i := by rw [hexL_length, List.length_take]; omega
      have HLL := Lib.hid hll
      go_upto_region 5 with fail
      go_wp2_with fail
      go_region_law (first
        | (refine step_append_bytes (by rfl) _ _ (by rfl) w.heap.size _ (hexL (bs.take i)) [x1, x2] ⟨wr.heap.size, 0, none⟩ 2 (by rfl) (by rfl) ((show OwnB wr.drew _ _ _ from hO).alloc _) (Bys.new wr.drew [x1, x2] 5) (by simp) (by simp only [List.length_cons, List.length_nil]; omega) (by have := hbel.size; simp <;> omega) ?_
           intro a' c' w3 hO3 hg3))
      all_goals
        rw [← HT.out, HLL.out] at hO3
        have hb3 := (hbel.drew.alloc hbel.size (.cells (byv [x1, x2]).toArray 5)).grown hg3 (by have := hbel.size; simp <;> omega) (fun k hk => (hO.ownBlock_lt hk).1)
        go_wp2
        go_roundg (bs.length - (i + 1))
        case measure => omega
        case rel => exact ⟨i + 1, by omega, rfl, by go_num, hO3, hb3⟩
    · have hie : i = bs.length := by omega
      subst hie
      rw [List.take_length] at hO
      have hconv := conv_str hO
      unfold str at hconv
      go_wp2
      go_ret
      exact ⟨rfl, hbel⟩

end Go.Proofs.Ytogpecgbgfcdcaa
