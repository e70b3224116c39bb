/- Words of 32 bits: the model's operations on them are Nat's; RotateLeft32, turned, small, and the reference's turn. -/
import Derived.Test.YtogpecgbgfcdcaaA
import Derived.Deep.RegionHeld3
import Derived.Deep.LoopGhost
import Derived.BigQuiet
import Derived.Deep.QuietTactic
namespace Go.Proofs.Ytogpecgbgfcdcaa
open Go.RowKit

theorem ofInt32 (a : Nat) (ha : a < 4294967296) : (BitVec.ofInt 32 (a : Int)).toNat = a := by
  simp [BitVec.toNat_ofInt]; omega
theorem wrap32n (n : Nat) (h : n < 4294967296) : IntKind.u32.wrap (n : Int) = n := by
  rw [IntKind.wrap_u32']; omega
theorem or32 (a b : Nat) (ha : a < 4294967296) (hb : b < 4294967296) : bits .or .u32 (a : Int) (b : Int) = ((a ||| b : Nat) : Int) := by
  have e : bits .or .u32 (a : Int) (b : Int) = IntKind.u32.wrap (((BitVec.ofInt 32 (a : Int)) ||| (BitVec.ofInt 32 (b : Int))).toNat : Int) := rfl
  rw [e, BitVec.toNat_or, ofInt32 a ha, ofInt32 b hb]
  exact wrap32n _ (Nat.or_lt_two_pow (n := 32) ha hb)
theorem xor32 (a b : Nat) (ha : a < 4294967296) (hb : b < 4294967296) : bits .xor .u32 (a : Int) (b : Int) = ((a ^^^ b : Nat) : Int) := by
  have e : bits .xor .u32 (a : Int) (b : Int) = IntKind.u32.wrap (((BitVec.ofInt 32 (a : Int)) ^^^ (BitVec.ofInt 32 (b : Int))).toNat : Int) := rfl
  rw [e, BitVec.toNat_xor, ofInt32 a ha, ofInt32 b hb]
  exact wrap32n _ (Nat.xor_lt_two_pow (n := 32) ha hb)
theorem and32 (a b : Nat) (ha : a < 4294967296) (hb : b < 4294967296) : bits .and .u32 (a : Int) (b : Int) = ((a &&& b : Nat) : Int) := by
  have e : bits .and .u32 (a : Int) (b : Int) = IntKind.u32.wrap (((BitVec.ofInt 32 (a : Int)) &&& (BitVec.ofInt 32 (b : Int))).toNat : Int) := rfl
  rw [e, BitVec.toNat_and, ofInt32 a ha, ofInt32 b hb]
  exact wrap32n _ (Nat.and_lt_two_pow (n := 32) a hb)

def rotr (x a : Nat) : Nat := x / 2 ^ a ||| x * 2 ^ (32 - a) % 4294967296

theorem rot_fin (x A B : Nat) (hx : x < 4294967296) : bits .or .u32 ((x : Int) * (B : Int) % 4294967296) ((x : Int) / (A : Int)) = ((x / A ||| x * B % 4294967296 : Nat) : Int) := by
  have h1 : x / A < 4294967296 := Nat.lt_of_le_of_lt (Nat.div_le_self _ _) hx
  have h2 : x * B % 4294967296 < 4294967296 := Nat.mod_lt _ (by decide)
  have := or32 _ _ h2 h1
  rw [Nat.or_comm] at this
  rw [← this]
  congr 1
theorem turn_fin (x A B : Nat) (hx : x < 4294967296) : bits .or .u32 ((x : Int) / (A : Int)) ((x : Int) * (B : Int) % 4294967296) = ((x / A ||| x * B % 4294967296 : Nat) : Int) := by
  have h1 : x / A < 4294967296 := Nat.lt_of_le_of_lt (Nat.div_le_self _ _) hx
  have h2 : x * B % 4294967296 < 4294967296 := Nat.mod_lt _ (by decide)
  rw [← or32 _ _ h1 h2]
  congr 1
theorem rotr_lt (x a : Nat) (hx : x < 4294967296) : rotr x a < 4294967296 :=
  Nat.or_lt_two_pow (n := 32) (Nat.lt_of_le_of_lt (Nat.div_le_self _ _) hx) (Nat.mod_lt _ (by decide))

def amounts : List Nat := [2, 6, 7, 11, 13, 17, 18, 19, 22, 25]

set_option maxHeartbeats 400000 in
theorem rot_2 (w : World) (x : Nat) (hx : x < 4294967296) : Calls Try.prog 28 #[.int .u32 x, .int .i64 (-2)] w fun e w' => e = .returned (.int .u32 (rotr x 2)) ∧ w = w' := by
  have hm : bits BinOp.and IntKind.u64 (IntKind.u64.wrap (-2)) 31 = 30 := by decide +kernel
  go_enter Try.func28, Try.ntmps28
  go_wp2
  go_ret
  exact ⟨ret_int (rot_fin x _ _ hx), rfl⟩
set_option maxHeartbeats 400000 in
theorem rot_6 (w : World) (x : Nat) (hx : x < 4294967296) : Calls Try.prog 28 #[.int .u32 x, .int .i64 (-6)] w fun e w' => e = .returned (.int .u32 (rotr x 6)) ∧ w = w' := by
  have hm : bits BinOp.and IntKind.u64 (IntKind.u64.wrap (-6)) 31 = 26 := by decide +kernel
  go_enter Try.func28, Try.ntmps28
  go_wp2
  go_ret
  exact ⟨ret_int (rot_fin x _ _ hx), rfl⟩
set_option maxHeartbeats 400000 in
theorem rot_7 (w : World) (x : Nat) (hx : x < 4294967296) : Calls Try.prog 28 #[.int .u32 x, .int .i64 (-7)] w fun e w' => e = .returned (.int .u32 (rotr x 7)) ∧ w = w' := by
  have hm : bits BinOp.and IntKind.u64 (IntKind.u64.wrap (-7)) 31 = 25 := by decide +kernel
  go_enter Try.func28, Try.ntmps28
  go_wp2
  go_ret
  exact ⟨ret_int (rot_fin x _ _ hx), rfl⟩
set_option maxHeartbeats 400000 in
theorem rot_11 (w : World) (x : Nat) (hx : x < 4294967296) : Calls Try.prog 28 #[.int .u32 x, .int .i64 (-11)] w fun e w' => e = .returned (.int .u32 (rotr x 11)) ∧ w = w' := by
  have hm : bits BinOp.and IntKind.u64 (IntKind.u64.wrap (-11)) 31 = 21 := by decide +kernel
  go_enter Try.func28, Try.ntmps28
  go_wp2
  go_ret
  exact ⟨ret_int (rot_fin x _ _ hx), rfl⟩
set_option maxHeartbeats 400000 in
theorem rot_13 (w : World) (x : Nat) (hx : x < 4294967296) : Calls Try.prog 28 #[.int .u32 x, .int .i64 (-13)] w fun e w' => e = .returned (.int .u32 (rotr x 13)) ∧ w = w' := by
  have hm : bits BinOp.and IntKind.u64 (IntKind.u64.wrap (-13)) 31 = 19 := by decide +kernel
  go_enter Try.func28, Try.ntmps28
  go_wp2
  go_ret
  exact ⟨ret_int (rot_fin x _ _ hx), rfl⟩
set_option maxHeartbeats 400000 in
theorem rot_17 (w : World) (x : Nat) (hx : x < 4294967296) : Calls Try.prog 28 #[.int .u32 x, .int .i64 (-17)] w fun e w' => e = .returned (.int .u32 (rotr x 17)) ∧ w = w' := by
  have hm : bits BinOp.and IntKind.u64 (IntKind.u64.wrap (-17)) 31 = 15 := by decide +kernel
  go_enter Try.func28, Try.ntmps28
  go_wp2
  go_ret
  exact ⟨ret_int (rot_fin x _ _ hx), rfl⟩
set_option maxHeartbeats 400000 in
theorem rot_18 (w : World) (x : Nat) (hx : x < 4294967296) : Calls Try.prog 28 #[.int .u32 x, .int .i64 (-18)] w fun e w' => e = .returned (.int .u32 (rotr x 18)) ∧ w = w' := by
  have hm : bits BinOp.and IntKind.u64 (IntKind.u64.wrap (-18)) 31 = 14 := by decide +kernel
  go_enter Try.func28, Try.ntmps28
  go_wp2
  go_ret
  exact ⟨ret_int (rot_fin x _ _ hx), rfl⟩
set_option maxHeartbeats 400000 in
theorem rot_19 (w : World) (x : Nat) (hx : x < 4294967296) : Calls Try.prog 28 #[.int .u32 x, .int .i64 (-19)] w fun e w' => e = .returned (.int .u32 (rotr x 19)) ∧ w = w' := by
  have hm : bits BinOp.and IntKind.u64 (IntKind.u64.wrap (-19)) 31 = 13 := by decide +kernel
  go_enter Try.func28, Try.ntmps28
  go_wp2
  go_ret
  exact ⟨ret_int (rot_fin x _ _ hx), rfl⟩
set_option maxHeartbeats 400000 in
theorem rot_22 (w : World) (x : Nat) (hx : x < 4294967296) : Calls Try.prog 28 #[.int .u32 x, .int .i64 (-22)] w fun e w' => e = .returned (.int .u32 (rotr x 22)) ∧ w = w' := by
  have hm : bits BinOp.and IntKind.u64 (IntKind.u64.wrap (-22)) 31 = 10 := by decide +kernel
  go_enter Try.func28, Try.ntmps28
  go_wp2
  go_ret
  exact ⟨ret_int (rot_fin x _ _ hx), rfl⟩
set_option maxHeartbeats 400000 in
theorem rot_25 (w : World) (x : Nat) (hx : x < 4294967296) : Calls Try.prog 28 #[.int .u32 x, .int .i64 (-25)] w fun e w' => e = .returned (.int .u32 (rotr x 25)) ∧ w = w' := by
  have hm : bits BinOp.and IntKind.u64 (IntKind.u64.wrap (-25)) 31 = 7 := by decide +kernel
  go_enter Try.func28, Try.ntmps28
  go_wp2
  go_ret
  exact ⟨ret_int (rot_fin x _ _ hx), rfl⟩

theorem rot_any (w : World) (x a : Nat) (hx : x < 4294967296) (ha : a ∈ amounts) :
    Calls Try.prog 28 #[.int .u32 x, .int .i64 (-(a : Int))] w fun e w' => e = .returned (.int .u32 (rotr x a)) ∧ w = w' := by
  simp only [amounts, List.mem_cons, List.not_mem_nil, or_false] at ha
  rcases ha with rfl | rfl | rfl | rfl | rfl | rfl | rfl | rfl | rfl | rfl
  · exact rot_2 w x hx
  · exact rot_6 w x hx
  · exact rot_7 w x hx
  · exact rot_11 w x hx
  · exact rot_13 w x hx
  · exact rot_17 w x hx
  · exact rot_18 w x hx
  · exact rot_19 w x hx
  · exact rot_22 w x hx
  · exact rot_25 w x hx

set_option maxHeartbeats 4000000 in
theorem turn_any (w : World) (x a : Nat) (hx : x < 4294967296) (ha : a ∈ amounts) :
    Calls Try.prog 24 #[.int .u32 x, .int .i64 a] w fun e w' => e = .returned (.int .u32 (rotr x a)) ∧ w = w' := by
  simp only [amounts, List.mem_cons, List.not_mem_nil, or_false] at ha
  rcases ha with rfl | rfl | rfl | rfl | rfl | rfl | rfl | rfl | rfl | rfl
  all_goals
    go_enter Try.func24, Try.ntmps24
    go_wp2
    go_ret
    exact ⟨ret_int (turn_fin x _ _ hx), rfl⟩

end Go.Proofs.Ytogpecgbgfcdcaa
