/- The contracts of turned and small. -/
import Derived.Test.YtogpecgbgfcdcaaSB
namespace Go.Proofs.Ytogpecgbgfcdcaa
open Go.RowKit

def turnedF (x a b c : Nat) : Nat := rotr x a ^^^ rotr x b ^^^ rotr x c
def smallF (x a b c : Nat) : Nat := rotr x a ^^^ rotr x b ^^^ x / 2 ^ c
theorem turnedF_lt (x a b c : Nat) (hx : x < 4294967296) : turnedF x a b c < 4294967296 :=
  Nat.xor_lt_two_pow (n := 32) (Nat.xor_lt_two_pow (n := 32) (rotr_lt x a hx) (rotr_lt x b hx)) (rotr_lt x c hx)
theorem smallF_lt (x a b c : Nat) (hx : x < 4294967296) : smallF x a b c < 4294967296 :=
  Nat.xor_lt_two_pow (n := 32) (Nat.xor_lt_two_pow (n := 32) (rotr_lt x a hx) (rotr_lt x b hx)) (Nat.lt_of_le_of_lt (Nat.div_le_self _ _) hx)

theorem xor3 (a b c : Nat) (ha : a < 4294967296) (hb : b < 4294967296) (hc : c < 4294967296) : bits .xor .u32 (bits .xor .u32 (a : Int) (b : Int)) (c : Int) = ((a ^^^ b ^^^ c : Nat) : Int) := by
  rw [xor32 a b ha hb, xor32 _ c (Nat.xor_lt_two_pow (n := 32) ha hb) hc]

set_option maxHeartbeats 400000 in
theorem turned_e (w : World) (x : Nat) (hx : x < 4294967296) : Calls Try.prog 27 #[.int .u32 x, .int .i64 6, .int .i64 11, .int .i64 25] w fun e w' => e = .returned (.int .u32 (turnedF x 6 11 25)) ∧ w = w' := by
  have H := Lib.hid (xor3 (rotr x 6) (rotr x 11) (rotr x 25) (rotr_lt _ _ hx) (rotr_lt _ _ hx) (rotr_lt _ _ hx))
  have R1 := Lib.hid (fun W => rot_6 W x hx)
  have R2 := Lib.hid (fun W => rot_11 W x hx)
  have R3 := Lib.hid (fun W => rot_25 W x hx)
  go_enter Try.func27, Try.ntmps27
  go_wp2_with fail
  refine (R1.out _).mono ?_
  rintro e w1 ⟨rfl, rfl⟩
  go_wp2_with fail
  refine (R2.out _).mono ?_
  rintro e w1 ⟨rfl, rfl⟩
  go_wp2_with fail
  refine (R3.out _).mono ?_
  rintro e w1 ⟨rfl, rfl⟩
  go_wp2
  go_ret
  exact ⟨ret_int H.out, rfl⟩

set_option maxHeartbeats 400000 in
theorem turned_a (w : World) (x : Nat) (hx : x < 4294967296) : Calls Try.prog 27 #[.int .u32 x, .int .i64 2, .int .i64 13, .int .i64 22] w fun e w' => e = .returned (.int .u32 (turnedF x 2 13 22)) ∧ w = w' := by
  have H := Lib.hid (xor3 (rotr x 2) (rotr x 13) (rotr x 22) (rotr_lt _ _ hx) (rotr_lt _ _ hx) (rotr_lt _ _ hx))
  have R1 := Lib.hid (fun W => rot_2 W x hx)
  have R2 := Lib.hid (fun W => rot_13 W x hx)
  have R3 := Lib.hid (fun W => rot_22 W x hx)
  go_enter Try.func27, Try.ntmps27
  go_wp2_with fail
  refine (R1.out _).mono ?_
  rintro e w1 ⟨rfl, rfl⟩
  go_wp2_with fail
  refine (R2.out _).mono ?_
  rintro e w1 ⟨rfl, rfl⟩
  go_wp2_with fail
  refine (R3.out _).mono ?_
  rintro e w1 ⟨rfl, rfl⟩
  go_wp2
  go_ret
  exact ⟨ret_int H.out, rfl⟩

set_option maxHeartbeats 400000 in
theorem small_a (w : World) (x : Nat) (hx : x < 4294967296) : Calls Try.prog 26 #[.int .u32 x, .int .i64 7, .int .i64 18, .int .i64 3] w fun e w' => e = .returned (.int .u32 (smallF x 7 18 3)) ∧ w.drew = w' := by
  have H := Lib.hid (xor3 (rotr x 7) (rotr x 18) (x / 8) (rotr_lt _ _ hx) (rotr_lt _ _ hx) (Nat.lt_of_le_of_lt (Nat.div_le_self _ _) hx))
  have R1 := Lib.hid (fun W => rot_7 W x hx)
  have R2 := Lib.hid (fun W => rot_18 W x hx)
  have n1 : IntKind.i64.wrap (-7) = -7 := by decide
  have n2 : IntKind.i64.wrap (-18) = -18 := by decide
  go_enter Try.func26, Try.ntmps26
  go_wp2_with fail
  go_region_held3 (fun _ => True) (trivial)
    (first
      | (go_at_call 28; with_reducible refine (R1.out _).mono ?_; rintro e wn ⟨rfl, rfl⟩)
      | (go_at_call 28; with_reducible refine (R2.out _).mono ?_; rintro e wn ⟨rfl, rfl⟩))
  go_wp2
  go_ret
  exact ⟨ret_int H.out, rfl⟩

set_option maxHeartbeats 400000 in
theorem small_b (w : World) (x : Nat) (hx : x < 4294967296) : Calls Try.prog 26 #[.int .u32 x, .int .i64 17, .int .i64 19, .int .i64 10] w fun e w' => e = .returned (.int .u32 (smallF x 17 19 10)) ∧ w.drew = w' := by
  have H := Lib.hid (xor3 (rotr x 17) (rotr x 19) (x / 1024) (rotr_lt _ _ hx) (rotr_lt _ _ hx) (Nat.lt_of_le_of_lt (Nat.div_le_self _ _) hx))
  have R1 := Lib.hid (fun W => rot_17 W x hx)
  have R2 := Lib.hid (fun W => rot_19 W x hx)
  have n1 : IntKind.i64.wrap (-17) = -17 := by decide
  have n2 : IntKind.i64.wrap (-19) = -19 := by decide
  go_enter Try.func26, Try.ntmps26
  go_wp2_with fail
  go_region_held3 (fun _ => True) (trivial)
    (first
      | (go_at_call 28; with_reducible refine (R1.out _).mono ?_; rintro e wn ⟨rfl, rfl⟩)
      | (go_at_call 28; with_reducible refine (R2.out _).mono ?_; rintro e wn ⟨rfl, rfl⟩))
  go_wp2
  go_ret
  exact ⟨ret_int H.out, rfl⟩

end Go.Proofs.Ytogpecgbgfcdcaa
