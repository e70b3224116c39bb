/- The contracts of digit, nibble and of the reference's Hex. -/
import Derived.Test.YtogpecgbgfcdcaaSP
import Derived.BigQuiet
import Derived.Deep.QuietTactic
namespace Go.Proofs.Ytogpecgbgfcdcaa
open Go.RowKit

/-- What a digit says. -/
def nib (c : Nat) : Option Nat := if 48 ≤ c ∧ c ≤ 57 then some (c - 48) else if 97 ≤ c ∧ c ≤ 102 then some (c - 87) else none
theorem nib_digs : ∀ i, i < 16 → nib (digs.getD i 0).toNat = some i := by decide +kernel
theorem nib_none : ∀ c, c < 256 → (∀ j, j < 16 → (digs.getD j 0).toNat ≠ c) → nib c = none := by decide +kernel
theorem nib_lt {c d : Nat} (h : nib c = some d) : d < 16 := by
  unfold nib at h
  split at h
  · simp only [Option.some.injEq] at h; omega
  · split at h
    · simp only [Option.some.injEq] at h; omega
    · cases h
def digV (o : Option Nat) : Value := match o with
  | some d => .tuple #[.int .u8 (d : Int), .bool true]
  | none => .tuple #[.int .u8 0, .bool false]
def nibV (o : Option Nat) : Int := match o with
  | some d => (d : Int)
  | none => -1

set_option maxHeartbeats 4000000 in
theorem digit_any (w : World) (c : Nat) (hc : c < 256) : Calls Try.prog 22 #[.int .u8 c] w fun e w' => e = .returned (digV (nib c)) ∧ w' = w := by
  go_enter Try.func22, Try.ntmps22
  go_wp2_with fail
  go_loopg [5] 16 (fun G s wr => ∃ i : Nat, i ≤ 16 ∧ G = 16 - i ∧ s = .int .i64 i ∧ Hid (∀ j, j < i → (digs.getD j 0).toNat ≠ c) ∧ wr = w)
  case atStart => exact ⟨0, by omega, rfl, rfl, fun j hj => by omega, rfl⟩
  case round =>
    obtain ⟨i, hi, rfl, rfl, hno, rfl⟩ := hrel
    by_cases hlt : i < 16
    · have i0 : (0 : Int) ≤ (i : Int) := Int.natCast_nonneg _
      have i1 : (i : Int) < 16 := by omega
      have hdg := dig_at i hlt
      have hx : ((hexd i).toNat : Int) = ((digs.getD i 0).toNat : Int) := by rw [digs_at i hlt]
      rw [hx] at hdg
      clear hx
      by_cases he : (digs.getD i 0).toNat = c
      · have HN := Lib.hid (show nib c = some i by rw [← he]; exact nib_digs i hlt)
        rw [he] at hdg
        clear he
        have w1 : IntKind.u8.wrap (i : Int) = i := by rw [IntKind.wrap_u8']; omega
        go_wp2
        exact bodyPost_ret (v := .tuple #[.int .u8 (i : Int), .bool true]) (by simp [results, Try.results22, go_sem]) rfl ⟨by rw [HN.out]; rfl, rfl⟩
      · obtain ⟨x, hxq⟩ : ∃ x, x = (digs.getD i 0).toNat := ⟨_, rfl⟩
        rw [← hxq] at hdg he
        have HXQ := Lib.hid hxq
        clear hxq
        have hxe : ((x : Int) == (c : Int)) = false := by simp; omega
        go_wp2
        go_roundg (16 - (i + 1))
        case measure => omega
        case rel =>
          refine ⟨i + 1, by omega, rfl, by go_num, fun j hj => ?_, rfl⟩
          by_cases hji : j = i
          · subst hji; rw [← HXQ.out]; omega
          · exact hno.out j (by omega)
    · have hi16 : i = 16 := by omega
      subst hi16
      have HN := Lib.hid (nib_none c hc hno.out)
      go_wp2
      exact bodyPost_ret (v := .tuple #[.int .u8 0, .bool false]) (by simp [results, Try.results22, go_sem]) rfl ⟨by rw [HN.out]; rfl, rfl⟩

set_option maxHeartbeats 4000000 in
theorem nibble_any (w : World) (c : Nat) (hc : c < 256) : Calls Try.prog 23 #[.int .u8 c] w fun e w' => e = .returned (.int .i64 (nibV (nib c))) ∧ w' = w := by
  by_cases h1 : 48 ≤ c
  · by_cases h2 : c ≤ 57
    · have HN := Lib.hid (show (c : Int) - 48 = nibV (nib c) by unfold nib; rw [if_pos ⟨h1, h2⟩]; show (c : Int) - 48 = ((c - 48 : Nat) : Int); omega)
      have e1 : (c : Int) ≥ 48 := by omega
      have e2 : (c : Int) ≤ 57 := by omega
      have w1 : IntKind.u8.wrap ((c : Int) - 48) = (c : Int) - 48 := by rw [IntKind.wrap_u8']; omega
      have w2 : IntKind.i64.wrap ((c : Int) - 48) = (c : Int) - 48 := by rw [IntKind.wrap_i64]; omega
      go_enter Try.func23, Try.ntmps23
      go_wp2
      go_ret
      exact ⟨by rw [← HN.out]; rfl, rfl⟩
    · by_cases h3 : 97 ≤ c
      · by_cases h4 : c ≤ 102
        · have HN := Lib.hid (show (c : Int) - 87 = nibV (nib c) by unfold nib; rw [if_neg (by omega), if_pos ⟨h3, h4⟩]; show (c : Int) - 87 = ((c - 87 : Nat) : Int); omega)
          have e1 : (c : Int) ≥ 48 := by omega
          have e2 : ¬ (c : Int) ≤ 57 := by omega
          have e3 : (c : Int) ≥ 97 := by omega
          have e4 : (c : Int) ≤ 102 := by omega
          have w1 : IntKind.u8.wrap ((c : Int) - 97) = (c : Int) - 97 := by rw [IntKind.wrap_u8']; omega
          have w2 : IntKind.i64.wrap ((c : Int) - 97) = (c : Int) - 97 := by rw [IntKind.wrap_i64]; omega
          have w3 : IntKind.i64.wrap ((c : Int) - 97 + 10) = (c : Int) - 87 := by rw [IntKind.wrap_i64]; omega
          go_enter Try.func23, Try.ntmps23
          go_wp2
          go_ret
          exact ⟨by rw [← HN.out]; rfl, rfl⟩
        · have HN := Lib.hid (show (-1 : Int) = nibV (nib c) by unfold nib; rw [if_neg (by omega), if_neg (by omega)]; rfl)
          have e1 : (c : Int) ≥ 48 := by omega
          have e2 : ¬ (c : Int) ≤ 57 := by omega
          have e3 : (c : Int) ≥ 97 := by omega
          have e4 : ¬ (c : Int) ≤ 102 := by omega
          go_enter Try.func23, Try.ntmps23
          go_wp2
          go_ret
          exact ⟨by rw [← HN.out]; rfl, rfl⟩
      · have HN := Lib.hid (show (-1 : Int) = nibV (nib c) by unfold nib; rw [if_neg (by omega), if_neg (by omega)]; rfl)
        have e1 : (c : Int) ≥ 48 := by omega
        have e2 : ¬ (c : Int) ≤ 57 := by omega
        have e3 : ¬ (c : Int) ≥ 97 := by omega
        go_enter Try.func23, Try.ntmps23
        go_wp2
        go_ret
        exact ⟨by rw [← HN.out]; rfl, rfl⟩
  · have HN := Lib.hid (show (-1 : Int) = nibV (nib c) by unfold nib; rw [if_neg (by omega), if_neg (by omega)]; rfl)
    have e1 : ¬ (c : Int) ≥ 48 := by omega
    have e3 : ¬ (c : Int) ≥ 97 := by omega
    go_enter Try.func23, Try.ntmps23
    go_wp2
    go_ret
    exact ⟨by rw [← HN.out]; rfl, rfl⟩

set_option maxRecDepth 100000 in
set_option maxHeartbeats 4000000 in
theorem rhex_any (w : World) (bs : List UInt8) (hl : bs.length ≤ 1048576) :
    Calls Try.prog 17 #[str bs] w fun e w' => e = .returned (str (hexL bs)) ∧ Below w.heap.size w w' := by
  unfold str
  go_enter Try.func17, Try.ntmps17
  go_wp2_with fail
  go_loopg [3, 5] bs.length (fun g v c wr => ∃ (i : Nat), i ≤ bs.length ∧ g = bs.length - i ∧ c = .int .i64 i ∧ OwnB wr w.heap.size v (hexL (bs.take i)) ∧ Below w.heap.size w wr)
  case atStart => exact ⟨0, Nat.zero_le _, rfl, rfl, OwnB.nil _ _, Below.refl _ _⟩
  case round =>
    obtain ⟨i, hi, rfl, rfl, hO, hbel⟩ := hrel
    by_cases hlt : i < bs.length
    · have i0 : (0 : Int) ≤ (i : Int) := Int.natCast_nonneg _
      have i1 : (i : Int) < (bs.length : Int) := by omega
      have hbd := byteAt_bd bs i
      have q0 : 0 ≤ byteAt bs i / 16 := by omega
      have q1 : byteAt bs i / 16 < 16 := by omega
      have hand : bits .and .u8 (byteAt bs i) 15 = byteAt bs i % 16 := by
        obtain ⟨x, hx⟩ := Int.eq_ofNat_of_zero_le hbd.1
        rw [hx, and15 x (by omega)]; omega
      have q2 : 0 ≤ byteAt bs i % 16 := by omega
      have q3 : byteAt bs i % 16 < 16 := by omega
      have hd1 : byteAt [48, 49, 50, 51, 52, 53, 54, 55, 56, 57, 97, 98, 99, 100, 101, 102] (byteAt bs i / 16) = ((hexd ((bs.getD i 0).toNat / 16)).toNat : Int) := by
        rw [byteAt_nat] at hbd ⊢
        rw [← dig_at _ (by omega)]; congr 1
      have hd2 : byteAt [48, 49, 50, 51, 52, 53, 54, 55, 56, 57, 97, 98, 99, 100, 101, 102] (byteAt bs i % 16) = ((hexd ((bs.getD i 0).toNat % 16)).toNat : Int) := by
        rw [byteAt_nat] at hbd ⊢
        rw [← dig_at _ (by omega)]; congr 1
      have HT := Lib.hid (hexL_take hlt)
      generalize hexd ((bs.getD i 0).toNat / 16) = x1 at *
      generalize hexd ((bs.getD i 0).toNat % 16) = x2 at *
      have hll : (hexL (bs.take i)).length = 2 * i := by rw [hexL_length, List.length_take]; omega
      have HLL := Lib.hid hll
      go_upto_region 6 with fail
      go_wp2_with fail
      go_region_law (first
        | (refine step_append_bytes (by rfl) _ _ (by rfl) w.heap.size _ (hexL (bs.take i)) [x1, x2] ⟨wr.heap.size, 0, none⟩ 2 (by rfl) (by rfl) ((show OwnB wr.drew _ _ _ from hO).alloc _) (Bys.new wr.drew [x1, x2] 5) (by simp) (by simp only [List.length_cons, List.length_nil]; omega) (by have := hbel.size; simp <;> omega) ?_
           intro a' c' w3 hO3 hg3))
      all_goals
        rw [← HT.out, HLL.out] at hO3
        have hb3 := (hbel.drew.alloc hbel.size (.cells (byv [x1, x2]).toArray 5)).grown hg3 (by have := hbel.size; simp <;> omega) (fun k hk => (hO.ownBlock_lt hk).1)
        go_wp2
        go_roundg (bs.length - (i + 1))
        case measure => omega
        case rel => exact ⟨i + 1, by omega, rfl, by go_num, hO3, hb3⟩
    · have hie : i = bs.length := by omega
      subst hie
      rw [List.take_length] at hO
      have hconv := conv_str hO
      unfold str at hconv
      go_wp2
      go_ret
      exact ⟨rfl, hbel⟩


end Go.Proofs.Ytogpecgbgfcdcaa
