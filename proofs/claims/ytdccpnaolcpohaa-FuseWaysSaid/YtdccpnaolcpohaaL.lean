/- The walk of the law MapsSpan. -/
import Derived.Test.YtdccpnaolcpohaaK
namespace Go.Proofs.Ytdccpnaolcpohaa
open Go.RowKit

def imgN (xs : List Int) (n : Nat) (i : Nat) : Int := imageF xs n i

theorem span_three (w : World) (a : Option Addr) (cap : Nat) (xs : List Int) (n : Nat) (hR : Row 0 w a xs) (hu : UpP (-1) n xs) (hl : xs.length ≤ 4294967296) (hn : n ≤ 4294967296) (lo hi : Nat) (hh : hi ≤ 2199023255552) :
    Calls Try.prog 22 #[.agg #[.slice a xs.length cap, .int .i64 n], .int .i64 lo, .int .i64 hi] w fun e w' =>
      e = .returned (.tuple #[.int .i64 (lwL (imgN xs n) lo (hi + 1 - lo)), .int .i64 (lwM (imgN xs n) lo (hi + 1 - lo)), .bool (lwS (imgN xs n) lo (hi + 1 - lo))]) ∧ Below w.heap.size w w' := by
  by_cases h : lo ≤ hi
  · have := span_some w a cap xs n lo hi hR h hl (by omega) (by omega) hh
    rw [span_law xs n hu lo hi h] at this
    exact this
  · have := span_none w a cap xs n lo hi (by omega)
    rw [show hi + 1 - lo = 0 from by omega]
    exact this

set_option maxHeartbeats 2000000 in
theorem mapsSpan_walk (w : World) (a0 : Option Addr) (cap0 : Nat) (ns : List Int) (lo hi : Int) (h0 : RowK .u8 0 w a0 ns)
    (hl0 : ns.length ≤ 9223372036854775807) (hb0 : ∀ i, 0 ≤ ns.getD i 0 ∧ ns.getD i 0 ≤ 255) (hlo0 : 0 ≤ lo) (hlo1 : lo ≤ 255) (hhi0 : 0 ≤ hi) (hhi1 : hi ≤ 255) :
    Calls Try.prog 5 #[.slice a0 ns.length cap0, .int .u8 lo, .int .u8 hi] w fun e w' => e = .returned (.bool true) ∧ Below w.heap.size w w' := by
  by_cases c0 : ns.length > 60
  · have c0' : (ns.length : Int) > 60 := by omega
    clear hb0
    go_enter Try.func5, Try.ntmps5
    go_wp2_with (go_at_call 13; refine (awake_any _).mono ?_; rintro e w1 ⟨rfl, hb⟩)
    go_ret
    exact ⟨rfl, hb⟩
  · have c0' : ¬ (ns.length : Int) > 60 := by omega
    obtain ⟨up0, np0⟩ := make_up ns (fun i => (hb0 i).1) ns.length (Nat.le_refl _)
    obtain ⟨bl0, _, bn0⟩ := make_bd ns ns.length (Nat.le_refl _)
    have M0 := Lib.hid (fun W h => make_any W a0 cap0 ns h (by omega) hb0)
    clear hb0
    generalize makeTo ns ns.length = xs at *
    generalize makeNew ns ns.length = nx at *
    obtain ⟨n, rfl⟩ := Int.eq_ofNat_of_zero_le np0
    obtain ⟨a, ha⟩ := Int.eq_ofNat_of_zero_le (show 0 ≤ lo % 70 by omega)
    obtain ⟨b, hb⟩ := Int.eq_ofNat_of_zero_le (show 0 ≤ hi % 70 by omega)
    have ha70 : a ≤ 69 := by omega
    have hb70 : b ≤ 69 := by omega
    have HS := Lib.hid (fun W a' c' h => span_three W a' c' xs n h up0 (by omega) (by omega) a b (by omega))
    have HI := Lib.hid (fun W a' c' (i : Nat) (hi : i ≤ 1000) h => image_any W a' c' xs n i h (by omega) (by omega) (by omega) (by omega))
    clear up0
    go_enter Try.func5, Try.ntmps5
    go_wp2_with fail
    refine (M0.out _ h0).mono ?_
    rintro e w1 ⟨va, rfl, hO1, hb1⟩
    obtain ⟨aa, ca, rfl, hRa⟩ := hO1.row
    go_wp2_with fail
    have hR2 := (hRa.alloc (.cells #[.slice aa xs.length ca, .int .i64 n] 26)).from (Nat.zero_le _)
    have hA2 := Blk.made (w := w1) rfl [.slice aa xs.length ca, .int .i64 n] 26
    have t2 := hb1.alloc hb1.size (.cells #[.slice aa xs.length ca, .int .i64 n] 26)
    clear hO1 hRa hb1 h0
    try rw [ha, hb]
    generalize w1.alloc (.cells #[.slice aa xs.length ca, .int .i64 n] 26) = w2 at *
    generalize w1.heap.size = p at *
    refine (HS.out _ _ _ hR2).mono ?_
    rintro e w3 ⟨rfl, hb3⟩
    have hR3 := hR2.below hb3
    have hA3 := hA2.below hb3 hA2.lt
    have t3 := held_step t2 hb3
    clear hR2 hA2 t2 hb3
    generalize hL : lwL (imgN xs n) a (b + 1 - a) = L at *
    generalize hM : lwM (imgN xs n) a (b + 1 - a) = M at *
    generalize hSs : lwS (imgN xs n) a (b + 1 - a) = S at *
    have HEND := Lib.hid (And.intro hL (And.intro hM hSs))
    clear hL hM hSs
    go_wp2_with fail
    go_loopg [13, 14, 15, 16] (b + 1 - a) (fun g vs vl vm vi wr => ∃ j : Nat, Hid (j ≤ b + 1 - a) ∧ g = b + 1 - a - j ∧ vs = .bool (lwS (imgN xs n) a j) ∧ vl = .int .i64 (lwL (imgN xs n) a j) ∧ vm = .int .i64 (lwM (imgN xs n) a j) ∧ vi = .int .i64 (a + j) ∧ Below w3.heap.size w3 wr)
    case atStart => exact ⟨0, Nat.zero_le _, rfl, rfl, rfl, rfl, by simp, Below.refl _ _⟩
    case round =>
      obtain ⟨j, hj', rfl, rfl, rfl, rfl, rfl, hbel⟩ := hrel
      have hj := hj'.out
      have hAr := hA3.below hbel hA3.lt
      have hRr := hR3.below hbel
      have x0 := hAr.cell 0 _ rfl
      have x1 := hAr.cell 1 _ rfl
      by_cases hlt : j < b + 1 - a
      · have hle : (a : Int) + j ≤ b := by omega
        have IM := HI.out wr aa ca (a + j) (by omega) hRr
        have hsk := Lib.hid (lw_skip (imgN xs n) a j)
        have hfi := Lib.hid (lw_first (imgN xs n) a j)
        have hmo := Lib.hid (lw_more (imgN xs n) a j)
        have e : imgN xs n (a + j) = imageF xs n ((a + j : Nat) : Int) := rfl
        rw [← e, show (((a + j : Nat)) : Int) = (a : Int) + j from by omega] at IM
        have IMH := Lib.hid IM
        clear IM e
        generalize imgN xs n (a + j) = v at *
        generalize lwL (imgN xs n) a j = l at *
        generalize lwM (imgN xs n) a j = m at *
        generalize hsj : lwS (imgN xs n) a j = s at *
        clear hsj
        by_cases hv : v < 0
        · have HX := Lib.hid (hsk.out hv)
          go_wp2_with fail
          refine (IMH.out).mono ?_
          rintro e w4 ⟨rfl, hb4⟩
          go_wp2
          go_roundg (b + 1 - a - (j + 1))
          case measure => omega
          case rel => exact ⟨j + 1, by unfold Hid; omega, rfl, by rw [HX.out.1], by rw [HX.out.2.1], by rw [HX.out.2.2], by rw [show ((a : Int) + ((j + 1 : Nat) : Int)) = a + j + 1 from by omega], hbel.trans (hb4.mono hbel.size)⟩
        · cases s with
          | false =>
            have HX := Lib.hid (hfi.out hv rfl)
            go_wp2_with fail
            refine (IMH.out).mono ?_
            rintro e w4 ⟨rfl, hb4⟩
            go_wp2
            go_roundg (b + 1 - a - (j + 1))
            case measure => omega
            case rel => exact ⟨j + 1, by unfold Hid; omega, rfl, by rw [HX.out.1], by rw [HX.out.2.1], by rw [HX.out.2.2], by rw [show ((a : Int) + ((j + 1 : Nat) : Int)) = a + j + 1 from by omega], hbel.trans (hb4.mono hbel.size)⟩
          | true =>
            have HX := Lib.hid (hmo.out hv rfl)
            go_wp2_with fail
            refine (IMH.out).mono ?_
            rintro e w4 ⟨rfl, hb4⟩
            go_wp2
            go_roundg (b + 1 - a - (j + 1))
            case measure => omega
            case rel => exact ⟨j + 1, by unfold Hid; omega, rfl, by rw [HX.out.1], by rw [HX.out.2.1], by rw [HX.out.2.2], by rw [show ((a : Int) + ((j + 1 : Nat) : Int)) = a + j + 1 from by omega], hbel.trans (hb4.mono hbel.size)⟩
      · have hle : ¬ (a : Int) + j ≤ b := by omega
        obtain rfl : j = b + 1 - a := by omega
        obtain ⟨E1, E2, E3⟩ := HEND.out
        rw [E1, E2, E3]
        clear E1 E2 E3
        go_wp2_with (go_at_call 13; refine (awake_any _).mono ?_; rintro e w8 ⟨rfl, hb8⟩)
        go_ret
        exact ⟨rfl, held_step (held_step t3 hbel) hb8⟩

end Go.Proofs.Ytdccpnaolcpohaa
