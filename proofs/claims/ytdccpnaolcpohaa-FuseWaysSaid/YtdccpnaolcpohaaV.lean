/- The contract of the reference's MayMap. -/
import Derived.Test.YtdccpnaolcpohaaU
namespace Go.Proofs.Ytdccpnaolcpohaa
open Go.RowKit

set_option maxHeartbeats 4000000 in
theorem rmay_any (w : World) (a : Option Addr) (cap : Nat) (xs : List Int) (new : Int) (h : Row 0 w a xs) (hl : xs.length ≤ 9223372036854775807) :
    Calls Try.prog 29 #[.agg #[.slice a xs.length cap, .int .i64 new]] w fun e w' => e = .returned (.bool (mayF xs new)) ∧ Below w.heap.size w w' := by
  have B0 := (Below.refl w.heap.size w).alloc (Nat.le_refl _) (.cells #[.slice a xs.length cap, .int .i64 new] 26)
  by_cases h0 : new < 0
  · have HR := Lib.hid (show mayF xs new = false by rw [mayF, if_pos h0])
    go_enter Try.func29, Try.ntmps29
    go_wp2
    go_ret
    exact ⟨ret_bool HR.out.symm, B0⟩
  · by_cases h1 : new > 1048576
    · have HR := Lib.hid (show mayF xs new = false by rw [mayF, if_neg h0, if_pos h1])
      go_enter Try.func29, Try.ntmps29
      go_wp2
      go_ret
      exact ⟨ret_bool HR.out.symm, B0⟩
    · by_cases h2 : xs.length > 1048576
      · have HR := Lib.hid (show mayF xs new = false by rw [mayF, if_neg h0, if_neg h1, if_pos h2])
        have h2' : (xs.length : Int) > 1048576 := by omega
        go_enter Try.func29, Try.ntmps29
        go_wp2
        go_ret
        exact ⟨ret_bool HR.out.symm, B0⟩
      · have HR := Lib.hid (show mayF xs new = rises (-1) new xs by rw [mayF, if_neg h0, if_neg h1, if_neg h2])
        have h2' : ¬ (xs.length : Int) > 1048576 := by omega
        have HH := Lib.hid h
        have HX := Blk.made (w := w) rfl [.slice a xs.length cap, .int .i64 new] 26
        clear h
        go_enter Try.func29, Try.ntmps29
        go_wp2_with fail
        generalize w.alloc (.cells #[.slice a xs.length cap, .int .i64 new] 26) = W1 at *
        go_loopg [3, 4] xs.length (fun g l c wr => ∃ (k : Nat) (last : Int), k ≤ xs.length ∧ g = xs.length - k ∧ c = .int .i64 k ∧ l = .int .i64 last ∧ Hid (rises (-1) new xs = rises last new (xs.drop k)) ∧ Below W1.heap.size W1 wr)
        case atStart => exact ⟨0, -1, Nat.zero_le _, rfl, rfl, rfl, rfl, Below.refl _ _⟩
        case round =>
          obtain ⟨k, last, hk, rfl, rfl, rfl, hno, hbel⟩ := hrel
          have hXr := HX.below hbel HX.lt
          have x0 := hXr.cell 0 _ rfl
          have x1 := hXr.cell 1 _ rfl
          have BR := B0.trans (hbel.mono B0.size)
          by_cases hlt : k < xs.length
          · have hdc := drop_cons xs k hlt
            have hno' := hno.out
            rw [hdc] at hno'
            clear hdc
            obtain ⟨b, off, rfl, _, hb, hc⟩ := ((HH.out.keep (Nat.le_refl _) B0).below hbel).at k hlt
            generalize xs.getD k 0 = x at *
            simp only [rises] at hno'
            have hk0 : (0 : Int) ≤ (k : Int) := Int.natCast_nonneg _
            have hk1 : (k : Int) < (xs.length : Int) := by omega
            by_cases e1 : x = -1
            · rw [if_pos e1] at hno'
              have HN := Lib.hid hno'
              clear hno'
              subst e1
              go_wp2
              go_roundg (xs.length - (k + 1))
              case measure => omega
              case rel => exact ⟨k + 1, last, by omega, rfl, by go_num, rfl, HN, hbel⟩
            · rw [if_neg e1] at hno'
              have e1' : (x == -1) = false := by simpa using e1
              by_cases e2 : x ≤ last
              · rw [if_pos e2] at hno'
                have HN := Lib.hid hno'
                have d2 : decide (x ≤ last) = true := by simpa using e2
                clear hno' e1
                go_wp2_with fail
                go_quiet (fail)
                go_wp2
                go_ret
                exact ⟨ret_bool (HR.out.trans HN.out).symm, below_drewN BR _⟩
              · rw [if_neg e2] at hno'
                have d2 : decide (x ≤ last) = false := by simpa using e2
                by_cases e3 : x ≥ new
                · rw [if_pos e3] at hno'
                  have HN := Lib.hid hno'
                  clear hno' e1
                  go_wp2_with fail
                  go_quiet (fail)
                  go_wp2
                  go_ret
                  exact ⟨ret_bool (HR.out.trans HN.out).symm, below_drewN BR _⟩
                · rw [if_neg e3] at hno'
                  have HN := Lib.hid hno'
                  clear hno' e1
                  go_wp2_with fail
                  go_quiet (fail)
                  go_wp2
                  go_roundg (xs.length - (k + 1))
                  case measure => omega
                  case rel => exact ⟨k + 1, x, by omega, rfl, by go_num, rfl, HN, below_drewN hbel _⟩
          · have hN : rises (-1) new xs = true := by
              rw [hno.out, List.drop_eq_nil_of_le (by omega)]; rfl
            have HN := Lib.hid hN
            clear hN
            go_wp2
            go_ret
            exact ⟨ret_bool (HR.out.trans HN.out).symm, BR⟩

end Go.Proofs.Ytdccpnaolcpohaa
