/- The contracts of maps.May, and of the law's Make. -/
import Derived.Test.YtdccpnaolcpohaaE
namespace Go.Proofs.Ytdccpnaolcpohaa
open Go.RowKit

def rises (last new : Int) : List Int → Bool
  | [] => true
  | k :: r => if k = -1 then rises last new r else if k ≤ last then false else if k ≥ new then false else rises k new r
def mayF (xs : List Int) (new : Int) : Bool := if new < 0 then false else if new > 1048576 then false else if xs.length > 1048576 then false else rises (-1) new xs

theorem drop_cons (xs : List Int) (k : Nat) (h : k < xs.length) : xs.drop k = xs.getD k 0 :: xs.drop (k + 1) := by
  rw [List.drop_eq_getElem_cons h]; simp [List.getD, h]

set_option maxHeartbeats 1000000 in
theorem may_any (w : World) (a : Option Addr) (cap : Nat) (xs : List Int) (new : Int) (h : Row 0 w a xs) (hl : xs.length ≤ 9223372036854775807) :
    Calls Try.prog 16 #[.agg #[.slice a xs.length cap, .int .i64 new]] w fun e w' => e = .returned (.bool (mayF xs new)) ∧ Below w.heap.size w w' := by
  have B0 := (Below.refl w.heap.size w).alloc (Nat.le_refl _) (.cells #[.slice a xs.length cap, .int .i64 new] 26)
  by_cases h0 : new < 0
  · have HR := Lib.hid (show mayF xs new = false by rw [mayF, if_pos h0])
    go_enter Try.func16, Try.ntmps16
    go_wp2
    go_ret
    exact ⟨ret_bool HR.out.symm, B0⟩
  · by_cases h1 : new > 1048576
    · have HR := Lib.hid (show mayF xs new = false by rw [mayF, if_neg h0, if_pos h1])
      go_enter Try.func16, Try.ntmps16
      go_wp2
      go_ret
      exact ⟨ret_bool HR.out.symm, B0⟩
    · by_cases h2 : xs.length > 1048576
      · have HR := Lib.hid (show mayF xs new = false by rw [mayF, if_neg h0, if_neg h1, if_pos h2])
        have h2' : (xs.length : Int) > 1048576 := by omega
        go_enter Try.func16, Try.ntmps16
        go_wp2
        go_ret
        exact ⟨ret_bool HR.out.symm, B0⟩
      · have HR := Lib.hid (show mayF xs new = rises (-1) new xs by rw [mayF, if_neg h0, if_neg h1, if_neg h2])
        have h2' : ¬ (xs.length : Int) > 1048576 := by omega
        have HH := Lib.hid h
        clear h
        go_enter Try.func16, Try.ntmps16
        go_wp2
        go_loop [3, 23] (fun l c => ∃ (k : Nat) (last : Int), k ≤ xs.length ∧ c = .int .i64 k ∧ l = .int .i64 last ∧ Hid (rises (-1) new xs = rises last new (xs.drop k))) (fun _ c => xs.length - (intOf c).toNat)
        case atStart => exact ⟨0, -1, Nat.zero_le _, rfl, rfl, rfl⟩
        case round =>
          obtain ⟨k, last, hk, rfl, rfl, hno⟩ := hrel
          by_cases hlt : k < xs.length
          · have hdc := drop_cons xs k hlt
            have hno' := hno.out
            rw [hdc] at hno'
            clear hdc
            obtain ⟨b, off, rfl, _, hb, hc⟩ := HH.out.at k hlt
            generalize xs.getD k 0 = x at *
            simp only [rises] at hno'
            by_cases e1 : x = -1
            · rw [if_pos e1] at hno'
              have HN := Lib.hid hno'
              clear hno'
              subst e1
              go_wp2
              go_round
              case rel => exact ⟨k + 1, last, by omega, by go_num, rfl, HN⟩
              case measure => simp [intOf]; omega
            · rw [if_neg e1] at hno'
              have e1' : (x == -1) = false := by simpa using e1
              by_cases e2 : x ≤ last
              · rw [if_pos e2] at hno'
                have HN := Lib.hid hno'
                clear hno' e1
                go_wp2
                go_ret
                exact ⟨ret_bool (HR.out.trans HN.out).symm, B0⟩
              · rw [if_neg e2] at hno'
                by_cases e3 : x ≥ new
                · rw [if_pos e3] at hno'
                  have HN := Lib.hid hno'
                  clear hno' e1
                  go_wp2
                  go_ret
                  exact ⟨ret_bool (HR.out.trans HN.out).symm, B0⟩
                · rw [if_neg e3] at hno'
                  have HN := Lib.hid hno'
                  clear hno' e1
                  go_wp2
                  go_round
                  case rel => exact ⟨k + 1, x, by omega, by go_num, rfl, HN⟩
                  case measure => simp [intOf]; omega
          · have hN : rises (-1) new xs = true := by
              rw [hno.out, List.drop_eq_nil_of_le (by omega)]; rfl
            have HN := Lib.hid hN
            clear hN
            go_wp2
            go_ret
            exact ⟨ret_bool (HR.out.trans HN.out).symm, B0⟩

end Go.Proofs.Ytdccpnaolcpohaa
