/- The contract of the law's awake, and DiskNil's walk. -/
import Derived.Test.YtbnnjiaegoedoaaDH
import Derived.Test.YtbnnjiaegoedoaaDG
namespace Go.Proofs.Ytbnnjiaegoedoaa
open Go.RowKit

theorem fell_at (l : List Sec) (ks : List Bool) (i : Nat) (s : Sec) (h : l[i]? = some s) : ((fellK l ks l.length).map Sec.settled)[i]? = some (fellS ks (looseN l i) s).settled := by
  have hi : i < l.length := (List.getElem?_eq_some_iff.1 h).1
  unfold fellK
  rw [List.getElem?_map, List.getElem?_append_left (by simpa using hi)]
  obtain ⟨_, hs⟩ := List.getElem?_eq_some_iff.1 h
  simp [hi, List.getD, hs]

def lamp : List Sec := (List.replicate 4 Sec.zero).set 1 ⟨secB 3, Sec.zero.safe, true⟩
theorem lamp_length : lamp.length = 4 := by simp [lamp]
theorem lamp_at : lamp[1]? = some ⟨secB 3, Sec.zero.safe, true⟩ := by simp [lamp]
theorem lamp_loose : looseN lamp lamp.length = 1 := by
  rw [lamp_length]; rfl

set_option maxHeartbeats 4000000 in
theorem awake_any (w : World) : Calls Try.prog 5 #[] w fun e w' => e = .returned (.bool true) ∧ Below w.heap.size w w' := by
  have HN : ∀ w : World, Calls Try.prog 6 #[.agg #[.int .i64 4, .int .i64 0, .slice none 0 0]] w fun e w' => ∃ d B, e = .returned (.pointer (some ⟨d, 0, none⟩)) ∧
    DiskAt w' d B (List.replicate 4 Sec.zero) 0 ∧ Below w.heap.size w w' ∧ w.heap.size ≤ d ∧ w.heap.size ≤ B := fun w => new_any w 4 (by omega) (by omega)
  have h1 : (List.replicate 4 Sec.zero)[1]? = some Sec.zero := rfl
  go_enter Try.func5, Try.ntmps5
  go_wp2_with (go_at_call 6; refine (HN _).mono ?_; rintro e w1 ⟨d, B, rfl, hD1, hb1, hd, hB⟩)
  have hdl := hD1.blk.lt
  have hBl := hD1.lt
  have HS := sector_any
  go_wp2_with (go_at_call 8; refine (HS _ 3 (by omega) (by omega)).mono ?_; rintro e w2 ⟨rfl, hS, hb2⟩)
  have hD2 := hD1.below hb2
  have HW : Calls Try.prog 7 #[.pointer (some ⟨d, 0, none⟩), .int .i64 1, .slice (some ⟨w1.heap.size, 0, none⟩) 64 64] w2 fun e w' => e = .returned (.int .i64 0) ∧ ∃ c', DiskAt w' d B lamp c' ∧ Below w.heap.size w2 w' :=
    write_any w2 d B w.heap.size _ 0 1 _ (some ⟨w1.heap.size, 0, none⟩) 64 (secB 3) hD2 h1 (secB_length 3) (by simp) (RowK.of_blk (rest := []) (by rw [List.append_nil, byv_nums]; exact hS) (Nat.zero_le _)) hd hB
      (fun x hx => by simp only [Option.some.injEq] at hx; subst hx; exact ⟨by show w1.heap.size ≠ d; omega, by show w1.heap.size ≠ B; omega⟩)
  refine HW.mono ?_
  rintro e w3 ⟨rfl, c3, hD3, hb3⟩
  have hb13 := hb1.trans ((hb2.mono hb1.size).trans hb3)
  have HL := loose_any w3 d B lamp c3 hD3 (by rw [lamp_length]; omega)
  rw [lamp_loose] at HL
  go_wp2_with (go_at_call 10; refine HL.mono ?_; rintro e w4 ⟨rfl, hb4⟩)
  have hD4 := hD3.below hb4
  have HF : Calls Try.prog 11 #[.pointer (some ⟨d, 0, none⟩), .agg #[.int .i64 0, .int .i64 0, .slice none 0 0]] w4 fun e w' => e = .returned (.tuple #[]) ∧ DiskAt w' d B ((fellK lamp [] lamp.length).map Sec.settled) 0 ∧ Below w.heap.size w4 w' :=
    fall_any w4 d B w.heap.size lamp c3 0 none 0 [] hD4 (by rw [lamp_length]; omega) hd hB (by simp) (.inl rfl)
  go_wp2_with (go_at_call 11; refine HF.mono ?_; rintro e w5 ⟨rfl, hD5, hb5⟩)
  have hat := fell_at lamp [] 1 _ lamp_at
  rw [fellS_gone rfl (by simp [kept])] at hat
  have HR : Calls Try.prog 13 #[.pointer (some ⟨d, 0, none⟩), .int .i64 1] w5 fun e w' => ∃ a cap, e = .returned (.tuple #[.slice a 64 cap, .int .i64 0]) ∧ OwnB w' w5.heap.size (.slice a 64 cap) zeros64 ∧ Below w5.heap.size w5 w' :=
    read_any w5 d B _ 0 1 _ hD5 hat (by rw [List.length_map, fellK_length _ _ _ (Nat.le_refl _), lamp_length]; omega)
  go_wp2_with (go_at_call 13; refine HR.mono ?_; rintro e w6 ⟨a6, c6, rfl, hO, hb6⟩)
  obtain ⟨a7, c7, e7, _, hB7⟩ := hO.row
  simp only [Value.slice.injEq] at e7
  obtain ⟨rfl, _, rfl⟩ := e7
  obtain ⟨b, off, rfl, _, hrg⟩ := Bys.addr (hB7.from (Nat.zero_le _)) (by rw [zeros64_length]; omega)
  have hc5 := hrg 5 _ (zeros_at 64 5 (by omega))
  have hn6 := num_any w6 0
  go_wp2_with (go_at_call 12; refine (num_any _ _).mono ?_; rintro e w7 ⟨rfl, rfl⟩)
  go_ret
  exact ⟨rfl, hb13.trans ((hb4.mono hb13.size).trans (hb5.trans (hb6.mono (by have := hb13.size; have := hb4.size; have := hb5.size; omega))))⟩

set_option maxHeartbeats 4000000 in
theorem diskNil_walk (w : World) (x : Int) (a : Option Addr) (n m : Nat) : Calls Try.prog 4 #[.int .i64 x, .slice a n m] w fun e w' => e = .returned (.bool true) ∧ Below w.heap.size w w' := by
  go_enter Try.func4, Try.ntmps4
  go_wp2_with (go_at_call 11; refine (nil_fall _ _ rfl).mono ?_; rintro e w1 ⟨rfl, hb1⟩)
  go_wp2_with (first
    | (go_at_call 13; refine (nil_read _ _).mono ?_; rintro e w2 ⟨rfl, rfl⟩)
    | (go_at_call 12; refine (num_any _ _).mono ?_; rintro e w7 ⟨rfl, rfl⟩)
    | (go_at_call 9; refine (nil_sync _).mono ?_; rintro e w7 ⟨rfl, rfl⟩)
    | (go_at_call 14; refine (nil_sectors _).mono ?_; rintro e w7 ⟨rfl, rfl⟩)
    | (go_at_call 15; refine (nil_down _).mono ?_; rintro e w7 ⟨rfl, rfl⟩)
    | (go_at_call 16; refine (nil_calls _).mono ?_; rintro e w7 ⟨rfl, rfl⟩)
    | (go_at_call 10; refine (nil_loose _).mono ?_; rintro e w7 ⟨rfl, rfl⟩)
    | (go_at_call 17; refine (nil_copy _).mono ?_; rintro e w7 ⟨rfl, rfl⟩)
    | (go_at_call 7; refine (nil_write _ _ _ _ _ _ rfl).mono ?_; rintro e w3 ⟨rfl, hb3⟩)
    | (go_at_call 5; refine (awake_any _).mono ?_; rintro e w4 ⟨rfl, hb4⟩))
  go_ret
  exact ⟨rfl, hb1.trans ((hb3.mono hb1.size).trans (hb4.mono (by have := hb1.size; have := hb3.size; omega)))⟩
end Go.Proofs.Ytbnnjiaegoedoaa
