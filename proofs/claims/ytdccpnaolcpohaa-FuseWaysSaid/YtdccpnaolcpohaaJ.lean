/- The contracts of maps.Back and maps.Span. -/
import Derived.Test.YtdccpnaolcpohaaI
namespace Go.Proofs.Ytdccpnaolcpohaa
open Go.RowKit

theorem cf45 (args : Array Value) (W : World) : Sem.run Try.prog (callFunc 45 args) W = .ok (.enter 45 args) W := by simp [go_sem]

set_option maxHeartbeats 1000000 in
theorem back1_any (w : World) (pm : Nat) (a : Option Addr) (cap : Nat) (xs : List Int) (n i : Int) (hB : Blk w pm [.slice a xs.length cap, .int .i64 n] 26) (h : Row 0 w a xs) (hl : xs.length ≤ 4294967296) :
    Calls Try.prog 45 #[.int .i64 i, .pointer (some ⟨pm, 0, none⟩)] w fun e w' => e = .returned (.int .i64 (indexF xs i)) ∧ Below w.heap.size w w' := by
  have h0 := hB.cell 0 _ rfl
  go_enter Try.func45, Try.ntmps45
  go_wp2_with (go_at_call 46; refine (index_any _ _ _ _ _ h hl).mono ?_; rintro e w1 ⟨rfl, rfl⟩)
  go_ret
  exact ⟨rfl, Below.refl _ _⟩

def idxF (xs : List Int) (i : Nat) : Int := indexF xs i

set_option maxHeartbeats 1000000 in
theorem back_any (w : World) (a : Option Addr) (cap : Nat) (xs : List Int) (n : Nat) (h : Row 0 w a xs) (hl : xs.length ≤ 4294967296) (hn : n ≤ 4294967296) :
    Calls Try.prog 23 #[.agg #[.slice a xs.length cap, .int .i64 n]] w (RetTab w (idxF xs) n xs.length) := by
  go_enter Try.func23, Try.ntmps23
  go_wp2_with fail
  refine (made_any _ n xs.length 45 #[] #[.pointer (some ⟨w.heap.size, 0, none⟩)] (idxF xs) hn cf45 ?_).mono ?_
  · intro i W hi hW
    exact back1_any W w.heap.size a cap xs n i (((Blk.made rfl _ _).alloc _).below hW (by simp <;> omega)) (((h.alloc _).alloc _).below hW) hl
  intro e w1 hr
  obtain ⟨a1, c1, rfl, hR, hb1⟩ := hr.tab
  clear hr
  have hB := (Blk.made (w := w.alloc (.cells #[.slice a xs.length cap, .int .i64 n] 26)) (b := w.heap.size + 1) (by simp) [.slice none 0 0, .int .i64 0] 26).below hb1 (by simp)
  have hr0 := hB.cell 0 _ rfl
  have hr1 := hB.cell 1 _ rfl
  have hf0 := hB.free 0
  have hf1 := hB.free 1
  go_wp2
  have hB' := (hB.set 0 (.slice a1 n c1)).set 1 (.int .i64 xs.length)
  have c0 := hB'.cell 0 _ rfl
  have c1' := hB'.cell 1 _ rfl
  refine bodyPost_ret (v := .agg #[.slice a1 n c1, .int .i64 xs.length]) (by simp [results, Try.results23, go_sem, c0, c1']) rfl ?_
  refine ⟨a1, c1, rfl, ((hR.set (by simp <;> omega) _).set (by simp <;> omega) _).from (by simp <;> omega), ?_⟩
  exact ((((Below.refl _ _).alloc (Nat.le_refl _) _).alloc (by simp) _).trans (hb1.mono (by simp <;> omega))).setCell (by simp <;> omega) _ |>.setCell (by simp <;> omega) _

def spA (xs : List Int) (lo : Nat) : Nat → Int
  | 0 => -1
  | k + 1 => if xs.getD (lo + k) 0 ≥ 0 then if spA xs lo k < 0 then xs.getD (lo + k) 0 else spA xs lo k else spA xs lo k
def spB (xs : List Int) (lo : Nat) : Nat → Int
  | 0 => -1
  | k + 1 => if spB xs lo k < xs.getD (lo + k) 0 then xs.getD (lo + k) 0 else spB xs lo k
/-- How many of the places from lo to hi are old ones. -/
def spK (xs : List Int) (lo hi : Nat) : Nat := min (hi + 1) xs.length - lo
/-- maps.Span at places that may be, as its text reckons. -/
def spanA (xs : List Int) (new : Int) (lo hi : Nat) : Int :=
  if hi < xs.length then spA xs lo (spK xs lo hi) else if spA xs lo (spK xs lo hi) < 0 then imageF xs new (max lo xs.length : Nat) else spA xs lo (spK xs lo hi)
def spanB (xs : List Int) (new : Int) (lo hi : Nat) : Int := if hi < xs.length then spB xs lo (spK xs lo hi) else imageF xs new hi
def spanV (xs : List Int) (new : Int) (lo hi : Nat) : Value :=
  if spanA xs new lo hi < 0 then .tuple #[.int .i64 0, .int .i64 0, .bool false] else .tuple #[.int .i64 (spanA xs new lo hi), .int .i64 (spanB xs new lo hi), .bool true]

theorem span_none (w : World) (a : Option Addr) (cap : Nat) (xs : List Int) (new lo hi : Int) (h : lo < 0 ∨ hi < lo) :
    Calls Try.prog 22 #[.agg #[.slice a xs.length cap, .int .i64 new], .int .i64 lo, .int .i64 hi] w fun e w' => e = .returned (.tuple #[.int .i64 0, .int .i64 0, .bool false]) ∧ Below w.heap.size w w' := by
  by_cases h0 : lo < 0
  · go_enter Try.func22, Try.ntmps22
    go_wp2
    go_ret3
    exact ⟨rfl, (Below.refl _ _).alloc (Nat.le_refl _) _⟩
  · have h1 : hi < lo := by omega
    clear h
    go_enter Try.func22, Try.ntmps22
    go_wp2
    go_ret3
    exact ⟨rfl, (Below.refl _ _).alloc (Nat.le_refl _) _⟩

theorem spA_pos (xs : List Int) (lo k : Nat) (x : Int) (hx : xs.getD (lo + k) 0 = x) (h0 : x ≥ 0) (h1 : spA xs lo k < 0) : spA xs lo (k + 1) = x := by simp only [spA, hx, if_pos h0, if_pos h1]
theorem spA_old (xs : List Int) (lo k : Nat) (x : Int) (hx : xs.getD (lo + k) 0 = x) (h1 : ¬ spA xs lo k < 0) : spA xs lo (k + 1) = spA xs lo k := by simp only [spA, hx, if_neg h1]; split <;> rfl
theorem spA_neg (xs : List Int) (lo k : Nat) (x : Int) (hx : xs.getD (lo + k) 0 = x) (h0 : ¬ x ≥ 0) : spA xs lo (k + 1) = spA xs lo k := by simp only [spA, hx, if_neg h0]
theorem spB_new (xs : List Int) (lo k : Nat) (x : Int) (hx : xs.getD (lo + k) 0 = x) (h : spB xs lo k < x) : spB xs lo (k + 1) = x := by simp only [spB, hx, if_pos h]
theorem spB_old (xs : List Int) (lo k : Nat) (x : Int) (hx : xs.getD (lo + k) 0 = x) (h : ¬ spB xs lo k < x) : spB xs lo (k + 1) = spB xs lo k := by simp only [spB, hx, if_neg h]

set_option maxHeartbeats 4000000 in
theorem span_some (w : World) (a : Option Addr) (cap : Nat) (xs : List Int) (new : Int) (lo hi : Nat) (hR : Row 0 w a xs) (hle : lo ≤ hi) (hl : xs.length ≤ 4294967296) (hn0 : 0 ≤ new) (hn : new ≤ 4294967296) (hh : hi ≤ 2199023255552) :
    Calls Try.prog 22 #[.agg #[.slice a xs.length cap, .int .i64 new], .int .i64 lo, .int .i64 hi] w fun e w' => e = .returned (spanV xs new lo hi) ∧ Below w.heap.size w w' := by
  have B0 := (Below.refl w.heap.size w).alloc (Nat.le_refl _) (.cells #[.slice a xs.length cap, .int .i64 new] 26)
  have HR := Lib.hid hR
  clear hR
  have c0 : ¬ (lo : Int) < 0 := by omega
  have c1 : ¬ hi < lo := by omega
  go_enter Try.func22, Try.ntmps22
  go_wp2_with fail
  go_loopg [6, 7, 9] (hi + 1 - lo) (fun g va vb vi wr => ∃ k : Nat, lo + k ≤ hi + 1 ∧ (lo + k ≤ xs.length ∨ k = 0) ∧ g = hi + 1 - lo - k ∧ va = .int .i64 (spA xs lo k) ∧ vb = .int .i64 (spB xs lo k) ∧ vi = .int .i64 (lo + k) ∧ w.alloc (.cells #[.slice a xs.length cap, .int .i64 new] 26) = wr)
  case atStart => exact ⟨0, by omega, .inr rfl, rfl, rfl, rfl, by simp, rfl⟩
  case round =>
    obtain ⟨k, hk1, hk2, rfl, rfl, rfl, rfl, rfl⟩ := hrel
    by_cases e1 : lo + k ≤ hi
    · have e1' : (lo : Int) + k ≤ hi := by omega
      by_cases e2 : lo + k < xs.length
      · have e2' : (lo : Int) + k < xs.length := by omega
        obtain ⟨b, off, rfl, _, hb, hc⟩ := HR.out.at (lo + k) e2
        have hx := Lib.hid (rfl : xs.getD (lo + k) 0 = xs.getD (lo + k) 0)
        have HA1 := Lib.hid (fun x hx => spA_pos xs lo k x hx)
        have HA2 := Lib.hid (fun x hx => spA_old xs lo k x hx)
        have HA3 := Lib.hid (fun x hx => spA_neg xs lo k x hx)
        have HB1 := Lib.hid (fun x hx => spB_new xs lo k x hx)
        have HB2 := Lib.hid (fun x hx => spB_old xs lo k x hx)
        clear hx
        generalize spA xs lo k = A at *
        generalize spB xs lo k = Bv at *
        generalize xs.getD (lo + k) 0 = x at *
        by_cases f1 : x ≥ 0
        · by_cases f2 : A < 0
          · by_cases f3 : Bv < x
            · have G := Lib.hid (show _ from And.intro (HA1.out _ rfl f1 f2) (HB1.out _ rfl f3))
              go_wp2
              go_roundg (hi + 1 - lo - (k + 1))
              case measure => omega
              case rel => exact ⟨k + 1, by omega, .inl (by omega), rfl, by rw [G.out.1], by rw [G.out.2], by rw [show ((lo : Int) + ((k + 1 : Nat) : Int)) = lo + k + 1 from by omega], rfl⟩
            · have G := Lib.hid (show _ from And.intro (HA1.out _ rfl f1 f2) (HB2.out _ rfl f3))
              go_wp2
              go_roundg (hi + 1 - lo - (k + 1))
              case measure => omega
              case rel => exact ⟨k + 1, by omega, .inl (by omega), rfl, by rw [G.out.1], by rw [G.out.2], by rw [show ((lo : Int) + ((k + 1 : Nat) : Int)) = lo + k + 1 from by omega], rfl⟩
          · by_cases f3 : Bv < x
            · have G := Lib.hid (show _ from And.intro (HA2.out _ rfl f2) (HB1.out _ rfl f3))
              go_wp2
              go_roundg (hi + 1 - lo - (k + 1))
              case measure => omega
              case rel => exact ⟨k + 1, by omega, .inl (by omega), rfl, by rw [G.out.1], by rw [G.out.2], by rw [show ((lo : Int) + ((k + 1 : Nat) : Int)) = lo + k + 1 from by omega], rfl⟩
            · have G := Lib.hid (show _ from And.intro (HA2.out _ rfl f2) (HB2.out _ rfl f3))
              go_wp2
              go_roundg (hi + 1 - lo - (k + 1))
              case measure => omega
              case rel => exact ⟨k + 1, by omega, .inl (by omega), rfl, by rw [G.out.1], by rw [G.out.2], by rw [show ((lo : Int) + ((k + 1 : Nat) : Int)) = lo + k + 1 from by omega], rfl⟩
        · by_cases f3 : Bv < x
          · have G := Lib.hid (show _ from And.intro (HA3.out _ rfl f1) (HB1.out _ rfl f3))
            go_wp2
            go_roundg (hi + 1 - lo - (k + 1))
            case measure => omega
            case rel => exact ⟨k + 1, by omega, .inl (by omega), rfl, by rw [G.out.1], by rw [G.out.2], by rw [show ((lo : Int) + ((k + 1 : Nat) : Int)) = lo + k + 1 from by omega], rfl⟩
          · have G := Lib.hid (show _ from And.intro (HA3.out _ rfl f1) (HB2.out _ rfl f3))
            go_wp2
            go_roundg (hi + 1 - lo - (k + 1))
            case measure => omega
            case rel => exact ⟨k + 1, by omega, .inl (by omega), rfl, by rw [G.out.1], by rw [G.out.2], by rw [show ((lo : Int) + ((k + 1 : Nat) : Int)) = lo + k + 1 from by omega], rfl⟩
      · have hk : k = spK xs lo hi := by unfold spK; omega
        have hge : hi ≥ xs.length := by omega
        have hmx : max lo xs.length ≤ 2199023255552 := by omega
        have himx : imageF xs new ((max lo xs.length : Nat) : Int) ≥ 0 := by rw [imageF_out _ _ _ (by omega)]; omega
        have HV := Lib.hid (show spanV xs new lo hi = if spA xs lo k < 0 then .tuple #[.int .i64 (imageF xs new ((max lo xs.length : Nat) : Int)), .int .i64 (imageF xs new hi), .bool true] else .tuple #[.int .i64 (spA xs lo k), .int .i64 (imageF xs new hi), .bool true] by
          simp only [spanV, spanA, spanB, if_neg (show ¬ hi < xs.length by omega), ← hk]
          by_cases hA : spA xs lo k < 0
          · simp only [if_pos hA, if_neg (show ¬ imageF xs new ((max lo xs.length : Nat) : Int) < 0 by omega)]
          · simp only [if_neg hA])
        have IM1 := Lib.hid (fun W h => image_any W a cap xs new hi h hl (by omega) hn (by omega))
        have IM2 := Lib.hid (fun W h => image_any W a cap xs new ((max lo xs.length : Nat) : Int) h hl (by omega) hn (by omega))
        have hR1 := HR.out.alloc (.cells #[.slice a xs.length cap, .int .i64 new] 26)
        have hBx := Blk.made (w := w) rfl [.slice a xs.length cap, .int .i64 new] 26
        have e2' : ¬ ((lo : Int) + k < xs.length) := by omega
        have hge' : ¬ (hi < xs.length) := by omega
        clear hk hmx hk1 hk2
        have e1'' : ((lo : Int) + k ≤ hi) := by omega
        generalize spA xs lo k = A at *
        generalize spB xs lo k = Bv at *
        generalize imageF xs new hi = ih at *
        by_cases f : A < 0
        · have HV1 := Lib.hid (HV.out.trans (if_pos f))
          by_cases g : lo < xs.length
          · rw [show max lo xs.length = xs.length from by omega] at IM2 HV1 himx
            generalize imageF xs new xs.length = im at *
            go_wp2_with fail
            refine (IM1.out _ hR1).mono ?_
            rintro e w1 ⟨rfl, hb1⟩
            have hBx1 := hBx.below hb1 hBx.lt
            have x0 := hBx1.cell 0 _ rfl
            have x1 := hBx1.cell 1 _ rfl
            go_wp2_with fail
            refine (IM2.out _ (hR1.below hb1)).mono ?_
            rintro e w2 ⟨rfl, hb2⟩
            go_wp2
            go_ret3
            exact ⟨congrArg _ HV1.out.symm, (B0.trans (hb1.mono B0.size)).trans (hb2.mono (by have := B0.size; have := hb1.size; omega))⟩
          · rw [show max lo xs.length = lo from by omega] at IM2 HV1 himx
            generalize imageF xs new lo = im at *
            go_wp2_with fail
            refine (IM1.out _ hR1).mono ?_
            rintro e w1 ⟨rfl, hb1⟩
            have hBx1 := hBx.below hb1 hBx.lt
            have x0 := hBx1.cell 0 _ rfl
            have x1 := hBx1.cell 1 _ rfl
            go_wp2_with fail
            refine (IM2.out _ (hR1.below hb1)).mono ?_
            rintro e w2 ⟨rfl, hb2⟩
            go_wp2
            go_ret3
            exact ⟨congrArg _ HV1.out.symm, (B0.trans (hb1.mono B0.size)).trans (hb2.mono (by have := B0.size; have := hb1.size; omega))⟩
        · have HV1 := Lib.hid (HV.out.trans (if_neg f))
          go_wp2_with fail
          refine (IM1.out _ hR1).mono ?_
          rintro e w1 ⟨rfl, hb1⟩
          go_wp2
          go_ret3
          exact ⟨congrArg _ HV1.out.symm, B0.trans (hb1.mono B0.size)⟩
    · have hk : k = spK xs lo hi := by unfold spK; omega
      have hlt : hi < xs.length := by omega
      have HV := Lib.hid (show spanV xs new lo hi = if spA xs lo k < 0 then .tuple #[.int .i64 0, .int .i64 0, .bool false] else .tuple #[.int .i64 (spA xs lo k), .int .i64 (spB xs lo k), .bool true] by
        simp only [spanV, spanA, spanB, if_pos hlt, ← hk])
      have e1' : ¬ ((lo : Int) + k ≤ hi) := by omega
      clear hk hk1 hk2
      generalize spA xs lo k = A at *
      generalize spB xs lo k = Bv at *
      by_cases f : A < 0
      · have HV1 := Lib.hid (HV.out.trans (if_pos f))
        go_wp2
        go_ret3
        exact ⟨congrArg _ HV1.out.symm, B0⟩
      · have HV1 := Lib.hid (HV.out.trans (if_neg f))
        go_wp2
        go_ret3
        exact ⟨congrArg _ HV1.out.symm, B0⟩

end Go.Proofs.Ytdccpnaolcpohaa
