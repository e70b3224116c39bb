/- The walk of the law MapsBack. -/
import Derived.Test.YtdccpnaolcpohaaM
namespace Go.Proofs.Ytdccpnaolcpohaa
open Go.RowKit

def bck (xs : List Int) (n : Nat) : List Int := tab (idxF xs) n
theorem bck_length (xs : List Int) (n : Nat) : (bck xs n).length = n := tab_length _ _

theorem back_at (w : World) (a : Option Addr) (cap : Nat) (xs : List Int) (n : Nat) (h : Row 0 w a xs) (hl : xs.length ≤ 4294967296) (hn : n ≤ 4294967296) :
    Calls Try.prog 23 #[.agg #[.slice a xs.length cap, .int .i64 n]] w fun e w' => ∃ a' cap', e = .returned (.agg #[.slice a' n cap', .int .i64 xs.length]) ∧ Row 0 w' a' (bck xs n) ∧ Below w.heap.size w w' :=
  (back_any w a cap xs n h hl hn).mono fun _ _ ⟨a', c', h1, h2, h3⟩ => ⟨a', c', h1, h2.from (Nat.zero_le _), h3⟩

def RetMap0 (w : World) (xs : List Int) (k : Nat) (new : Int) (e : Ending) (w' : World) : Prop :=
  ∃ a' cap', e = .returned (.agg #[.slice a' k cap', .int .i64 new]) ∧ Row 0 w' a' xs ∧ Below w.heap.size w w'

theorem back_again (w : World) (a : Option Addr) (cap : Nat) (xs : List Int) (n : Nat) (hu : UpP (-1) n xs) (h : Row 0 w a (bck xs n)) (hl : xs.length ≤ 4294967296) (hn : n ≤ 4294967296) :
    Calls Try.prog 23 #[.agg #[.slice a n cap, .int .i64 xs.length]] w (RetMap0 w xs xs.length n) := by
  have := back_at w a cap (bck xs n) xs.length h (by rw [bck_length]; exact hn) hl
  rw [bck_length] at this
  refine this.mono fun e w' ⟨a', c', h1, h2, h3⟩ => ⟨a', c', h1, ?_, h3⟩
  have e : bck (bck xs n) xs.length = xs := back_back xs n hu
  rwa [e] at h2

theorem sameF_self (xs : List Int) (n : Int) : sameF xs n xs n = true := by simp [sameF, eqF]

set_option maxHeartbeats 4000000 in
theorem mapsBack_walk (w : World) (a0 : Option Addr) (cap0 : Nat) (ns : List Int) (at_ : Int) (h0 : RowK .u8 0 w a0 ns)
    (hl0 : ns.length ≤ 9223372036854775807) (hb0 : ∀ i, 0 ≤ ns.getD i 0 ∧ ns.getD i 0 ≤ 255) (hat0 : 0 ≤ at_) (hat1 : at_ ≤ 255) :
    Calls Try.prog 6 #[.slice a0 ns.length cap0, .int .u8 at_] w fun e w' => e = .returned (.bool true) ∧ Below w.heap.size w w' := by
  by_cases c0 : ns.length > 100
  · have c0' : (ns.length : Int) > 100 := by omega
    clear hb0
    go_enter Try.func6, Try.ntmps6
    go_wp2_with (go_at_call 13; refine (awake_any _).mono ?_; rintro e w1 ⟨rfl, hb⟩)
    go_ret
    exact ⟨rfl, hb⟩
  · have c0' : ¬ (ns.length : Int) > 100 := by omega
    obtain ⟨up0, np0⟩ := make_up ns (fun i => (hb0 i).1) ns.length (Nat.le_refl _)
    obtain ⟨bl0, _, bn0⟩ := make_bd ns ns.length (Nat.le_refl _)
    have M0 := Lib.hid (fun W h => make_any W a0 cap0 ns h (by omega) hb0)
    clear hb0
    generalize makeTo ns ns.length = xs at *
    generalize makeNew ns ns.length = nx at *
    obtain ⟨n, rfl⟩ := Int.eq_ofNat_of_zero_le np0
    obtain ⟨k, rfl⟩ := Int.eq_ofNat_of_zero_le hat0
    have HB1 := Lib.hid (fun W a' c' h => back_at W a' c' xs n h (by omega) (by omega))
    have HB2 := Lib.hid (fun W a' c' h => back_again W a' c' xs n up0 h (by omega) (by omega))
    have HMAY : Hid (∀ W a' c', Row 0 W a' (bck xs n) → Calls Try.prog 16 #[.agg #[.slice a' n c', .int .i64 xs.length]] W fun e w' => e = .returned (.bool true) ∧ Below W.heap.size W w') := fun W a' c' h => by
      have := may_any W a' c' (bck xs n) xs.length h (by rw [bck_length]; omega)
      rw [bck_length, mayF_up (bck xs n) _ (back_up xs n up0) (by omega) (by omega) (by rw [bck_length]; omega)] at this
      exact this
    have HSAME : Hid (∀ W a' c' a'' c'', Row 0 W a' xs → Row 0 W a'' xs → Calls Try.prog 20 #[.agg #[.slice a' xs.length c', .int .i64 n], .agg #[.slice a'' xs.length c'', .int .i64 n]] W fun e w' => e = .returned (.bool true) ∧ Below W.heap.size W w') := fun W a' c' a'' c'' h h' => by
      have := sameMap_any W a' a'' c' c'' xs xs n n h h' (by omega) (by omega)
      rw [sameF_self] at this
      exact this
    have HIA := Lib.hid (fun W a' c' h => image_any W a' c' xs n k h (by omega) (by omega) (by omega) (by omega))
    have HTB := Lib.hid (fun hk h => there_back xs n up0 k hk h)
    have HIB : Hid (∀ W a' c', Row 0 W a' (bck xs n) → k < xs.length → 0 ≤ xs.getD k 0 → Calls Try.prog 17 #[.agg #[.slice a' n c', .int .i64 xs.length], .int .i64 (imageF xs n k)] W fun e w' => e = .returned (.int .i64 k) ∧ Below W.heap.size W w') := fun W a' c' h hk hx => by
      have := image_any W a' c' (bck xs n) xs.length (imageF xs n k) h (by rw [bck_length]; omega) (by omega) (by omega) (by have := image_le xs n k up0 (by omega); omega)
      rw [bck_length, show imageF (bck xs n) xs.length (imageF xs n k) = k from there_back xs n up0 k hk hx] at this
      exact this
    clear up0 HTB
    generalize bck xs n = bs at *
    generalize imageF xs n k = im at *
    go_enter Try.func6, Try.ntmps6
    go_wp2_with fail
    refine (M0.out _ h0).mono ?_
    rintro e w1 ⟨va, rfl, hO1, hb1⟩
    obtain ⟨aa, ca, rfl, hRa⟩ := hO1.row
    go_wp2_with fail
    refine (HB1.out _ _ _ ((hRa.alloc _).from (Nat.zero_le _))).mono ?_
    rintro e w2 ⟨ab, cb, rfl, hRb, hb2⟩
    have hA := Blk.made (w := w1) rfl [.slice aa xs.length ca, .int .i64 n] 26
    have hA2 := hA.below hb2 hA.lt
    have hRa2 := ((hRa.alloc (.cells #[.slice aa xs.length ca, .int .i64 n] 26)).below hb2).from (Nat.zero_le _)
    have t2 := held_step (hb1.alloc hb1.size (.cells #[.slice aa xs.length ca, .int .i64 n] 26)) hb2
    clear hA hRa hO1 hb1 hb2 h0
    generalize w1.heap.size = pa at *
    go_wp2_with fail
    have hB3 := Blk.made (w := w2) rfl [.slice ab n cb, .int .i64 xs.length] 26
    have hA3 := hA2.alloc (.cells #[.slice ab n cb, .int .i64 xs.length] 26)
    have hRa3 := hRa2.alloc (.cells #[.slice ab n cb, .int .i64 xs.length] 26)
    have hRb3 := hRb.alloc (.cells #[.slice ab n cb, .int .i64 xs.length] 26)
    have t3 := t2.alloc t2.size (.cells #[.slice ab n cb, .int .i64 xs.length] 26)
    clear hA2 hRa2 hRb t2
    generalize w2.alloc (.cells #[.slice ab n cb, .int .i64 xs.length] 26) = W3 at *
    generalize w2.heap.size = pb at *
    have HCELLS : Hid (∀ w', Below W3.heap.size W3 w' → w'.cell? ⟨pa, 0, none⟩ = some (.slice aa xs.length ca) ∧ w'.cell? ⟨pa, 1, none⟩ = some (.int .i64 n) ∧
        w'.cell? ⟨pb, 0, none⟩ = some (.slice ab n cb) ∧ w'.cell? ⟨pb, 1, none⟩ = some (.int .i64 xs.length)) := fun w' h =>
      ⟨(hA3.below h hA3.lt).cell 0 _ rfl, (hA3.below h hA3.lt).cell 1 _ rfl, (hB3.below h hB3.lt).cell 0 _ rfl, (hB3.below h hB3.lt).cell 1 _ rfl⟩
    clear hA3 hB3
    go_region_held3 (fun w' => Below W3.heap.size W3 w' ∧ w'.cell? ⟨pa, 0, none⟩ = some (.slice aa xs.length ca) ∧ w'.cell? ⟨pa, 1, none⟩ = some (.int .i64 n) ∧
        w'.cell? ⟨pb, 0, none⟩ = some (.slice ab n cb) ∧ w'.cell? ⟨pb, 1, none⟩ = some (.int .i64 xs.length))
      (first
        | exact ⟨held_step hnow hbn, HCELLS.out _ (held_step hnow hbn)⟩
        | exact ⟨(Below.refl _ _).drew, HCELLS.out _ (Below.refl _ _).drew⟩
        | go_keep)
      (first
        | (go_at_call 16; have hnow : Below W3.heap.size W3 _ := (by go_split_ands; assumption); refine (HMAY.out _ _ _ (hRb3.below hnow)).mono ?_; rintro e wn ⟨rfl, hbn⟩)
        | (go_at_call 23; have hnow : Below W3.heap.size W3 _ := (by go_split_ands; assumption); refine (HB2.out _ _ _ (hRb3.below hnow)).mono ?_; rintro e wn ⟨ax, cx, rfl, hRx, hbn⟩)
        | (go_at_call 20; have hnow : Below W3.heap.size W3 _ := (by go_split_ands; assumption); refine (HSAME.out _ _ _ _ _ hRx (hRa3.below hnow)).mono ?_; rintro e wn ⟨rfl, hbn⟩))
    have hl := held_step hnow hbn
    have hRan := hRa3.below hl
    have tn := held_step t3 hl
    obtain ⟨x0, x1, x2, x3⟩ := HCELLS.out _ hl
    by_cases hk : k < xs.length
    · obtain ⟨b, off, rfl, _, hb, hc⟩ := hRan.at k hk
      have hk' : (k : Int) < (xs.length : Int) := by omega
      have hk0 : (0 : Int) ≤ (k : Int) := Int.natCast_nonneg _
      by_cases hx : 0 ≤ xs.getD k 0
      · have HIB' := Lib.hid (fun W a' c' h => HIB.out W a' c' h hk hx)
        generalize xs.getD k 0 = x at *
        clear hbn hnow hRx HIB
        go_wp2_with fail
        have ten := t3
        have hwk : IntKind.i64.wrap (k : Int) = k := by rw [IntKind.wrap_i64]; omega
        have HC2 : Hid (∀ w', Below wn.heap.size wn w' → w'.cell? ⟨pa, 0, none⟩ = some (.slice (some ⟨b, off, none⟩) xs.length ca) ∧ w'.cell? ⟨pa, 1, none⟩ = some (.int .i64 n) ∧
            w'.cell? ⟨pb, 0, none⟩ = some (.slice ab n cb) ∧ w'.cell? ⟨pb, 1, none⟩ = some (.int .i64 xs.length)) := fun w' h => HCELLS.out _ (held_step hl h)
        have hRbn := hRb3.below hl
        clear hc hb
        go_region_held3 (fun w' => Below wn.heap.size wn w' ∧ w'.cell? ⟨pa, 0, none⟩ = some (.slice (some ⟨b, off, none⟩) xs.length ca) ∧ w'.cell? ⟨pa, 1, none⟩ = some (.int .i64 n) ∧
            w'.cell? ⟨pb, 0, none⟩ = some (.slice ab n cb) ∧ w'.cell? ⟨pb, 1, none⟩ = some (.int .i64 xs.length))
          (first
            | exact ⟨held_step hnow hbm, HC2.out _ (held_step hnow hbm)⟩
            | exact ⟨(Below.refl _ _).drew, HC2.out _ (Below.refl _ _).drew⟩
            | go_keep)
          (first
            | (go_at_call 13; have hnow : Below wn.heap.size wn _ := (by go_split_ands; assumption); refine (awake_any _).mono ?_; rintro e wm ⟨rfl, hbm⟩)
            | (go_at_call 17; have hnow : Below wn.heap.size wn _ := (by go_split_ands; assumption); with_reducible refine (HIA.out _ _ _ (hRan.below hnow)).mono ?_; rintro e wm ⟨rfl, hbm⟩)
            | (go_at_call 17; have hnow : Below wn.heap.size wn _ := (by go_split_ands; assumption); with_reducible refine (HIB'.out _ _ _ (hRbn.below hnow)).mono ?_; rintro e wm ⟨rfl, hbm⟩))
        go_wp2
        go_ret
        exact ⟨rfl, held_step tn (held_step hnow hbm)⟩
      · have hx' : ¬ (0 ≤ xs.getD k 0) := hx
        clear HIB
        generalize xs.getD k 0 = x at *
        go_wp2_with (go_at_call 13; refine (awake_any _).mono ?_; rintro e w8 ⟨rfl, hb8⟩)
        go_ret
        exact ⟨rfl, held_step tn hb8⟩
    · have hk' : ¬ (k : Int) < (xs.length : Int) := by omega
      clear HIB
      go_wp2_with (go_at_call 13; refine (awake_any _).mono ?_; rintro e w8 ⟨rfl, hb8⟩)
      go_ret
      exact ⟨rfl, held_step tn hb8⟩

end Go.Proofs.Ytdccpnaolcpohaa
