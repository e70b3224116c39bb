/- The contracts of slices.Index, slices.Contains, the references' Ints and SameMap, and awake. -/
import Derived.Test.YtdccpnaolcpohaaD
import Derived.BigQuiet
import Derived.Deep.QuietTactic
namespace Go.Proofs.Ytdccpnaolcpohaa
open Go.RowKit

def indexF (xs : List Int) (v : Int) : Int := if v ∈ xs then (xs.idxOf v : Int) else -1

theorem indexF_at (xs : List Int) (v : Int) (k : Nat) (hk : k < xs.length) (h : xs.getD k 0 = v) (hn : ∀ j, j < k → xs.getD j 0 ≠ v) : indexF xs v = k := by
  have hm : v ∈ xs := by
    rw [← h]; simp [List.getD, hk]
  rw [indexF, if_pos hm]
  have h1 : xs.idxOf v = k := by
    have hlt := List.idxOf_lt_length_of_mem hm
    have hge : ¬ xs.idxOf v < k := fun hh => hn _ hh (by simp [List.getD, hlt])
    have hle : ¬ k < xs.idxOf v := fun hh => by
      have := List.not_of_lt_findIdx (p := fun y => y == v) (xs := xs) hh
      simp [List.getD, hk] at h
      simp [h] at this
    omega
  rw [h1]
theorem indexF_none (xs : List Int) (v : Int) (hn : ∀ j, j < xs.length → xs.getD j 0 ≠ v) : indexF xs v = -1 := by
  rw [indexF, if_neg]
  intro hm
  obtain ⟨j, hj, e⟩ := List.mem_iff_getElem.1 hm
  exact hn j hj (by simp [List.getD, hj, e])

set_option maxHeartbeats 400000 in
theorem index_any (w : World) (a : Option Addr) (cap : Nat) (xs : List Int) (v : Int) (h : Row 0 w a xs) (hl : xs.length ≤ 4294967296) :
    Calls Try.prog 46 #[.slice a xs.length cap, .int .i64 v] w fun e w' => e = .returned (.int .i64 (indexF xs v)) ∧ w = w' := by
  have HR := Lib.hid h
  go_enter Try.func46, Try.ntmps46
  go_wp2
  go_loop [8] (fun c => ∃ k : Nat, k ≤ xs.length ∧ c = .int .i64 k ∧ Hid (∀ j, j < k → xs.getD j 0 ≠ v)) (fun c => xs.length - (intOf c).toNat)
  case atStart => exact ⟨0, Nat.zero_le _, rfl, fun j hj => absurd hj (Nat.not_lt_zero j)⟩
  case round =>
    obtain ⟨k, hk, rfl, hno⟩ := hrel
    by_cases hlt : k < xs.length
    · obtain ⟨b, off, rfl, _, hb, hc⟩ := HR.out.at k hlt
      have hx := Lib.hid (rfl : xs.getD k 0 = xs.getD k 0)
      generalize hxx : xs.getD k 0 = x at *
      have HX := Lib.hid hxx
      clear hxx hx
      by_cases he : v = x
      · subst he
        go_wp2
        go_ret
        exact ⟨ret_int (indexF_at xs _ k hlt HX.out hno.out).symm, rfl⟩
      · have he' : (v == x) = false := by simpa using he
        clear he
        go_wp2
        go_round
        case rel => exact ⟨k + 1, by omega, by go_num, fun j hj => by
          by_cases e : j = k
          · subst e; rw [HX.out]; exact fun e => by simp [e] at he'
          · exact hno.out j (by omega)⟩
        case measure => simp [intOf]; omega
    · go_wp2
      go_ret
      exact ⟨ret_int (indexF_none xs v (fun j hj => hno.out j (by omega))).symm, rfl⟩

def hasF (xs : List Int) (v : Int) : Bool := decide (v ∈ xs)
theorem hasF_index (xs : List Int) (v : Int) : decide (indexF xs v ≥ 0) = hasF xs v := by
  unfold indexF hasF
  by_cases h : v ∈ xs
  · simp [h]
  · simp [h]

set_option maxHeartbeats 400000 in
theorem contains_any (w : World) (a : Option Addr) (cap : Nat) (xs : List Int) (v : Int) (h : Row 0 w a xs) (hl : xs.length ≤ 4294967296) :
    Calls Try.prog 51 #[.slice a xs.length cap, .int .i64 v] w fun e w' => e = .returned (.bool (hasF xs v)) ∧ w = w' := by
  have HI := Lib.hid (hasF_index xs v)
  go_enter Try.func51, Try.ntmps51
  go_wp2_with (go_at_call 46; refine (index_any _ _ _ _ _ h hl).mono ?_; rintro e w1 ⟨rfl, rfl⟩)
  go_ret
  exact ⟨ret_bool HI.out, rfl⟩

def eqF (xs ys : List Int) : Bool := decide (xs = ys)

theorem eqF_no (xs ys : List Int) (k : Nat) (h : xs.getD k 0 ≠ ys.getD k 0) : eqF xs ys = false := by
  simp only [eqF, decide_eq_false_iff_not]
  intro e; subst e; exact h rfl
theorem eqF_yes (xs ys : List Int) (hl : xs.length = ys.length) (h : ∀ j, j < xs.length → xs.getD j 0 = ys.getD j 0) : eqF xs ys = true := by
  simp only [eqF, decide_eq_true_eq]
  apply List.ext_getElem hl
  intro i h1 h2
  have := h i h1
  simpa [List.getD, h1, h2] using this

set_option maxHeartbeats 1000000 in
theorem intsEq_any (w : World) (a b : Option Addr) (ca cb : Nat) (xs ys : List Int) (hx : Row 0 w a xs) (hy : Row 0 w b ys) (hlx : xs.length ≤ 4294967296) (hly : ys.length ≤ 4294967296) :
    Calls Try.prog 43 #[.slice a xs.length ca, .slice b ys.length cb] w fun e w' => e = .returned (.bool (eqF xs ys)) ∧ Below w.heap.size w w' := by
  have HX := Lib.hid hx
  have HY := Lib.hid hy
  clear hx hy
  by_cases hl : xs.length = ys.length
  · have HL := Lib.hid hl
    have hle : ¬ ((xs.length : Int) ≠ (ys.length : Int)) := by omega
    have hneq : ((xs.length : Int) != (ys.length : Int)) = false := by simp [hl]
    clear hl hle
    go_enter Try.func43, Try.ntmps43
    go_wp2_with fail
    clear hneq
    go_loopw [5] (fun c wr => ∃ k : Nat, k ≤ xs.length ∧ c = .int .i64 k ∧ Hid (∀ j, j < k → xs.getD j 0 = ys.getD j 0) ∧ Below w.heap.size w wr) (fun c _ => xs.length - (intOf c).toNat)
    case atStart => exact ⟨0, Nat.zero_le _, rfl, fun j hj => absurd hj (Nat.not_lt_zero j), Below.refl _ _⟩
    case round =>
      obtain ⟨k, hk, rfl, hno, hbel⟩ := hrel
      by_cases hlt : k < xs.length
      · have hlt2 : k < ys.length := by have := HL.out; omega
        obtain ⟨b1, o1, rfl, _, hb1, hc1⟩ := (HX.out.below hbel).at k hlt
        obtain ⟨b2, o2, rfl, _, hb2, hc2⟩ := (HY.out.below hbel).at k hlt2
        have HXK := Lib.hid (show xs.getD k 0 = xs.getD k 0 from rfl)
        have HXY : Hid (∀ x y, x = xs.getD k 0 → y = ys.getD k 0 → (x ≠ y → eqF xs ys = false) ∧ (x = y → ∀ j, j < k + 1 → xs.getD j 0 = ys.getD j 0)) := by
          rintro x y rfl rfl
          refine ⟨eqF_no xs ys k, fun e j hj => ?_⟩
          by_cases ejk : j = k
          · subst ejk; exact e
          · exact hno.out j (by omega)
        clear HXK
        have H2 := Lib.hid (HXY.out _ _ rfl rfl)
        clear HXY
        generalize xs.getD k 0 = x at *
        generalize ys.getD k 0 = y at *
        have hi0 : (0 : Int) ≤ (k : Int) := Int.natCast_nonneg _
        have hi1 : (k : Int) < (xs.length : Int) := by omega
        have hi2 : (k : Int) < (ys.length : Int) := by omega
        by_cases he : x = y
        · have hne : (x != y) = false := by simpa using he
          have HE := Lib.hid he
          clear he
          go_wp2_with fail
          go_quiet (fail)
          go_wp2
          go_roundw
          case rel => exact ⟨k + 1, by omega, by go_num, Lib.hid (H2.out.2 HE.out), below_drewN hbel _⟩
          case measure => simp [intOf]; omega
        · have hne : (x != y) = true := by simpa using he
          have HE := Lib.hid (H2.out.1 he)
          clear he
          go_wp2_with fail
          go_quiet (fail)
          go_wp2
          go_ret
          exact ⟨ret_bool HE.out.symm, below_drewN hbel _⟩
      · have HF := Lib.hid (eqF_yes xs ys HL.out (fun j hj => hno.out j (by omega)))
        go_wp2
        go_ret
        exact ⟨ret_bool HF.out.symm, hbel⟩
  · have hd : eqF xs ys = false := by
      simp only [eqF, decide_eq_false_iff_not]
      intro e; rw [e] at hl; exact hl rfl
    have HD := Lib.hid hd
    clear hd
    go_enter Try.func43, Try.ntmps43
    go_wp2
    go_ret
    exact ⟨ret_bool HD.out.symm, Below.refl _ _⟩

def sameF (xs : List Int) (nx : Int) (ys : List Int) (ny : Int) : Bool := nx == ny && eqF xs ys

set_option maxHeartbeats 1000000 in
theorem sameMap_any (w : World) (a b : Option Addr) (ca cb : Nat) (xs ys : List Int) (nx ny : Int) (hx : Row 0 w a xs) (hy : Row 0 w b ys) (hlx : xs.length ≤ 4294967296) (hly : ys.length ≤ 4294967296) :
    Calls Try.prog 20 #[.agg #[.slice a xs.length ca, .int .i64 nx], .agg #[.slice b ys.length cb, .int .i64 ny]] w fun e w' => e = .returned (.bool (sameF xs nx ys ny)) ∧ Below w.heap.size w w' := by
  by_cases h : nx = ny
  · subst h
    have H := Lib.hid (show sameF xs nx ys nx = eqF xs ys by simp [sameF])
    go_enter Try.func20, Try.ntmps20
    go_wp2_with (go_at_call 43; refine (intsEq_any _ _ _ _ _ _ _ ((hx.alloc _).alloc _) ((hy.alloc _).alloc _) hlx hly).mono ?_; rintro e w1 ⟨rfl, hb⟩)
    go_ret
    exact ⟨ret_bool H.out.symm, ((Below.refl _ _).alloc (Nat.le_refl _) _ |>.alloc (by simp) _).trans (hb.mono (by simp <;> omega))⟩
  · have hd : (nx == ny) = false := by simpa using h
    have H := Lib.hid (show sameF xs nx ys ny = false by simp [sameF, hd])
    go_enter Try.func20, Try.ntmps20
    go_wp2
    go_ret
    exact ⟨ret_bool H.out.symm, ((Below.refl _ _).alloc (Nat.le_refl _) _ |>.alloc (by simp) _)⟩

theorem tab2 : tab (fun i => behindF 1 i) (sizeF 2) = [0, 2] := by decide +kernel
theorem size2 : sizeF 2 = 2 := by decide +kernel
theorem same02 : sameF [0, 2] 3 [0, 2] 3 = true := by decide +kernel

set_option maxHeartbeats 1000000 in
theorem awake_any (w : World) : Calls Try.prog 13 #[] w fun e w' => e = .returned (.bool true) ∧ Below w.heap.size w w' := by
  have HI : Hid (∀ W, Calls Try.prog 18 #[.int .i64 2, .int .i64 1] W (RetMap W [0, 2] 3)) := by
    intro W
    have := ins_in W 2 1 (by omega) (by rw [size2]; omega)
    rw [tab2, size2] at this
    exact this
  go_enter Try.func13, Try.ntmps13
  go_wp2_with (go_at_call 18; refine (HI.out _).mono ?_; rintro e w1 ⟨a, cap, rfl, hR, hb⟩)
  have HS := Lib.hid same02
  refine (sameMap_any _ a (some ⟨w1.heap.size, 0, none⟩) cap 2 [0, 2] [0, 2] 3 3 ((hR.alloc _).from (Nat.zero_le _)) (Row.of_blk (rest := []) (Blk.made rfl [.int .i64 0, .int .i64 2] 3) (Nat.zero_le _)) (by decide) (by decide)).mono ?_
  rintro e w2 ⟨rfl, hb2⟩
  go_wp2
  go_ret
  exact ⟨ret_bool HS.out, (hb.alloc hb.size _).trans (hb2.mono (by have := hb.size; simp <;> omega))⟩

end Go.Proofs.Ytdccpnaolcpohaa
