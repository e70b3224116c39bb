/- The walk of the law FuseWays. -/
import Derived.Test.YtdccpnaolcpohaaAP
import Derived.Test.YtdccpnaolcpohaaAF
import Derived.Test.YtdccpnaolcpohaaAT
import Derived.Test.YtdccpnaolcpohaaAU
import Derived.BigRegion
import Derived.BigQuiet
import Derived.Deep.QuietTactic
import Derived.Deep.DeepCutAuto
namespace Go.Proofs.Ytdccpnaolcpohaa
open Go.RowKit

/-- What the law asks of one old place. -/
def OneA (a b o : Int) (na nb : Nat) (ts us : List Int) : Prop :=
  a < na ∧ b < nb ∧ (0 ≤ a → 0 ≤ b → 0 ≤ o ∧ ts.getD a.toNat 0 = o ∧ us.getD b.toNat 0 = o) ∧ (0 ≤ a → b < 0 → o < 0 ∧ ts.getD a.toNat 0 < 0) ∧ (a < 0 → 0 ≤ b → o < 0 ∧ us.getD b.toNat 0 < 0) ∧ (a < 0 → b < 0 → o < 0)
theorem Ways.one {A B : List Int} {na nb : Nat} {s : FS} (h : Ways A B na nb s) (hl : A.length = B.length) (hua : UpP (-1) na A) (hub : UpP (-1) nb B) (i : Nat) (hi : i < A.length) :
    OneA (A.getD i 0) (B.getD i 0) (s.o.getD i 0) na nb s.ta s.tb := by
  have ha : A.getD i 0 < na := by
    by_cases c : 0 ≤ A.getD i 0
    · exact up_hi hua hi c
    · omega
  have hb : B.getD i 0 < nb := by
    by_cases c : 0 ≤ B.getD i 0
    · exact up_hi hub (by omega) c
    · omega
  have hk := h.ko i hi
  refine ⟨ha, hb, fun h0 h1 => ⟨hk.2 ⟨h0, h1⟩, h.wa i hi h0 h1, h.wb i hi h0 h1⟩, fun h0 h1 => ⟨?_, h.ga i hi h0 h1⟩, fun h0 h1 => ⟨?_, h.gb i hi h1 h0⟩, fun h0 h1 => ?_⟩
  · exact Int.not_le.1 fun c => by have := (hk.1 c).2; omega
  · exact Int.not_le.1 fun c => by have := (hk.1 c).1; omega
  · exact Int.not_le.1 fun c => by have := (hk.1 c).1; omega
/-- What it asks of one new place. -/
def OneB (p q r : Int) : Prop := (0 ≤ p ∨ 0 ≤ q) ∧ (0 ≤ p → 0 ≤ q → 0 ≤ r)
theorem bck_at (xs : List Int) (n i : Nat) (hi : i < n) : (bck xs n).getD i 0 = idxF xs i := by
  unfold bck; simp [List.getD, tab_get _ _ _ hi]
theorem Ways.onb {A B : List Int} {na nb : Nat} {s : FS} (h : Ways A B na nb s) (i : Nat) (hi : i < s.now) : OneB ((bck s.ta s.now).getD i 0) ((bck s.tb s.now).getD i 0) ((bck s.o s.now).getD i 0) := by
  rw [bck_at _ _ _ hi, bck_at _ _ _ hi, bck_at _ _ _ hi]
  exact ⟨h.some i hi, h.two i hi⟩
theorem cnt_both (A B : List Int) (k : Nat) : cnt (fun i => both A B i) (k + 1) = cnt (fun i => both A B i) k + if 0 ≤ A.getD k 0 ∧ 0 ≤ B.getD k 0 then 1 else 0 := by
  simp only [cnt]
  by_cases h : 0 ≤ A.getD k 0 ∧ 0 ≤ B.getD k 0
  · rw [if_pos h, if_pos (both_iff.2 h)]
  · rw [if_neg h, if_neg (by rw [both_iff]; exact h)]
theorem may_len (xs : List Int) (l : Nat) (n : Nat) (h : xs.length = l) (hl : l ≤ 1048576) (hn : n ≤ 1048576) (hu : UpP (-1) n xs) (W : World) (a : Option Addr) (c : Nat) (h1 : Row 0 W a xs) :
    Calls Try.prog 29 #[.agg #[.slice a l c, .int .i64 n]] W fun e w' => e = .returned (.bool true) ∧ Below W.heap.size W w' := by
  subst h
  have := rmay_any W a c xs n h1 (by omega)
  rwa [mayF_up xs n hu (by omega) (by omega) hl] at this
theorem back_len (xs : List Int) (l : Nat) (n : Nat) (h : xs.length = l) (hl : l ≤ 1048576) (hn : n ≤ 1048576) (hu : UpP (-1) n xs) (W : World) (a : Option Addr) (c : Nat) (h1 : Row 0 W a xs) :
    Calls Try.prog 30 #[.agg #[.slice a l c, .int .i64 n]] W fun e w' => ∃ a' cap' lo, e = .returned (.agg #[.slice a' n cap', .int .i64 l]) ∧ lo = W.heap.size ∧ RowIn lo w'.heap.size w' a' (bck xs n) ∧ Below W.heap.size W w' := by
  subst h
  exact rback_in W a c xs n h1 hu (by omega) (by omega)

theorem asz (w : World) (o : Obj) : w.heap.size + 1 = (w.alloc o).heap.size := (Array.size_push _).symm
theorem asz1 (w : World) (o : Obj) : w.heap.size < (w.alloc o).heap.size := by rw [← asz]; omega
theorem asz2 (w : World) (o o' : Obj) : w.heap.size + 1 < ((w.alloc o).alloc o').heap.size := by rw [← asz, ← asz]; omega
theorem asz3 (w : World) (o o' : Obj) : w.heap.size < ((w.alloc o).alloc o').heap.size := by rw [← asz, ← asz]; omega
theorem bel_alloc {W w : World} (h : Below W.heap.size W w) (o : Obj) : Below W.heap.size W (w.alloc o) := h.alloc h.size o
theorem bel_set {W w : World} (h : Below W.heap.size W w) (x : Addr) (hb : W.heap.size ≤ x.block) (v : Value) : Below W.heap.size W (w.setCell x v) := h.setCell hb v
theorem blk_s0 {w : World} {b : Nat} {x0 x y : Value} {t : TypeId} (h : Blk w b [x0, y] t) : Blk (w.setCell ⟨b, 0, none⟩ x) b [x, y] t := h.set 0 x
theorem blk_s1 {w : World} {b : Nat} {x y0 y : Value} {t : TypeId} (h : Blk w b [x, y0] t) : Blk (w.setCell ⟨b, 1, none⟩ y) b [x, y] t := h.set 1 y
theorem close3 {W w8 : World} {P Q lo7 h7 lo8 h8 : Nat} {ap aq : Option Addr} {ps qs : List Int} {p1 p2 q1 q2 x1 x2 y1 y2 : Value} (qP : Blk w8 P [p1, p2] 26) (qQ : Blk w8 Q [q1, q2] 26) (hne : P ≠ Q) (hp : RowIn lo7 h7 w8 ap ps) (hq : RowIn lo8 h8 w8 aq qs) (hb : Below W.heap.size W w8)
    (P7 : P < lo7 ∨ h7 ≤ P) (P8 : P < lo8 ∨ h8 ≤ P) (Q7 : Q < lo7 ∨ h7 ≤ Q) (Q8 : Q < lo8 ∨ h8 ≤ Q) (WP : W.heap.size ≤ P) (WQ : W.heap.size ≤ Q) :
    Row 0 ((((w8.setCell ⟨P, 0, none⟩ x1).setCell ⟨P, 1, none⟩ x2).setCell ⟨Q, 0, none⟩ y1).setCell ⟨Q, 1, none⟩ y2) ap ps ∧ Row 0 ((((w8.setCell ⟨P, 0, none⟩ x1).setCell ⟨P, 1, none⟩ x2).setCell ⟨Q, 0, none⟩ y1).setCell ⟨Q, 1, none⟩ y2) aq qs ∧
    Blk ((((w8.setCell ⟨P, 0, none⟩ x1).setCell ⟨P, 1, none⟩ x2).setCell ⟨Q, 0, none⟩ y1).setCell ⟨Q, 1, none⟩ y2) P [x1, x2] 26 ∧ Blk ((((w8.setCell ⟨P, 0, none⟩ x1).setCell ⟨P, 1, none⟩ x2).setCell ⟨Q, 0, none⟩ y1).setCell ⟨Q, 1, none⟩ y2) Q [y1, y2] 26 ∧
    Below W.heap.size W ((((w8.setCell ⟨P, 0, none⟩ x1).setCell ⟨P, 1, none⟩ x2).setCell ⟨Q, 0, none⟩ y1).setCell ⟨Q, 1, none⟩ y2) :=
  ⟨((((hp.set P7 _).set P7 _).set Q7 _).set Q7 _).row, ((((hq.set P8 _).set P8 _).set Q8 _).set Q8 _).row, (qP.set2.set_other (Ne.symm hne) _).set_other (Ne.symm hne) _, ((qQ.set_other hne _).set_other hne _).set2,
    bel_set (bel_set (bel_set (bel_set hb _ WP _) _ WP _) _ WQ _) _ WQ _⟩
theorem close2 {W w8 : World} {Q lo7 h7 lo8 h8 : Nat} {ap aq : Option Addr} {ps qs : List Int} {p1 p2 q1 q2 y1 y2 : Value} (qQ : Blk w8 Q [q1, q2] 26) (hp : RowIn lo7 h7 w8 ap ps) (hq : RowIn lo8 h8 w8 aq qs) (hb : Below W.heap.size W w8)
    (Q7 : Q < lo7 ∨ h7 ≤ Q) (Q8 : Q < lo8 ∨ h8 ≤ Q) (WQ : W.heap.size ≤ Q) :
    Row 0 (((w8.alloc (.cells #[p1, p2] 26)).setCell ⟨Q, 0, none⟩ y1).setCell ⟨Q, 1, none⟩ y2) ap ps ∧ Row 0 (((w8.alloc (.cells #[p1, p2] 26)).setCell ⟨Q, 0, none⟩ y1).setCell ⟨Q, 1, none⟩ y2) aq qs ∧
    Blk (((w8.alloc (.cells #[p1, p2] 26)).setCell ⟨Q, 0, none⟩ y1).setCell ⟨Q, 1, none⟩ y2) w8.heap.size [p1, p2] 26 ∧ Blk (((w8.alloc (.cells #[p1, p2] 26)).setCell ⟨Q, 0, none⟩ y1).setCell ⟨Q, 1, none⟩ y2) Q [y1, y2] 26 ∧
    Below W.heap.size W (((w8.alloc (.cells #[p1, p2] 26)).setCell ⟨Q, 0, none⟩ y1).setCell ⟨Q, 1, none⟩ y2) :=
  have hne : Q ≠ w8.heap.size := Nat.ne_of_lt qQ.lt
  ⟨(((hp.alloc _).set Q7 _).set Q7 _).row, (((hq.alloc _).set Q8 _).set Q8 _).row, ((Blk.made rfl [p1, p2] 26).set_other hne _).set_other hne _, (qQ.alloc _).set2, bel_set (bel_set (bel_alloc hb _) _ WQ _) _ WQ _⟩
theorem close1 {W w8 : World} {lo7 h7 lo8 h8 : Nat} {ap aq : Option Addr} {ps qs : List Int} {p1 p2 q1 q2 : Value} (hp : RowIn lo7 h7 w8 ap ps) (hq : RowIn lo8 h8 w8 aq qs) (hb : Below W.heap.size W w8) :
    Row 0 ((w8.alloc (.cells #[p1, p2] 26)).alloc (.cells #[q1, q2] 26)) ap ps ∧ Row 0 ((w8.alloc (.cells #[p1, p2] 26)).alloc (.cells #[q1, q2] 26)) aq qs ∧
    Blk ((w8.alloc (.cells #[p1, p2] 26)).alloc (.cells #[q1, q2] 26)) w8.heap.size [p1, p2] 26 ∧ Blk ((w8.alloc (.cells #[p1, p2] 26)).alloc (.cells #[q1, q2] 26)) (w8.heap.size + 1) [q1, q2] 26 ∧
    Below W.heap.size W ((w8.alloc (.cells #[p1, p2] 26)).alloc (.cells #[q1, q2] 26)) :=
  ⟨((hp.alloc _).alloc _).row, ((hq.alloc _).alloc _).row, (Blk.made rfl [p1, p2] 26).alloc _, Blk.made (asz _ _) [q1, q2] 26, bel_alloc (bel_alloc hb _) _⟩
theorem close1' {W w8 : World} {lo7 h7 lo8 h8 : Nat} {ap aq : Option Addr} {ps qs : List Int} {p1 p2 q1 q2 : Value} (hp : RowIn lo7 h7 w8 ap ps) (hq : RowIn lo8 h8 w8 aq qs) (hb : Below W.heap.size W w8) :
    Row 0 ((w8.alloc (.cells #[q1, q2] 26)).alloc (.cells #[p1, p2] 26)) ap ps ∧ Row 0 ((w8.alloc (.cells #[q1, q2] 26)).alloc (.cells #[p1, p2] 26)) aq qs ∧
    Blk ((w8.alloc (.cells #[q1, q2] 26)).alloc (.cells #[p1, p2] 26)) (w8.heap.size + 1) [p1, p2] 26 ∧ Blk ((w8.alloc (.cells #[q1, q2] 26)).alloc (.cells #[p1, p2] 26)) w8.heap.size [q1, q2] 26 ∧
    Below W.heap.size W ((w8.alloc (.cells #[q1, q2] 26)).alloc (.cells #[p1, p2] 26)) :=
  ⟨((hp.alloc _).alloc _).row, ((hq.alloc _).alloc _).row, Blk.made (asz _ _) [p1, p2] 26, (Blk.made rfl [q1, q2] 26).alloc _, bel_alloc (bel_alloc hb _) _⟩
theorem app_cons (a : Oper) (xs bs : List Oper) : List.append (a :: xs) bs = a :: List.append xs bs := by rw [List.append_eq, List.append_eq, List.cons_append]
theorem app_nil (bs : List Oper) : List.append [] bs = bs := by rw [List.append_eq, List.nil_append]

set_option maxRecDepth 100000 in
set_option maxHeartbeats 16000000 in
theorem fuseWays_walk (w : World) (a0 a1 : Option Addr) (cap0 cap1 : Nat) (ns ms : List Int) (h0 : RowK .u8 0 w a0 ns) (h1 : RowK .u8 0 w a1 ms)
    (hl0 : ns.length ≤ 9223372036854775807) (hl1 : ms.length ≤ 9223372036854775807) (hb0 : ∀ i, 0 ≤ ns.getD i 0 ∧ ns.getD i 0 ≤ 255) (hb1 : ∀ i, 0 ≤ ms.getD i 0 ∧ ms.getD i 0 ≤ 255) :
    Calls Try.prog 9 #[.slice a0 ns.length cap0, .slice a1 ms.length cap1] w fun e w' => e = .returned (.bool true) ∧ Below w.heap.size w w' := by
  by_cases c0 : ns.length > 40
  · have c0' : (ns.length : Int) > 40 := by omega
    clear hb0 hb1
    go_enter Try.func9, Try.ntmps9
    go_wp2_with (go_at_call 24; refine (awake19 _).mono ?_; rintro e w1 ⟨rfl, hb⟩)
    go_ret
    exact ⟨rfl, hb⟩
  · have c0' : ¬ (ns.length : Int) > 40 := by omega
    by_cases c1 : ms.length > 40
    · have c1' : (ms.length : Int) > 40 := by omega
      clear hb0 hb1
      go_enter Try.func9, Try.ntmps9
      go_wp2_with (go_at_call 24; refine (awake19 _).mono ?_; rintro e w1 ⟨rfl, hb⟩)
      go_ret
      exact ⟨rfl, hb⟩
    · have c1' : ¬ (ms.length : Int) > 40 := by omega
      obtain ⟨A, B, na, nb, ⟨g1, g2, g3, g4, g5, g6⟩, hT⟩ := two_any a0 a1 cap0 cap1 ns ms (by omega) (by omega) hb0 hb1
      clear hb0 hb1
      have HT := Lib.hid hT
      obtain ⟨L1, L2, L3⟩ := fuseS_len A B na nb (A.length + 1)
      have HF : Hid (∀ W a c a' c', Row 0 W a A → Row 0 W a' B → Calls Try.prog 25 #[.agg #[.slice a A.length c, .int .i64 na], .agg #[.slice a' B.length c', .int .i64 nb]] W (Ret3 W (fuseS A B na nb (A.length + 1)).o (fuseS A B na nb (A.length + 1)).ta (fuseS A B na nb (A.length + 1)).tb A.length na nb (fuseS A B na nb (A.length + 1)).now)) := fun W a c a' c' h h' =>
        (fuse_ok W a a' c c' A B na nb h h' (by omega) (by omega) (by omega) g1 g5 g6).mono fun _ _ h => h.three L1 L2 L3
      have hW := fuse_ways g1 g5 g6
      have HONE := Lib.hid (fun i hi => hW.one g1 g5 g6 i hi)
      have HONB := Lib.hid (fun i hi => hW.onb i hi)
      have hnow := hW.le
      have HMO := Lib.hid (may_len _ A.length _ L1 (by omega) (by omega) hW.uo)
      have HMX := Lib.hid (may_len _ na _ L2 (by omega) (by omega) hW.ua)
      have HMY := Lib.hid (may_len _ nb _ L3 (by omega) (by omega) hW.ub)
      have HBO := Lib.hid (back_len _ A.length _ L1 (by omega) (by omega) hW.uo)
      have HBX := Lib.hid (back_len _ na _ L2 (by omega) (by omega) hW.ua)
      have HBY := Lib.hid (back_len _ nb _ L3 (by omega) (by omega) hW.ub)
      have HNUM := Lib.hid (show (fuseS A B na nb (A.length + 1)).now + cnt (keptB A) A.length + cnt (keptB B) B.length = na + nb + cnt (fun i => both A B i) A.length by rw [← g1]; exact hW.num)
      have HOA := Lib.hid (fun W a c h => owned_any W a c A na h (by omega) (by omega))
      have HOB := Lib.hid (fun W a c h => owned_any W a c B nb h (by omega) (by omega))
      have HCB := Lib.hid (fun k => cnt_both A B k)
      have HCA := Lib.hid (cnt_max (keptB A) A.length)
      have HCC := Lib.hid (cnt_max (keptB B) B.length)
      have HC3 := Lib.hid (fun k => cnt_max (fun i => both A B i) k)
      have HL1 := Lib.hid L1
      have HL2 := Lib.hid L2
      have HL3 := Lib.hid L3
      have HG1 := Lib.hid g1
      clear hT g1 g5 g6 L1 L2 L3 hW
      generalize fuseS A B na nb (A.length + 1) = s at *
      obtain ⟨os, ts, us, m⟩ := s
      simp only at HF HONE HONB hnow HMO HMX HMY HBO HBX HBY HNUM HL1 HL2 HL3
      have HBL1 := Lib.hid (bck_length ts m)
      have HBL2 := Lib.hid (bck_length us m)
      have HBL3 := Lib.hid (bck_length os m)
      generalize bck ts m = ps at *
      generalize bck us m = qs at *
      generalize bck os m = rs at *
      generalize hkA : cnt (keptB A) A.length = kA at *
      generalize hkB : cnt (keptB B) B.length = kB at *
      clear hkA hkB
      go_enter Try.func9, Try.ntmps9
      go_wp2_with fail
      refine (HT.out _ h0 h1).mono ?_
      rintro e w1 ⟨aa, ca, ab, cb, rfl, hRa, hRb, hb1⟩
      obtain ⟨qa, qb, t2, u2⟩ := lay2 hb1 [.slice aa A.length ca, .int .i64 na] [.slice ab B.length cb, .int .i64 nb]
      have hRa2 := hRa.below u2
      have hRb2 := hRb.below u2
      clear HT h0 h1 hRa hRb hb1 u2
      go_upto_region 4 with fail
      generalize (w1.alloc (.cells #[.slice aa A.length ca, .int .i64 na] 26)).alloc (.cells #[.slice ab B.length cb, .int .i64 nb] 26) = w2 at *
      generalize w1.heap.size = pa at *
      have x0 := qa.cell 0 _ rfl
      have x1 := qa.cell 1 _ rfl
      have y0 := qb.cell 0 _ rfl
      have y1 := qb.cell 1 _ rfl
      go_wp2_with fail
      refine (HF.out _ _ _ _ _ hRa2 hRb2).mono ?_
      rintro e w5 ⟨ao, ax, ay, co, cx, cy, rfl, hRo, hRx, hRy, hb5⟩
      clear x0 x1 y0 y1
      obtain ⟨qo, qx, qy, t6, u6⟩ := lay3 (held_step t2 hb5) [.slice ao A.length co, .int .i64 m] [.slice ax na cx, .int .i64 m] [.slice ay nb cy, .int .i64 m]
      have v6 := hb5.trans (u6.mono hb5.size)
      have hRa6 := hRa2.below v6
      have hRb6 := hRb2.below v6
      have qa6 := qa.below v6 qa.lt
      have qb6 := qb.below v6 qb.lt
      have hRo6 := hRo.below u6
      have hRx6 := hRx.below u6
      have hRy6 := hRy.below u6
      go_upto_region 5 with fail
      clear v6 u6 t2 hb5 hRo hRx hRy qa qb hRa2 hRb2
      generalize ((w5.alloc (.cells #[.slice ao A.length co, .int .i64 m] 26)).alloc (.cells #[.slice ax na cx, .int .i64 m] 26)).alloc (.cells #[.slice ay nb cy, .int .i64 m] 26) = W at *
      generalize w5.heap.size = po at *
      have HCELLS : Hid (∀ w', Below W.heap.size W w' → w'.cell? ⟨pa, 0, none⟩ = some (.slice aa A.length ca) ∧ w'.cell? ⟨pa, 1, none⟩ = some (.int .i64 na) ∧
          w'.cell? ⟨pa + 1, 0, none⟩ = some (.slice ab B.length cb) ∧ w'.cell? ⟨pa + 1, 1, none⟩ = some (.int .i64 nb) ∧
          w'.cell? ⟨po, 0, none⟩ = some (.slice ao A.length co) ∧ w'.cell? ⟨po, 1, none⟩ = some (.int .i64 m) ∧
          w'.cell? ⟨po + 1, 0, none⟩ = some (.slice ax na cx) ∧ w'.cell? ⟨po + 1, 1, none⟩ = some (.int .i64 m) ∧
          w'.cell? ⟨po + 1 + 1, 0, none⟩ = some (.slice ay nb cy) ∧ w'.cell? ⟨po + 1 + 1, 1, none⟩ = some (.int .i64 m)) := fun w' h =>
        ⟨(qa6.below h qa6.lt).cell 0 _ rfl, (qa6.below h qa6.lt).cell 1 _ rfl, (qb6.below h qb6.lt).cell 0 _ rfl, (qb6.below h qb6.lt).cell 1 _ rfl, (qo.below h qo.lt).cell 0 _ rfl, (qo.below h qo.lt).cell 1 _ rfl, (qx.below h qx.lt).cell 0 _ rfl, (qx.below h qx.lt).cell 1 _ rfl,
          (qy.below h qy.lt).cell 0 _ rfl, (qy.below h qy.lt).cell 1 _ rfl⟩
      clear qa6 qb6 qo qx qy
      go_wp2_with fail
      refine (num_any _ 0 (by decide) (by decide)).mono ?_
      rintro e v1 ⟨rfl, hv1⟩
      obtain ⟨c0, c1, c2, c3, c4, c5, c6, c7, c8, c9⟩ := HCELLS.out _ hv1
      go_wp2_with fail
      refine (HMO.out _ _ _ (hRo6.below hv1)).mono ?_
      rintro e v2 ⟨rfl, hv2⟩
      replace hv2 := held_step hv1 hv2
      clear c0 c1 c2 c3 c4 c5 c6 c7 c8 c9 hv1
      obtain ⟨c0, c1, c2, c3, c4, c5, c6, c7, c8, c9⟩ := HCELLS.out _ hv2
      go_wp2_with fail
      refine (HMX.out _ _ _ (hRx6.below hv2)).mono ?_
      rintro e v3 ⟨rfl, hv3⟩
      replace hv3 := held_step hv2 hv3
      clear c0 c1 c2 c3 c4 c5 c6 c7 c8 c9 hv2
      obtain ⟨c0, c1, c2, c3, c4, c5, c6, c7, c8, c9⟩ := HCELLS.out _ hv3
      go_wp2_with fail
      refine (HMY.out _ _ _ (hRy6.below hv3)).mono ?_
      rintro e v4 ⟨rfl, hv4⟩
      replace hv4 := held_step hv3 hv4
      clear c0 c1 c2 c3 c4 c5 c6 c7 c8 c9 hv3
      obtain ⟨c0, c1, c2, c3, c4, c5, c6, c7, c8, c9⟩ := HCELLS.out _ hv4
      go_upto_region 7 with fail
      clear c0 c1 c2 c3 c4 c5 c6 c7 c8 c9
      go_wp2_with fail
      go_loopg [11] A.length (fun G c wr => ∃ k : Nat, k ≤ A.length ∧ G = A.length - k ∧ c = .int .i64 k ∧ Below W.heap.size W wr)
      case atStart => exact ⟨0, Nat.zero_le _, rfl, rfl, hv4⟩
      case round =>
        clear hv4
        obtain ⟨k, hk, rfl, rfl, hbel⟩ := hrel
        obtain ⟨c0, c1, c2, c3, c4, c5, c6, c7, c8, c9⟩ := HCELLS.out _ hbel
        have hk0 : (0 : Int) ≤ (k : Int) := Int.natCast_nonneg _
        by_cases hlt : k < A.length
        · -- <<
          have hk1 : (k : Int) < (A.length : Int) := by omega
          have hk2 : (k : Int) < (B.length : Int) := by have := HG1.out; omega
          have h1 := HONE.out k hlt
          obtain ⟨ba, oa, rfl, _, hba, hca⟩ := (hRa6.below hbel).at k hlt
          obtain ⟨bb, ob, rfl, _, hbb, hcb⟩ := (hRb6.below hbel).at k (by have := HG1.out; omega)
          obtain ⟨bo, oo, rfl, _, hbo, hco⟩ := (hRo6.below hbel).at k (by have := HL1.out; omega)
          generalize A.getD k 0 = x at *
          generalize B.getD k 0 = y at *
          generalize os.getD k 0 = z at *
          obtain ⟨ux, uy, e1, e2, e3, e4⟩ := h1
          by_cases hx : x ≥ 0
          · obtain ⟨p, rfl⟩ := Int.eq_ofNat_of_zero_le hx
            have hp : p < na := by omega
            obtain ⟨bt, ot, rfl, _, hbt, hct⟩ := (hRx6.below hbel).at p (by have := HL2.out; omega)
            have hp0 : (0 : Int) ≤ (p : Int) := Int.natCast_nonneg _
            by_cases hy : y ≥ 0
            · obtain ⟨q, rfl⟩ := Int.eq_ofNat_of_zero_le hy
              have hq : q < nb := by omega
              obtain ⟨bu, ou, rfl, _, hbu, hcu⟩ := (hRy6.below hbel).at q (by have := HL3.out; omega)
              have hq0 : (0 : Int) ≤ (q : Int) := Int.natCast_nonneg _
              obtain ⟨z0, z1, z2⟩ := e1 hx hy
              simp only [Int.toNat_natCast] at z1 z2
              rw [z1] at hct
              rw [z2] at hcu
              clear e1 e2 e3 e4 z1 z2 hba hbb hbo hbt hbu
              have hz : z ≥ 0 := z0
              have dz : decide ((0 : Int) ≤ z) = true := by simpa using z0
              clear z0
              go_wp2_with fail
              try simp only [app_cons, app_nil]
              refine wp_region_quiet_lit (by kernel_rfl) lex11 ?_
              repeat (go_big_quiet_step (fail))
              refine wpQuiet_nil ?_
              intro w' hw'
              obtain ⟨nq, hw2⟩ := hw'
              subst hw2
              go_wp2
              go_roundg (A.length - (k + 1))
              case measure => omega
              case rel => exact ⟨k + 1, by omega, rfl, by go_num, by first | exact hbel | exact below_drewN hbel _⟩
            · obtain ⟨z0, z1⟩ := e2 hx (by omega)
              simp only [Int.toNat_natCast] at z1
              generalize ts.getD p 0 = t at *
              have dy : decide ((0 : Int) ≤ y) = false := by simp; omega
              have dz : decide ((0 : Int) ≤ z) = false := by simp; omega
              have dt : decide ((0 : Int) ≤ t) = false := by simp; omega
              clear e1 e2 e3 e4 hba hbb hbo hbt
              go_wp2_with fail
              try simp only [app_cons, app_nil]
              refine wp_region_quiet_lit (by kernel_rfl) lex11 ?_
              repeat (go_big_quiet_step (fail))
              refine wpQuiet_nil ?_
              intro w' hw'
              obtain ⟨nq, hw2⟩ := hw'
              subst hw2
              go_wp2
              go_roundg (A.length - (k + 1))
              case measure => omega
              case rel => exact ⟨k + 1, by omega, rfl, by go_num, by first | exact hbel | exact below_drewN hbel _⟩
          · have hx' : x < 0 := by omega
            have dx : decide ((0 : Int) ≤ x) = false := by simp; omega
            by_cases hy : y ≥ 0
            · obtain ⟨q, rfl⟩ := Int.eq_ofNat_of_zero_le hy
              have hq : q < nb := by omega
              obtain ⟨bu, ou, rfl, _, hbu, hcu⟩ := (hRy6.below hbel).at q (by have := HL3.out; omega)
              have hq0 : (0 : Int) ≤ (q : Int) := Int.natCast_nonneg _
              obtain ⟨z0, z1⟩ := e3 hx' hy
              simp only [Int.toNat_natCast] at z1
              generalize us.getD q 0 = t at *
              have dz : decide ((0 : Int) ≤ z) = false := by simp; omega
              have dt : decide ((0 : Int) ≤ t) = false := by simp; omega
              clear e1 e2 e3 e4 hba hbb hbo hbu
              go_wp2_with fail
              try simp only [app_cons, app_nil]
              refine wp_region_quiet_lit (by kernel_rfl) lex11 ?_
              repeat (go_big_quiet_step (fail))
              refine wpQuiet_nil ?_
              intro w' hw'
              obtain ⟨nq, hw2⟩ := hw'
              subst hw2
              go_wp2
              go_roundg (A.length - (k + 1))
              case measure => omega
              case rel => exact ⟨k + 1, by omega, rfl, by go_num, by first | exact hbel | exact below_drewN hbel _⟩
            · have z0 := e4 hx' (by omega)
              have dy : decide ((0 : Int) ≤ y) = false := by simp; omega
              have dz : decide ((0 : Int) ≤ z) = false := by simp; omega
              clear e1 e2 e3 e4 hba hbb hbo
              go_wp2_with fail
              try simp only [app_cons, app_nil]
              refine wp_region_quiet_lit (by kernel_rfl) lex11 ?_
              repeat (go_big_quiet_step (fail))
              refine wpQuiet_nil ?_
              intro w' hw'
              obtain ⟨nq, hw2⟩ := hw'
              subst hw2
              go_wp2
              go_roundg (A.length - (k + 1))
              case measure => omega
              case rel => exact ⟨k + 1, by omega, rfl, by go_num, by first | exact hbel | exact below_drewN hbel _⟩
          -- >>
        · have hke : ¬ (k : Int) < (A.length : Int) := by omega
          go_upto_region 13 with fail
          clear hk0 hke hk c0 c1 c2 c3 c4 c5 c6 c7 c8 c9
          generalize wr = v5 at *
          have hrule : Hid (∀ (w0 w1 : World), Below w0.heap.size w0 w1 → ∀ b j, b < w0.heap.size → w1.cell? ⟨b, j, none⟩ = w0.cell? ⟨b, j, none⟩ ∧ w1.frozen? ⟨b, j, none⟩ = w0.frozen? ⟨b, j, none⟩) := fun w0 w1 h b j hb => ⟨h.cell (p := ⟨b, j, none⟩) hb, World.frozen?_of_block (w := w0) (w' := w1) (a := ⟨b, j, none⟩) (h.block b hb)⟩
          have hd : Below W.heap.size W v5.drew := hbel.drew
          have hds : W.heap.size ≤ v5.heap.size := hbel.size
          have HK : Hid (∀ w', Below W.heap.size W w' → Below W.heap.size W w' ∧ w'.cell? ⟨po + 1, 0, none⟩ = some (.slice ax na cx) ∧ w'.cell? ⟨po + 1, 1, none⟩ = some (.int .i64 m) ∧ w'.cell? ⟨po + 1 + 1, 0, none⟩ = some (.slice ay nb cy) ∧ w'.cell? ⟨po + 1 + 1, 1, none⟩ = some (.int .i64 m)) := fun w' h => ⟨h, (HCELLS.out _ h).2.2.2.2.2.2⟩
          go_cut [13, 14] from 400 (fun s13 s14 wx => ∃ P Q ap cp aq cq, s13 = .pointer (some ⟨P, 0, none⟩) ∧ s14 = .pointer (some ⟨Q, 0, none⟩) ∧ Row 0 wx ap ps ∧ Row 0 wx aq qs ∧ Blk wx P [.slice ap m cp, .int .i64 na] 26 ∧ Blk wx Q [.slice aq m cq, .int .i64 nb] 26 ∧ Below W.heap.size W wx)
          case first =>
            go_region_held3 (fun w' => Below W.heap.size W w' ∧ w'.cell? ⟨po + 1, 0, none⟩ = some (.slice ax na cx) ∧ w'.cell? ⟨po + 1, 1, none⟩ = some (.int .i64 m) ∧ w'.cell? ⟨po + 1 + 1, 0, none⟩ = some (.slice ay nb cy) ∧ w'.cell? ⟨po + 1 + 1, 1, none⟩ = some (.int .i64 m))
              (((refine HK.out _ ?_); (repeat (first
                 | with_reducible exact hc8
                 | with_reducible exact hc7
                 | with_reducible exact hd
                 | with_reducible exact hbel
                 | with_reducible refine Below.drew ?_
                 | with_reducible refine bel_alloc ?_ _
                 | (with_reducible refine bel_set ?_ _ (by show W.heap.size ≤ _; simp; omega) _)))))
              (first
                | (go_at_call 30; have hnow : Below W.heap.size W _ := (by go_split_ands; assumption); (with_reducible refine (HBX.out _ _ _ (hRx6.below hnow)).mono ?_); rintro e w7 ⟨ap, cp, lo7, rfl, hlo7, hRp, hb7⟩; have hc7 := held_step hnow hb7; have hs7 := hc7.size; have z7 : lo7 ≤ w7.heap.size := (by rw [hlo7]; exact hb7.size)
                   (first | (have f7a : v5.heap.size < lo7 := (by rw [hlo7]; first | exact asz1 _ _ | exact asz3 _ _ _)) | skip)
                   (first | (have f7b : v5.heap.size + 1 < lo7 := (by rw [hlo7]; exact asz2 _ _ _)) | skip)
                   clear hlo7
                   (first | (have q7a : Blk w7 v5.heap.size [.slice none 0 0, .int .i64 0] 26 := (by first | exact (Blk.made rfl _ _).below hb7 (asz1 _ _) | exact ((Blk.made rfl _ _).alloc _).below hb7 (asz3 _ _ _) | exact (Blk.drew (Blk.made rfl _ _)).below hb7 (asz1 _ _) | exact (Blk.drew ((Blk.made rfl _ _).alloc _)).below hb7 (asz3 _ _ _))) | skip)
                   (first | (have q7b : Blk w7 (v5.heap.size + 1) [.slice none 0 0, .int .i64 0] 26 := (by first | exact (Blk.made (asz _ _) _ _).below hb7 (asz2 _ _ _) | exact (Blk.drew (Blk.made (asz _ _) _ _)).below hb7 (asz2 _ _ _))) | skip)
                   (first | (have n7a : v5.heap.size ≠ w7.heap.size := Nat.ne_of_lt q7a.lt) | skip)
                   (first | (have n7b : v5.heap.size + 1 ≠ w7.heap.size := Nat.ne_of_lt q7b.lt) | skip)
                   (first | (have u7a0 := fun o => (q7a.alloc o).cell 0 _ rfl) | skip)
                   (first | (have v7a0 := fun o => (q7a.alloc o).free 0) | skip)
                   (first | (have u7a1 := fun o => (q7a.alloc o).cell 1 _ rfl) | skip)
                   (first | (have v7a1 := fun o => (q7a.alloc o).free 1) | skip)
                   (first | (have k7a := q7a.cell 0 _ rfl) | skip)
                   (first | (have k7b := q7a.cell 1 _ rfl) | skip)
                   (first | (have k7c := q7a.free 0) | skip)
                   (first | (have k7d := q7a.free 1) | skip)
                   (first | (have k7e := q7b.cell 0 _ rfl) | skip)
                   (first | (have k7f := q7b.cell 1 _ rfl) | skip)
                   (first | (have k7g := q7b.free 0) | skip)
                   (first | (have k7h := q7b.free 1) | skip))
                | (go_at_call 30; have hnow : Below W.heap.size W _ := (by go_split_ands; assumption); (with_reducible refine (HBY.out _ _ _ (hRy6.below hnow)).mono ?_); rintro e w8 ⟨aq, cq, lo8, rfl, hlo8, hRq, hb8⟩; have hc8 := held_step hnow hb8; have hs8 := hc8.size; have z8 : lo8 ≤ w8.heap.size := (by rw [hlo8]; exact hb8.size)
                   have y8 : w7.heap.size ≤ lo8 := (by rw [hlo8]; first | exact Nat.le_refl _ | exact Nat.le_of_lt (asz1 _ _) | exact Nat.le_of_lt (asz3 _ _ _))
                   (first | (have f8c : w7.heap.size < lo8 := (by rw [hlo8]; first | exact asz1 _ _ | exact asz3 _ _ _)) | skip)
                   (first | (have f8d : w7.heap.size + 1 < lo8 := (by rw [hlo8]; exact asz2 _ _ _)) | skip)
                   have hRp8 : RowIn lo7 w7.heap.size w8 ap ps := (by first | exact hRp.below hb8 (Nat.le_refl _) | exact (hRp.alloc _).below hb8 (Nat.le_of_lt (asz1 _ _)) | exact ((hRp.alloc _).alloc _).below hb8 (Nat.le_of_lt (asz3 _ _ _)))
                   clear hlo8
                   (first | (have q8a : Blk w8 v5.heap.size [.slice none 0 0, .int .i64 0] 26 := (by first | exact q7a.below hb8 q7a.lt | exact (q7a.alloc _).below hb8 (q7a.alloc _).lt | exact ((q7a.alloc _).alloc _).below hb8 ((q7a.alloc _).alloc _).lt)) | skip)
                   (first | (have q8b : Blk w8 (v5.heap.size + 1) [.slice none 0 0, .int .i64 0] 26 := (by exact q7b.below hb8 q7b.lt)) | skip)
                   (first | (have q8c : Blk w8 w7.heap.size [.slice none 0 0, .int .i64 0] 26 := (by first | exact (Blk.made rfl _ _).below hb8 (asz1 _ _) | exact ((Blk.made rfl _ _).alloc _).below hb8 (asz3 _ _ _))) | skip)
                   (first | (have q8d : Blk w8 (w7.heap.size + 1) [.slice none 0 0, .int .i64 0] 26 := (by exact (Blk.made (asz _ _) _ _).below hb8 (asz2 _ _ _))) | skip)
                   (first | (have n8a : v5.heap.size ≠ w8.heap.size := Nat.ne_of_lt q8a.lt) | skip)
                   (first | (have n8b : v5.heap.size + 1 ≠ w8.heap.size := Nat.ne_of_lt q8b.lt) | skip)
                   (first | (have n8c : w7.heap.size ≠ w8.heap.size := Nat.ne_of_lt q8c.lt) | skip)
                   (first | (have n8d : w7.heap.size + 1 ≠ w8.heap.size := Nat.ne_of_lt q8d.lt) | skip)
                   (first | (have u8a0 := fun o => (q8a.alloc o).cell 0 _ rfl) | skip)
                   (first | (have v8a0 := fun o => (q8a.alloc o).free 0) | skip)
                   (first | (have u8a1 := fun o => (q8a.alloc o).cell 1 _ rfl) | skip)
                   (first | (have v8a1 := fun o => (q8a.alloc o).free 1) | skip)
                   (first | (have u8c0 := fun o => (q8c.alloc o).cell 0 _ rfl) | skip)
                   (first | (have v8c0 := fun o => (q8c.alloc o).free 0) | skip)
                   (first | (have u8c1 := fun o => (q8c.alloc o).cell 1 _ rfl) | skip)
                   (first | (have v8c1 := fun o => (q8c.alloc o).free 1) | skip)
                   (first | (have k8a := q8a.cell 0 _ rfl) | skip)
                   (first | (have k8b := q8a.cell 1 _ rfl) | skip)
                   (first | (have k8c := q8a.free 0) | skip)
                   (first | (have k8d := q8a.free 1) | skip)
                   (first | (have k8e := q8b.cell 0 _ rfl) | skip)
                   (first | (have k8f := q8b.cell 1 _ rfl) | skip)
                   (first | (have k8g := q8b.free 0) | skip)
                   (first | (have k8h := q8b.free 1) | skip)
                   (first | (have k8i := q8c.cell 0 _ rfl) | skip)
                   (first | (have k8j := q8c.cell 1 _ rfl) | skip)
                   (first | (have k8k := q8c.free 0) | skip)
                   (first | (have k8l := q8c.free 1) | skip)
                   (first | (have k8m := q8d.cell 0 _ rfl) | skip)
                   (first | (have k8n := q8d.cell 1 _ rfl) | skip)
                   (first | (have k8o := q8d.free 0) | skip)
                   (first | (have ga7 : v5.heap.size < lo7 ∨ w7.heap.size ≤ v5.heap.size := .inl f7a) | skip)
                   (first | (have ga8 : v5.heap.size < lo8 ∨ w8.heap.size ≤ v5.heap.size := .inl (Nat.lt_of_lt_of_le f7a (Nat.le_trans z7 y8))) | skip)
                   (first | (have gb7 : v5.heap.size + 1 < lo7 ∨ w7.heap.size ≤ v5.heap.size + 1 := .inl f7b) | skip)
                   (first | (have gb8 : v5.heap.size + 1 < lo8 ∨ w8.heap.size ≤ v5.heap.size + 1 := .inl (Nat.lt_of_lt_of_le f7b (Nat.le_trans z7 y8))) | skip)
                   (first | (have gc7 : w7.heap.size < lo7 ∨ w7.heap.size ≤ w7.heap.size := .inr (Nat.le_refl _)) | skip)
                   (first | (have gc8 : w7.heap.size < lo8 ∨ w8.heap.size ≤ w7.heap.size := .inl f8c) | skip)
                   (first | (have gd7 : w7.heap.size + 1 < lo7 ∨ w7.heap.size ≤ w7.heap.size + 1 := .inr (Nat.le_succ _)) | skip)
                   (first | (have gd8 : w7.heap.size + 1 < lo8 ∨ w8.heap.size ≤ w7.heap.size + 1 := .inl f8d) | skip)
                   (first | (have ge7 : w8.heap.size < lo7 ∨ w7.heap.size ≤ w8.heap.size := .inr (Nat.le_trans y8 z8)) | skip)
                   (first | (have ge8 : w8.heap.size < lo8 ∨ w8.heap.size ≤ w8.heap.size := .inr (Nat.le_refl _)) | skip)
                   (first | (have gw5 : W.heap.size ≤ v5.heap.size + 1 := Nat.le_succ_of_le hds) | skip)
                   (first | (have gw7 : W.heap.size ≤ w7.heap.size + 1 := Nat.le_succ_of_le hs7) | skip)
                   (first | (have gn0 : v5.heap.size ≠ v5.heap.size + 1 := Nat.ne_of_lt (Nat.lt_succ_self _)) | skip)
                   (first | (have gn1 : v5.heap.size + 1 ≠ v5.heap.size := Ne.symm gn0) | skip)
                   (first | (have gn2 : w7.heap.size ≠ w7.heap.size + 1 := Nat.ne_of_lt (Nat.lt_succ_self _)) | skip)
                   (first | (have gn3 : w7.heap.size + 1 ≠ w7.heap.size := Ne.symm gn2) | skip)
                   (first | (have gn4 : w7.heap.size ≠ v5.heap.size := Ne.symm n7a) | skip)
                   (first | (have k8p := q8d.free 1) | skip)))
            all_goals go_wp2_with fail
            all_goals go_meet
            all_goals refine ⟨_, _, ap, cp, aq, cq, rfl, rfl, ?_, ?_, ?_, ?_, ?_⟩
            all_goals first
              | (with_reducible refine RowIn.row (lo := lo7) (hi := w7.heap.size) ?_
                 repeat (first
                   | with_reducible exact hRp8
                   | (with_reducible refine RowIn.set ?_ (by first | assumption | (dsimp only; first | exact .inr (Nat.le_refl _) | exact .inr (Nat.le_succ _) | omega)) _)
                   | with_reducible refine RowIn.alloc ?_ _)
                 done)
              | (with_reducible refine RowIn.row (lo := lo8) (hi := w8.heap.size) ?_
                 repeat (first
                   | with_reducible exact hRq
                   | (with_reducible refine RowIn.set ?_ (by first | assumption | (dsimp only; first | exact .inr (Nat.le_refl _) | exact .inr (Nat.le_succ _) | omega)) _)
                   | with_reducible refine RowIn.alloc ?_ _)
                 done)
              | (repeat (first
                   | with_reducible exact hc8
                   | (with_reducible refine bel_set ?_ _ (by first | assumption | (dsimp only; omega)) _)
                   | with_reducible refine bel_alloc ?_ _)
                 done)
              | (repeat (first
                   | with_reducible exact q8a
                   | with_reducible exact q8b
                   | with_reducible exact q8c
                   | with_reducible exact q8d
                   | with_reducible exact Blk.made rfl _ _
                   | with_reducible exact Blk.made (asz _ _) _ _
                   | with_reducible apply blk_s1
                   | with_reducible apply blk_s0
                   | (with_reducible refine Blk.set_other ?_ (by first | assumption | (dsimp only; first | assumption | omega)) _)
                   | with_reducible refine Blk.alloc ?_ _)
                 done)
          case rest =>
            obtain ⟨P, Q, ap, cp, aq, cq, rfl, rfl, hRp, hRq, qP, qQ, hb6⟩ := hcut
            clear hd hds HK hrule hbel
            obtain ⟨c0, c1, c2, c3, c4, c5, c6, c7, c8, c9⟩ := HCELLS.out _ hb6
            go_upto_region 15 with (go_at_call 30; refine (HBO.out _ _ _ (hRo6.below hb6)).mono ?_; rintro e w9 ⟨ar, cr, lo9, rfl, hlo9, hRr, hb9⟩)
            clear hlo9 c0 c1 c2 c3 c4 c5 c6 c7 c8 c9
            have hbx := hb9.alloc hb9.size (.cells #[.slice ar m cr, .int .i64 A.length] 26)
            have hb10 := hb6.trans (hbx.mono hb6.size)
            have hRp10 := hRp.below hbx
            have hRq10 := hRq.below hbx
            have hRr10 := hRr.row.alloc (.cells #[.slice ar m cr, .int .i64 A.length] 26)
            have qP10 := qP.below hbx qP.lt
            have qQ10 := qQ.below hbx qQ.lt
            have qR10 : Blk (w9.alloc (.cells #[.slice ar m cr, .int .i64 A.length] 26)) w9.heap.size [.slice ar m cr, .int .i64 A.length] 26 := Blk.made rfl [_, _] 26
            clear hRp hRq hRr qP qQ hb6 hb9 hbx
            generalize w9.alloc (.cells #[.slice ar m cr, .int .i64 A.length] 26) = w10 at *
            generalize w9.heap.size = R at *
            obtain ⟨c0, c1, c2, c3, c4, c5, c6, c7, c8, c9⟩ := HCELLS.out _ hb10
            have p0 := qP10.cell 0 _ rfl
            have q0 := qQ10.cell 0 _ rfl
            have r0 := qR10.cell 0 _ rfl
            go_wp2_with fail
            go_loopg [16] m (fun G c wr => ∃ k : Nat, k ≤ m ∧ G = m - k ∧ c = .int .i64 k ∧ w10 = wr)
            case atStart => exact ⟨0, Nat.zero_le _, rfl, rfl, rfl⟩
            case round =>
              obtain ⟨k, hk, rfl, rfl, rfl⟩ := hrel
              have hk0 : (0 : Int) ≤ (k : Int) := Int.natCast_nonneg _
              by_cases hlt : k < m
              · have hk1 : (k : Int) < (m : Int) := by omega
                have h1 := HONB.out k hlt
                obtain ⟨bp, op, rfl, _, _, hcp⟩ := hRp10.at k (by have := HBL1.out; omega)
                obtain ⟨bq, oq, rfl, _, _, hcq⟩ := hRq10.at k (by have := HBL2.out; omega)
                obtain ⟨br, or, rfl, _, _, hcr⟩ := hRr10.at k (by have := HBL3.out; omega)
                generalize ps.getD k 0 = x at *
                generalize qs.getD k 0 = y at *
                generalize rs.getD k 0 = z at *
                obtain ⟨e1, e2⟩ := h1
                by_cases hx : x < 0
                · have hy : ¬ y < 0 := by omega
                  have hx' : ¬ x ≥ 0 := by omega
                  clear e1 e2
                  go_wp2_with fail
                  go_roundg (m - (k + 1))
                  case measure => omega
                  case rel => exact ⟨k + 1, by omega, rfl, by go_num, rfl⟩
                · by_cases hy : y < 0
                  · have hy' : ¬ y ≥ 0 := by omega
                    have hx' : x ≥ 0 := by omega
                    clear e1 e2
                    go_wp2_with fail
                    go_roundg (m - (k + 1))
                    case measure => omega
                    case rel => exact ⟨k + 1, by omega, rfl, by go_num, rfl⟩
                  · have hy' : y ≥ 0 := by omega
                    have hx' : x ≥ 0 := by omega
                    have hz : ¬ z < 0 := by have := e2 hx' hy'; omega
                    clear e1 e2
                    go_wp2_with fail
                    go_roundg (m - (k + 1))
                    case measure => omega
                    case rel => exact ⟨k + 1, by omega, rfl, by go_num, rfl⟩
              · have hk1 : ¬ (k : Int) < (m : Int) := by omega
                clear hlt
                go_wp2_with fail
                go_loopg [17, 18] A.length (fun G n c wr => ∃ k t : Nat, k ≤ A.length ∧ G = A.length - k ∧ n = .int .i64 t ∧ c = .int .i64 k ∧ cnt (fun i => both A B i) k = t ∧ w10 = wr)
                case atStart => exact ⟨0, 0, Nat.zero_le _, rfl, rfl, rfl, rfl, rfl⟩
                case round =>
                  obtain ⟨k, t, hk, rfl, rfl, rfl, ht, rfl⟩ := hrel
                  have hk0 : (0 : Int) ≤ (k : Int) := Int.natCast_nonneg _
                  have ht0 : (0 : Int) ≤ (t : Int) := Int.natCast_nonneg _
                  have htk : t ≤ k := by rw [← ht]; exact HC3.out k
                  by_cases hlt : k < A.length
                  · have hk1 : (k : Int) < (A.length : Int) := by omega
                    have hk2 : (k : Int) < (B.length : Int) := by have := HG1.out; omega
                    have h1 := HCB.out k
                    rw [ht] at h1
                    obtain ⟨ba, oa, rfl, _, _, hca⟩ := (hRa6.below hb10).at k hlt
                    obtain ⟨bb, ob, rfl, _, _, hcb⟩ := (hRb6.below hb10).at k (by have := HG1.out; omega)
                    generalize A.getD k 0 = x at *
                    generalize B.getD k 0 = y at *
                    by_cases hxy : 0 ≤ x ∧ 0 ≤ y
                    · have hx : x ≥ 0 := hxy.1
                      have hy : y ≥ 0 := hxy.2
                      rw [if_pos hxy] at h1
                      have H1 := Lib.hid h1
                      clear hxy h1 ht
                      go_wp2_with fail
                      go_roundg (A.length - (k + 1))
                      case measure => omega
                      case rel => exact ⟨k + 1, t + 1, by omega, rfl, by go_num, by go_num, H1.out, rfl⟩
                    · rw [if_neg hxy] at h1
                      have H1 := Lib.hid h1
                      by_cases hx : x ≥ 0
                      · have hy : ¬ y ≥ 0 := fun h => hxy ⟨hx, h⟩
                        clear hxy h1 ht
                        go_wp2_with fail
                        go_roundg (A.length - (k + 1))
                        case measure => omega
                        case rel => exact ⟨k + 1, t, by omega, rfl, rfl, by go_num, H1.out, rfl⟩
                      · clear hxy h1 ht
                        go_wp2_with fail
                        go_roundg (A.length - (k + 1))
                        case measure => omega
                        case rel => exact ⟨k + 1, t, by omega, rfl, rfl, by go_num, H1.out, rfl⟩
                  · have hk1 : ¬ (k : Int) < (A.length : Int) := by omega
                    have e : k = A.length := by omega
                    rw [e] at ht
                    have hnum := HNUM.out
                    have hka := HCA.out
                    have hkb := HCC.out
                    rw [ht] at hnum
                    have HS1 := Lib.hid (show (-1000 : Int) ≤ (na : Int) - kA ∧ (na : Int) - kA ≤ 2000000 by omega)
                    have HS2 := Lib.hid (show (m : Int) = (t : Int) + ((na : Int) - kA) + ((nb : Int) - kB) by omega)
                    clear hnum hka hkb e ht
                    generalize (na : Int) - kA = oa at *
                    generalize (nb : Int) - kB = ob at *
                    have hw1 : IntKind.i64.wrap ((t : Int) + oa) = (t : Int) + oa := by
                      have := HS1.out; rw [IntKind.wrap_i64]; omega
                    have hw2 : IntKind.i64.wrap ((t : Int) + oa + ob) = (m : Int) := by
                      have := HS2.out; rw [IntKind.wrap_i64]; omega
                    have hw3 : ((m : Int) == IntKind.i64.wrap (IntKind.i64.wrap ((t : Int) + oa) + ob)) = true := by rw [hw1, hw2]; simp
                    go_upto_region 28 with fail
                    have hd10 : Below W.heap.size W w10.drew := hb10.drew
                    have HK : Hid (∀ w', Below W.heap.size W w' → Below W.heap.size W w' ∧ w'.cell? ⟨pa, 0, none⟩ = some (.slice aa A.length ca) ∧ w'.cell? ⟨pa, 1, none⟩ = some (.int .i64 na) ∧ w'.cell? ⟨pa + 1, 0, none⟩ = some (.slice ab B.length cb) ∧ w'.cell? ⟨pa + 1, 1, none⟩ = some (.int .i64 nb) ∧ w'.cell? ⟨po, 1, none⟩ = some (.int .i64 m)) := fun w' h => by
                      obtain ⟨d0, d1, d2, d3, d4, d5, _⟩ := HCELLS.out _ h
                      exact ⟨h, d0, d1, d2, d3, d5⟩
                    clear c0 c1 c2 c3 c4 c5 c6 c7 c8 c9 p0 q0 r0
                    go_region_held3 (fun w' => Below W.heap.size W w' ∧ w'.cell? ⟨pa, 0, none⟩ = some (.slice aa A.length ca) ∧ w'.cell? ⟨pa, 1, none⟩ = some (.int .i64 na) ∧ w'.cell? ⟨pa + 1, 0, none⟩ = some (.slice ab B.length cb) ∧ w'.cell? ⟨pa + 1, 1, none⟩ = some (.int .i64 nb) ∧ w'.cell? ⟨po, 1, none⟩ = some (.int .i64 m))
                      (((refine HK.out _ ?_); (first
                         | with_reducible exact hcn
                         | with_reducible exact hcb
                         | with_reducible exact hca
                         | with_reducible exact hd10
                         | with_reducible exact hb10)))
                      (first
                        | (go_at_call 31; have hnow : Below W.heap.size W _ := (by go_split_ands; assumption); (with_reducible refine (HOA.out _ _ _ (hRa6.below hnow)).mono ?_); rintro e wa ⟨rfl, hba⟩; have hca := held_step hnow hba)
                        | (go_at_call 31; have hnow : Below W.heap.size W _ := (by go_split_ands; assumption); (with_reducible refine (HOB.out _ _ _ (hRb6.below hnow)).mono ?_); rintro e wb ⟨rfl, hbb⟩; have hcb := held_step hnow hbb)
                        | (go_at_call 24; have hnow : Below W.heap.size W _ := (by go_split_ands; assumption); (with_reducible refine (awake19 _).mono ?_); rintro e wn ⟨rfl, hbn⟩; have hcn := held_step hnow hbn))
                    all_goals go_wp2
                    all_goals go_ret
                    all_goals exact ⟨rfl, t6.trans (hcn.mono t6.size)⟩

end Go.Proofs.Ytdccpnaolcpohaa
