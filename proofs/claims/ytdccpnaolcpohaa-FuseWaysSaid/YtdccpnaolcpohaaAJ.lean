/- The walk of the law FuseOne. -/
import Derived.Test.YtdccpnaolcpohaaAE
import Derived.Deep.DeepCutAuto
namespace Go.Proofs.Ytdccpnaolcpohaa
open Go.RowKit

/-- Three maps and no error. -/
def Ret3 (w : World) (xs ys zs : List Int) (l m k n : Nat) (e : Ending) (w' : World) : Prop :=
  ∃ ao aa ab co ca cb, e = .returned (.tuple #[.agg #[.slice ao l co, .int .i64 n], .agg #[.slice aa m ca, .int .i64 n], .agg #[.slice ab k cb, .int .i64 n], .int .i64 0]) ∧ Row 0 w' ao xs ∧ Row 0 w' aa ys ∧ Row 0 w' ab zs ∧ Below w.heap.size w w'
theorem RetFuse.three {w : World} {s : FS} {e : Ending} {w' : World} (h : RetFuse w s e w') {l m k : Nat} (h1 : s.o.length = l) (h2 : s.ta.length = m) (h3 : s.tb.length = k) : Ret3 w s.o s.ta s.tb l m k s.now e w' := by
  subst h1 h2 h3; exact h

/-- A struct of a map laid into a block of its own. -/
theorem lay26 {w0 w : World} (h : Below w0.heap.size w0 w) (a : Option Addr) (l c : Nat) (n : Int) :
    Blk (w.alloc (.cells #[.slice a l c, .int .i64 n] 26)) w.heap.size [.slice a l c, .int .i64 n] 26 ∧ Below w0.heap.size w0 (w.alloc (.cells #[.slice a l c, .int .i64 n] 26)) ∧ Below w.heap.size w (w.alloc (.cells #[.slice a l c, .int .i64 n] 26)) :=
  ⟨Blk.made rfl _ _, h.alloc h.size _, (Below.refl _ _).alloc (Nat.le_refl _) _⟩

/-- Three of them. -/
theorem lay3 {w0 w : World} (h : Below w0.heap.size w0 w) (u1 u2 u3 : List Value) :
    Blk (((w.alloc (.cells u1.toArray 26)).alloc (.cells u2.toArray 26)).alloc (.cells u3.toArray 26)) w.heap.size u1 26 ∧
    Blk (((w.alloc (.cells u1.toArray 26)).alloc (.cells u2.toArray 26)).alloc (.cells u3.toArray 26)) (w.heap.size + 1) u2 26 ∧
    Blk (((w.alloc (.cells u1.toArray 26)).alloc (.cells u2.toArray 26)).alloc (.cells u3.toArray 26)) (w.heap.size + 1 + 1) u3 26 ∧
    Below w0.heap.size w0 (((w.alloc (.cells u1.toArray 26)).alloc (.cells u2.toArray 26)).alloc (.cells u3.toArray 26)) ∧
    Below w.heap.size w (((w.alloc (.cells u1.toArray 26)).alloc (.cells u2.toArray 26)).alloc (.cells u3.toArray 26)) := by
  have hs := h.size
  exact ⟨((Blk.made rfl _ _).alloc _).alloc _, (Blk.made (by simp) _ _).alloc _, Blk.made (by simp) _ _,
    ((h.alloc hs _).alloc (by simp <;> omega) _).alloc (by simp <;> omega) _, (((Below.refl _ _).alloc (Nat.le_refl _) _).alloc (by simp) _).alloc (by simp <;> omega) _⟩

set_option maxRecDepth 100000 in
set_option maxHeartbeats 16000000 in
theorem fuseOne_walk (w : World) (a0 : Option Addr) (cap0 : Nat) (ns : List Int) (h0 : RowK .u8 0 w a0 ns)
    (hl0 : ns.length ≤ 9223372036854775807) (hb0 : ∀ i, 0 ≤ ns.getD i 0 ∧ ns.getD i 0 ≤ 255) :
    Calls Try.prog 10 #[.slice a0 ns.length cap0] w fun e w' => e = .returned (.bool true) ∧ Below w.heap.size w w' := by
  by_cases c0 : ns.length > 60
  · have c0' : (ns.length : Int) > 60 := by omega
    clear hb0
    go_enter Try.func10, Try.ntmps10
    go_wp2_with (go_at_call 24; refine (awake19 _).mono ?_; rintro e w1 ⟨rfl, hb⟩)
    go_ret
    exact ⟨rfl, hb⟩
  · have c0' : ¬ (ns.length : Int) > 60 := by omega
    obtain ⟨up0, np0⟩ := make_up ns (fun i => (hb0 i).1) ns.length (Nat.le_refl _)
    obtain ⟨bl0, _, bn0⟩ := make_bd ns ns.length (Nat.le_refl _)
    have M0 := Lib.hid (fun W h => make_any W a0 cap0 ns h (by omega) hb0)
    clear hb0
    generalize makeTo ns ns.length = xs at *
    generalize makeNew ns ns.length = nx at *
    obtain ⟨n, rfl⟩ := Int.eq_ofNat_of_zero_le np0
    have HR1 := Lib.hid (fun W => rsame_at W xs.length (by omega))
    have HRN := Lib.hid (fun W => rsame_at W n (by omega))
    have HF1 : Hid (∀ W a c a' c', Row 0 W a xs → Row 0 W a' (tab idx xs.length) → Calls Try.prog 25 #[.agg #[.slice a xs.length c, .int .i64 n], .agg #[.slice a' xs.length c', .int .i64 xs.length]] W (Ret3 W xs (tab idx n) xs xs.length n xs.length n)) := fun W a c a' c' h h' => by
      have := fuse_ok W a a' c c' xs (tab idx xs.length) n xs.length h h' (by omega) (by omega) (by omega) (by rw [tab_length]) up0 (idx_up _)
      rw [tab_length, fuse_one up0] at this
      exact this.mono fun e w' h => h.three rfl (tab_length _ _) rfl
    have HF2 : Hid (∀ W a c a' c', Row 0 W a (tab idx xs.length) → Row 0 W a' xs → Calls Try.prog 25 #[.agg #[.slice a xs.length c, .int .i64 xs.length], .agg #[.slice a' xs.length c', .int .i64 n]] W (Ret3 W xs xs (tab idx n) xs.length xs.length n n)) := fun W a c a' c' h h' => by
      have := fuse_ok W a a' c c' (tab idx xs.length) xs xs.length n h h' (by rw [tab_length]; omega) (by omega) (by omega) (by rw [tab_length]) (idx_up _) up0
      rw [tab_length, fuse_one' up0] at this
      exact this.mono fun e w' h => h.three rfl rfl (tab_length _ _)
    have HSX : Hid (∀ W a c a' c', Row 0 W a xs → Row 0 W a' xs → Calls Try.prog 20 #[.agg #[.slice a xs.length c, .int .i64 n], .agg #[.slice a' xs.length c', .int .i64 n]] W fun e w' => e = .returned (.bool true) ∧ Below W.heap.size W w') := fun W a c a' c' h h' =>
      same_self W a a' c c' xs n h h' (by omega)
    have HSI : Hid (∀ W a c a' c', Row 0 W a (tab idx n) → Row 0 W a' (tab idx n) → Calls Try.prog 20 #[.agg #[.slice a n c, .int .i64 n], .agg #[.slice a' n c', .int .i64 n]] W fun e w' => e = .returned (.bool true) ∧ Below W.heap.size W w') := fun W a c a' c' h h' => by
      have := same_self W a a' c c' (tab idx n) n h h' (by rw [tab_length]; omega)
      rwa [tab_length] at this
    clear up0
    generalize tab idx xs.length = is at *
    generalize tab idx n = js at *
    have B0 : Below w.heap.size w w := Below.refl _ _
    go_enter Try.func10, Try.ntmps10
    go_wp2_with fail
    refine (M0.out _ h0).mono ?_
    rintro e w1 ⟨va, rfl, hO1, hb1⟩
    obtain ⟨aa, ca, rfl, hRa⟩ := hO1.row
    obtain ⟨qa, t2, u2⟩ := lay26 hb1 aa xs.length ca n
    have hRa2 : Row 0 _ aa xs := (hRa.below u2).from (Nat.zero_le _)
    go_wp2_with fail
    clear hO1 hRa hb1 u2 h0
    generalize w1.alloc (.cells #[.slice aa xs.length ca, .int .i64 n] 26) = w2 at *
    generalize w1.heap.size = pa at *
    refine (HR1.out _).mono ?_
    rintro e w3 ⟨a_s, cs, rfl, hRs, hb3⟩
    obtain ⟨qs, t4, u4⟩ := lay26 (held_step t2 hb3) a_s xs.length cs xs.length
    have hRs4 := hRs.below u4
    have hRa4 := (hRa2.below hb3).below u4
    have qa4 := (qa.below hb3 qa.lt).below u4 (qa.below hb3 qa.lt).lt
    go_upto_region 5 with fail
    clear hRs hRa2 qa t2 u4 hb3
    generalize w3.alloc (.cells #[.slice a_s xs.length cs, .int .i64 xs.length] 26) = w4 at *
    generalize w3.heap.size = ps at *
    have a0 := qa4.cell 0 _ rfl
    have a1 := qa4.cell 1 _ rfl
    have s0 := qs.cell 0 _ rfl
    have s1 := qs.cell 1 _ rfl
    go_wp2_with fail
    refine (HF1.out _ _ _ _ _ hRa4 hRs4).mono ?_
    rintro e w5 ⟨ao, ax, ay, co, cx, cy, rfl, hRo, hRx, hRy, hb5⟩
    clear a0 a1 s0 s1
    obtain ⟨qo, qx, qy, t6, u6⟩ := lay3 (held_step t4 hb5) [.slice ao xs.length co, .int .i64 n] [.slice ax n cx, .int .i64 n] [.slice ay xs.length cy, .int .i64 n]
    have v6 := hb5.trans (u6.mono hb5.size)
    have hRa6 := hRa4.below v6
    have hRs6 := hRs4.below v6
    have qa6 := qa4.below v6 qa4.lt
    have qs6 := qs.below v6 qs.lt
    have hRo6 := hRo.below u6
    have hRx6 := hRx.below u6
    have hRy6 := hRy.below u6
    go_upto_region 6 with fail
    clear v6 u6 t4 hb5 hRo hRx hRy qs qa4 hRa4 hRs4
    generalize ((w5.alloc (.cells #[.slice ao xs.length co, .int .i64 n] 26)).alloc (.cells #[.slice ax n cx, .int .i64 n] 26)).alloc (.cells #[.slice ay xs.length cy, .int .i64 n] 26) = w6 at *
    generalize w5.heap.size = po at *
    have a0 := qa6.cell 0 _ rfl
    have a1 := qa6.cell 1 _ rfl
    have s0 := qs6.cell 0 _ rfl
    have s1 := qs6.cell 1 _ rfl
    go_wp2_with fail
    refine (HF2.out _ _ _ _ _ hRs6 hRa6).mono ?_
    rintro e w7 ⟨ap, aq, ar, cp, cq, cr, rfl, hRp, hRq, hRr, hb7⟩
    clear a0 a1 s0 s1
    obtain ⟨qp, qq, qr, t8, u8⟩ := lay3 (held_step t6 hb7) [.slice ap xs.length cp, .int .i64 n] [.slice aq xs.length cq, .int .i64 n] [.slice ar n cr, .int .i64 n]
    have v8 := hb7.trans (u8.mono hb7.size)
    have hRa8 := hRa6.below v8
    have hRo8 := hRo6.below v8
    have hRx8 := hRx6.below v8
    have hRy8 := hRy6.below v8
    have qa8 := qa6.below v8 qa6.lt
    have qo8 := qo.below v8 qo.lt
    have qx8 := qx.below v8 qx.lt
    have qy8 := qy.below v8 qy.lt
    have hRp8 := hRp.below u8
    have hRq8 := hRq.below u8
    have hRr8 := hRr.below u8
    go_upto_region 7 with fail
    clear v8 u8 t6 hb7 hRp hRq hRr qs6 qa6 qo qx qy hRa6 hRs6 hRo6 hRx6 hRy6
    generalize ((w7.alloc (.cells #[.slice ap xs.length cp, .int .i64 n] 26)).alloc (.cells #[.slice aq xs.length cq, .int .i64 n] 26)).alloc (.cells #[.slice ar n cr, .int .i64 n] 26) = W at *
    generalize w7.heap.size = pp at *
    have HCELLS : Hid (∀ w', Below W.heap.size W w' → w'.cell? ⟨pa, 0, none⟩ = some (.slice aa xs.length ca) ∧ w'.cell? ⟨pa, 1, none⟩ = some (.int .i64 n) ∧
        w'.cell? ⟨po, 0, none⟩ = some (.slice ao xs.length co) ∧ w'.cell? ⟨po, 1, none⟩ = some (.int .i64 n) ∧
        w'.cell? ⟨po + 1, 0, none⟩ = some (.slice ax n cx) ∧ w'.cell? ⟨po + 1, 1, none⟩ = some (.int .i64 n) ∧
        w'.cell? ⟨po + 1 + 1, 0, none⟩ = some (.slice ay xs.length cy) ∧ w'.cell? ⟨po + 1 + 1, 1, none⟩ = some (.int .i64 n) ∧
        w'.cell? ⟨pp, 0, none⟩ = some (.slice ap xs.length cp) ∧ w'.cell? ⟨pp, 1, none⟩ = some (.int .i64 n) ∧
        w'.cell? ⟨pp + 1, 0, none⟩ = some (.slice aq xs.length cq) ∧ w'.cell? ⟨pp + 1, 1, none⟩ = some (.int .i64 n) ∧
        w'.cell? ⟨pp + 1 + 1, 0, none⟩ = some (.slice ar n cr) ∧ w'.cell? ⟨pp + 1 + 1, 1, none⟩ = some (.int .i64 n)) := fun w' h =>
      ⟨(qa8.below h qa8.lt).cell 0 _ rfl, (qa8.below h qa8.lt).cell 1 _ rfl, (qo8.below h qo8.lt).cell 0 _ rfl, (qo8.below h qo8.lt).cell 1 _ rfl, (qx8.below h qx8.lt).cell 0 _ rfl, (qx8.below h qx8.lt).cell 1 _ rfl,
        (qy8.below h qy8.lt).cell 0 _ rfl, (qy8.below h qy8.lt).cell 1 _ rfl, (qp.below h qp.lt).cell 0 _ rfl, (qp.below h qp.lt).cell 1 _ rfl, (qq.below h qq.lt).cell 0 _ rfl, (qq.below h qq.lt).cell 1 _ rfl, (qr.below h qr.lt).cell 0 _ rfl, (qr.below h qr.lt).cell 1 _ rfl⟩
    clear qa8 qo8 qx8 qy8 qp qq qr
    go_region_held3 (fun w' => Below W.heap.size W w' ∧ w'.cell? ⟨pa, 0, none⟩ = some (.slice aa xs.length ca) ∧ w'.cell? ⟨pa, 1, none⟩ = some (.int .i64 n) ∧
        w'.cell? ⟨po, 0, none⟩ = some (.slice ao xs.length co) ∧ w'.cell? ⟨po, 1, none⟩ = some (.int .i64 n) ∧
        w'.cell? ⟨po + 1, 0, none⟩ = some (.slice ax n cx) ∧ w'.cell? ⟨po + 1, 1, none⟩ = some (.int .i64 n) ∧
        w'.cell? ⟨po + 1 + 1, 0, none⟩ = some (.slice ay xs.length cy) ∧ w'.cell? ⟨po + 1 + 1, 1, none⟩ = some (.int .i64 n) ∧
        w'.cell? ⟨pp, 0, none⟩ = some (.slice ap xs.length cp) ∧ w'.cell? ⟨pp, 1, none⟩ = some (.int .i64 n) ∧
        w'.cell? ⟨pp + 1, 0, none⟩ = some (.slice aq xs.length cq) ∧ w'.cell? ⟨pp + 1, 1, none⟩ = some (.int .i64 n) ∧
        w'.cell? ⟨pp + 1 + 1, 0, none⟩ = some (.slice ar n cr) ∧ w'.cell? ⟨pp + 1 + 1, 1, none⟩ = some (.int .i64 n))
      (first
        | exact ⟨held_step hnow hbn, HCELLS.out _ (held_step hnow hbn)⟩
        | exact ⟨(Below.refl _ _).drew, HCELLS.out _ (Below.refl _ _).drew⟩
        | go_keep)
      (first
        | (go_at_call 27; have hnow : Below W.heap.size W _ := (by go_split_ands; assumption); (with_reducible refine (num_any _ 0 (by decide) (by decide)).mono ?_); rintro e wn ⟨rfl, hbn⟩)
        | (go_at_call 32; have hnow : Below W.heap.size W _ := (by go_split_ands; assumption); (with_reducible refine (HRN.out _).mono ?_); rintro e wn ⟨a5, c5, rfl, hR5, hbn⟩)
        | (go_at_call 20; have hnow : Below W.heap.size W _ := (by go_split_ands; assumption); (with_reducible refine (HSX.out _ _ _ _ _ (hRo8.below hnow) (hRa8.below hnow)).mono ?_); rintro e wn ⟨rfl, hbn⟩)
        | (go_at_call 20; have hnow : Below W.heap.size W _ := (by go_split_ands; assumption); (with_reducible refine (HSI.out _ _ _ _ _ (hRx8.below hnow) hR5).mono ?_); rintro e wn ⟨rfl, hbn⟩)
        | (go_at_call 20; have hnow : Below W.heap.size W _ := (by go_split_ands; assumption); (with_reducible refine (HSX.out _ _ _ _ _ (hRy8.below hnow) (hRa8.below hnow)).mono ?_); rintro e wn ⟨rfl, hbn⟩)
        | (go_at_call 20; have hnow : Below W.heap.size W _ := (by go_split_ands; assumption); (with_reducible refine (HSX.out _ _ _ _ _ (hRp8.below hnow) (hRa8.below hnow)).mono ?_); rintro e wn ⟨rfl, hbn⟩)
        | (go_at_call 20; have hnow : Below W.heap.size W _ := (by go_split_ands; assumption); (with_reducible refine (HSX.out _ _ _ _ _ (hRq8.below hnow) (hRa8.below hnow)).mono ?_); rintro e wn ⟨rfl, hbn⟩)
        | (go_at_call 20; have hnow : Below W.heap.size W _ := (by go_split_ands; assumption); (with_reducible refine (HSI.out _ _ _ _ _ (hRr8.below hnow) hR5).mono ?_); rintro e wn ⟨rfl, hbn⟩)
        | (go_at_call 24; have hnow : Below W.heap.size W _ := (by go_split_ands; assumption); refine (awake19 _).mono ?_; rintro e wn ⟨rfl, hbn⟩))
    go_wp2
    go_ret
    exact ⟨rfl, held_step t8 (held_step hnow hbn)⟩

end Go.Proofs.Ytdccpnaolcpohaa
