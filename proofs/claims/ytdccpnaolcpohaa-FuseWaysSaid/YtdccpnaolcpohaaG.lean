/- The contract of the law's Make: a map by numbers. -/
import Derived.Test.YtdccpnaolcpohaaF
namespace Go.Proofs.Ytdccpnaolcpohaa
open Go.RowKit

def mstep (s : List Int × Int) (n : Int) : List Int × Int :=
  if n % 4 = 0 then (s.1 ++ [-1], s.2) else if n % 4 = 1 then (s.1, s.2 + 1 + n / 4 % 3) else (s.1 ++ [s.2], s.2 + 1)
def makeTo (ns : List Int) (k : Nat) : List Int := ((ns.take k).foldl mstep ([], 0)).1
def makeNew (ns : List Int) (k : Nat) : Int := ((ns.take k).foldl mstep ([], 0)).2

theorem make_step (ns : List Int) (k : Nat) (h : k < ns.length) : (makeTo ns (k + 1), makeNew ns (k + 1)) = mstep (makeTo ns k, makeNew ns k) (ns.getD k 0) := by
  have e : ns.take (k + 1) = ns.take k ++ [ns.getD k 0] := by
    rw [List.take_succ_eq_append_getElem h]; simp [List.getD, h]
  simp only [makeTo, makeNew, e, List.foldl_append, List.foldl_cons, List.foldl_nil]
theorem make_0 (ns : List Int) (k : Nat) (h : k < ns.length) (hm : ns.getD k 0 % 4 = 0) : makeTo ns (k + 1) = makeTo ns k ++ [-1] ∧ makeNew ns (k + 1) = makeNew ns k := by
  have := make_step ns k h; rw [mstep, if_pos hm] at this; simpa using this
theorem make_1 (ns : List Int) (k : Nat) (h : k < ns.length) (hm : ns.getD k 0 % 4 = 1) : makeTo ns (k + 1) = makeTo ns k ∧ makeNew ns (k + 1) = makeNew ns k + 1 + ns.getD k 0 / 4 % 3 := by
  have := make_step ns k h; rw [mstep, if_neg (by omega), if_pos hm] at this; simpa using this
theorem make_2 (ns : List Int) (k : Nat) (h : k < ns.length) (hm : ¬ ns.getD k 0 % 4 = 0) (hm1 : ¬ ns.getD k 0 % 4 = 1) : makeTo ns (k + 1) = makeTo ns k ++ [makeNew ns k] ∧ makeNew ns (k + 1) = makeNew ns k + 1 := by
  have := make_step ns k h; rw [mstep, if_neg hm, if_neg hm1] at this; simpa using this
theorem make_bd (ns : List Int) (k : Nat) (h : k ≤ ns.length) : (makeTo ns k).length ≤ k ∧ 0 ≤ makeNew ns k ∧ makeNew ns k ≤ 3 * k := by
  induction k with
  | zero => simp [makeTo, makeNew]
  | succ k ih =>
    obtain ⟨a, b, c⟩ := ih (by omega)
    by_cases h0 : ns.getD k 0 % 4 = 0
    · obtain ⟨e1, e2⟩ := make_0 ns k (by omega) h0
      rw [e1, e2]; simp; omega
    · by_cases h1 : ns.getD k 0 % 4 = 1
      · obtain ⟨e1, e2⟩ := make_1 ns k (by omega) h1
        rw [e1, e2]; omega
      · obtain ⟨e1, e2⟩ := make_2 ns k (by omega) h0 h1
        rw [e1, e2]; simp; omega

/-- A slice that the call itself made, from block B on, with the elements xs. -/
def Own (w : World) (B : Nat) (v : Value) (xs : List Int) : Prop := w.ownsRow B 3 1 v xs.length (ints xs)

theorem Own.row {w : World} {B : Nat} {v : Value} {xs : List Int} (h : Own w B v xs) : ∃ a cap, v = .slice a xs.length cap ∧ Row B w a xs := by
  obtain ⟨_, h | ⟨g, cap, cur, e, hB, hh, hle, hcm, hs, ht⟩⟩ := h
  · obtain ⟨e, hn⟩ := h
    have : xs = [] := List.eq_nil_of_length_eq_zero hn
    subst this
    exact ⟨none, 0, e, .inl rfl⟩
  · refine ⟨some ⟨g, 0, none⟩, cap, e, .inr ⟨g, 0, rfl, hB, (Array.getElem?_eq_some_iff.1 hh).1, fun j hj => ?_⟩⟩
    rw [Nat.zero_add]
    have h1 : cur.toList[j]? = some (.int .i64 (xs.getD j 0)) := by
      have : (cur.toList.take (xs.length * 1))[j]? = (ints xs)[j]? := by rw [ht]
      rw [List.getElem?_take, if_pos (by omega)] at this
      rw [this]; simp [ints, List.getD, hj]
    simp [World.cell?, hh]
    simpa using h1

theorem Own.lt {w : World} {B : Nat} {v : Value} {xs : List Int} (h : Own w B v xs) (b : Nat) (hb : b < B) : some b ≠ v.ownBlock := fun e => by
  have := (World.ownsRow.lt h b e.symm).1; omega
theorem Own.alloc {w : World} {B : Nat} {v : Value} {xs : List Int} (h : Own w B v xs) (o : Obj) : Own (w.alloc o) B v xs := World.ownsRow.alloc h o
theorem Own.nil (w : World) (B : Nat) : Own w B (.slice none 0 0) [] := World.ownsRow_nil w B 3 1
theorem Own.set {w : World} {B : Nat} {v : Value} {xs : List Int} (h : Own w B v xs) {a : Addr} (ha : a.block < B) (u : Value) : Own (w.setCell a u) B v xs := ownsRow_setCell_below h ha u
theorem Own.keep {w w' : World} {B C : Nat} {v : Value} {xs : List Int} (h : Own w B v xs) (hs : w.heap.size ≤ C) (hb : Below C w w') : Own w' B v xs := by
  obtain ⟨h1, h2 | ⟨g, cap, cur, e, hB, hh, r⟩⟩ := h
  · exact ⟨h1, .inl h2⟩
  · exact ⟨h1, .inr ⟨g, cap, cur, e, hB, by rw [hb.block g (by have := (Array.getElem?_eq_some_iff.1 hh).1; omega)]; exact hh, r⟩⟩
theorem Own.from {w : World} {B C : Nat} {v : Value} {xs : List Int} (h : Own w B v xs) (hC : C ≤ B) : Own w C v xs := by
  obtain ⟨h1, h2 | ⟨g, cap, cur, e, hB, r⟩⟩ := h
  · exact ⟨h1, .inl h2⟩
  · exact ⟨h1, .inr ⟨g, cap, cur, e, by omega, r⟩⟩
theorem Blk.grown {w w' : World} {row : Option Nat} {b : Nat} {vs : List Value} {t : TypeId} (h : Blk w b vs t) (hg : w.grownBy w' row) (hr : some b ≠ row) : Blk w' b vs t := by
  unfold Blk at h ⊢; rw [hg.block b (by have := (Array.getElem?_eq_some_iff.1 h).1; omega) hr]; exact h
theorem RowK.grown {K : IntKind} {w w' : World} {row : Option Nat} {B : Nat} {a : Option Addr} {xs : List Int} (h : RowK K 0 w a xs) (hs : ∀ b, b < B → some b ≠ row) (hB : ∀ b off, a = some ⟨b, off, none⟩ → b < B) (hg : w.grownBy w' row) : RowK K 0 w' a xs := by
  rcases h with h | ⟨b, off, e, hB0, hb1, hc⟩
  · exact .inl h
  · refine .inr ⟨b, off, e, hB0, by have := hg.size; omega, fun j hj => ?_⟩
    rw [World.cell?_of_block (w := w) (hg.block b hb1 (hs b (hB b off e)))]
    exact hc j hj

/-- 'append(s, z)' on a slice of the call's own: the law at this program's []int. -/
theorem append_int {w : World} {ops : Array Oper} {rest : List Oper} {o : Oper} {a : Act} {Q : Exit → Act → World → Prop} (hgd : o.guard = none) (s x : Operand)
    (ho : o.op = .call { callee := .builtin .append, args := #[s, x], argTypes := #[24, 24] }) (B : Nat) (v : Value) (xs : List Int) (z : Int) (g c : Nat)
    (hs : a.eval s = v) (hx : a.eval x = .slice (some ⟨g, 0, none⟩) 1 c) (hown : Own w B v xs) (hz : w.cell? ⟨g, 0, none⟩ = some (.int .i64 z)) (hl : xs.length ≤ 4294967296) (hB : B ≤ w.heap.size)
    (h : ∀ a' cap' w', Own w' B (.slice a' (xs.length + 1) cap') (xs ++ [z]) → w.grownBy w' v.ownBlock → wpList Try.prog ops Q rest (a.put o.dst (.slice a' (xs.length + 1) cap')) w') : wpList Try.prog ops Q (o :: rest) a w := by
  obtain ⟨i0, hi, hz0, hz1, hz2⟩ := info_parts Try.info3
  refine wpList_append_own (P := Try.prog) w hgd s x 24 ho B 3 i0 (.int .i64 0) 1 8 Try.underlying24 hi hz0 hz1 hz2 rfl (by decide) v xs.length (ints xs) hs hown ⟨g, 0, none⟩ 1 c [.int .i64 z] hx rfl ?_ ?_ (by unfold maxLen; omega) (by omega) hB ?_
  · intro j u hj
    match j, hj with
    | 0, hj =>
      simp at hj; subst hj
      simpa [Addr.add] using hz
    | j + 1, hj => simp at hj
  · intro u hu; simp at hu; subst hu; rfl
  · intro v' w' hown' hg _
    have hO : Own w' B v' (xs ++ [z]) := by
      unfold Own; simpa [ints] using hown'
    obtain ⟨a', cap', e, _⟩ := hO.row
    rw [List.length_append, List.length_singleton] at e
    subst e
    exact h a' cap' w' hO hg

/-- What an append to a field of a struct of the call's own, and the store back, leave. -/
theorem app_rel {w wr w1 : World} {M B0 B : Nat} {av a1 : Option Addr} {cv c1 : Nat} {xs ys : List Int} {nw : Int} {o : Obj} {vs0 : List Value}
    (hM : Blk wr M [.slice av xs.length cv, .int .i64 nw] 26) (hO : Own wr B (.slice av xs.length cv) xs) (hB0 : Blk wr B0 vs0 26) (hbel : Below w.heap.size w wr)
    (hMB : M < B) (hBB : B0 < B) (hne : M ≠ B0) (hwM : w.heap.size ≤ M) (hwB : w.heap.size ≤ B)
    (hO1 : Own w1 B (.slice a1 (xs.length + 1) c1) ys) (hg : (wr.alloc o).grownBy w1 (Value.slice av xs.length cv).ownBlock) :
    Blk w1 M [.slice av xs.length cv, .int .i64 nw] 26 ∧
    Blk (w1.setCell ⟨M, 0, none⟩ (.slice a1 (xs.length + 1) c1)) M [.slice a1 (xs.length + 1) c1, .int .i64 nw] 26 ∧ Own (w1.setCell ⟨M, 0, none⟩ (.slice a1 (xs.length + 1) c1)) B (.slice a1 (xs.length + 1) c1) ys ∧
    Blk (w1.setCell ⟨M, 0, none⟩ (.slice a1 (xs.length + 1) c1)) B0 vs0 26 ∧ Below w.heap.size w (w1.setCell ⟨M, 0, none⟩ (.slice a1 (xs.length + 1) c1)) := by
  have h1 := (hM.alloc o).grown hg (hO.lt _ hMB)
  have h0 := (hB0.alloc o).grown hg (hO.lt _ hBB)
  refine ⟨h1, h1.set 0 _, hO1.set hMB _, h0.set_other hne _, ?_⟩
  exact ((hbel.alloc hbel.size o).grown hg (by have := hbel.size; simp <;> omega) (fun b e => by have := (World.ownsRow.lt hO b e).1; omega)).setCell hwM _

def RetOwn (w : World) (xs : List Int) (new : Int) (e : Ending) (w' : World) : Prop :=
  ∃ v, e = .returned (.agg #[v, .int .i64 new]) ∧ Own w' w.heap.size v xs ∧ Below w.heap.size w w'

theorem i64_of (x : Int) (h0 : -4611686018427387904 ≤ x) (h1 : x ≤ 4611686018427387904) : IntKind.i64.wrap x = x := by rw [IntKind.wrap_i64]; omega

set_option maxHeartbeats 2000000 in
theorem make_any (w : World) (a : Option Addr) (cap : Nat) (ns : List Int) (h : RowK .u8 0 w a ns) (hl : ns.length ≤ 100000) (hb : ∀ i, 0 ≤ ns.getD i 0 ∧ ns.getD i 0 ≤ 255) :
    Calls Try.prog 14 #[.slice a ns.length cap] w (RetOwn w (makeTo ns ns.length) (makeNew ns ns.length)) := by
  obtain ⟨i0, hi, hz0, hz1, hz2⟩ := info_parts Try.info3
  have HI := Lib.hid hi
  have HZ := Lib.hid (And.intro hz0 (And.intro hz1 hz2))
  clear hi hz0 hz1 hz2
  have HB := Lib.hid hb
  clear hb
  have HR := Lib.hid h
  clear h
  go_enter Try.func14, Try.ntmps14
  go_wp2_with fail
  go_loopw [4] (fun c wr => ∃ (k : Nat) (v : Value), k ≤ ns.length ∧ c = .int .i64 k ∧ Blk wr (w.heap.size+1) [v, .int .i64 (makeNew ns k)] 26 ∧ Own wr (w.heap.size+1+1) v (makeTo ns k) ∧ Blk wr w.heap.size [.slice none 0 0, .int .i64 0] 26 ∧ Below w.heap.size w wr) (fun c _ => ns.length - (intOf c).toNat)
  case atStart =>
    refine ⟨0, .slice none 0 0, Nat.zero_le _, rfl, Blk.made (by simp) _ _, World.ownsRow_nil _ _ _ _, (Blk.made rfl _ _).alloc _, ?_⟩
    exact (((Below.refl _ _).alloc (Nat.le_refl _) _).alloc (by simp) _)
  case round =>
    obtain ⟨k, v, hk, rfl, hM, hO, hB0, hbel⟩ := hrel
    by_cases hlt : k < ns.length
    · obtain ⟨b, off, rfl, _, hb, hc⟩ := (HR.out.below hbel).at k hlt
      obtain ⟨hx0, hx1⟩ := HB.out k
      obtain ⟨bd1, bd2, bd3⟩ := make_bd ns k hk
      have HST := Lib.hid (And.intro (make_0 ns k hlt) (And.intro (make_1 ns k hlt) (make_2 ns k hlt)))
      generalize ns.getD k 0 = x at *
      have hm0 := hM.cell 0 _ rfl
      have hm1 := hM.cell 1 _ rfl
      have hf0 := hM.free 0
      have hf1 := hM.free 1
      generalize makeNew ns k = nw at *
      by_cases e0 : x % 4 = 0
      · have t0 : (x % 4 == 0) = true := by simpa using e0
        have HE := Lib.hid e0
        clear e0
        obtain ⟨av, cv, rfl, _⟩ := hO.row
        go_wp2_with (at_builtin; refine append_int rfl _ _ rfl (w.heap.size + 1 + 1) _ (makeTo ns k) (-1) wr.heap.size _ rfl rfl (hO.alloc _) ((Blk.made rfl [.int .i64 (-1)] 3).cell 0 _ rfl) (by omega) (by have := hM.lt; simp <;> omega) ?_)
        intro a1 c1 w1 hO1 hg1
        obtain ⟨q1, r1, r2, r3, r4⟩ := app_rel hM hO hB0 hbel (by omega) (by omega) (by omega) (by omega) (by omega) hO1 hg1
        have HR1 := Lib.hid (And.intro r1 (And.intro r2 (And.intro r3 r4)))
        clear r1 r2 r3 r4
        have k0 := q1.cell 0 _ rfl
        have k1 := q1.free 0
        clear hc hm0 hm1 hf0 hf1
        go_wp2
        obtain ⟨m1, m2⟩ := HST.out.1 HE.out
        obtain ⟨r1, r2, r3, r4⟩ := HR1.out
        exact ⟨⟨k + 1, _, by omega, by go_num, by rw [m2]; exact r1, by rw [m1]; exact r2, r3, r4⟩, by simp [intOf]; omega⟩
      · have t0 : (x % 4 == 0) = false := by simpa using e0
        by_cases e1 : x % 4 = 1
        · have t1 : (x % 4 == 1) = true := by simpa using e1
          have HE := Lib.hid e1
          clear e0 e1
          have q1 : 0 ≤ x / 4 % 3 := by omega
          have q2 : x / 4 % 3 ≤ 2 := by omega
          obtain ⟨av, cv, rfl, _⟩ := hO.row
          go_wp2
          obtain ⟨m1, m2⟩ := HST.out.2.1 HE.out
          refine ⟨⟨k + 1, .slice av (makeTo ns k).length cv, by omega, by go_num, ?_, ?_, hB0.set_other (by simp) _, hbel.setCell (by simp) _⟩, by simp [intOf]; omega⟩
          · rw [m2]; exact hM.set 1 _
          · rw [m1]; exact hO.set (by simp) _
        · have t1 : (x % 4 == 1) = false := by simpa using e1
          have HE := Lib.hid (And.intro e0 e1)
          clear e0 e1
          obtain ⟨av, cv, rfl, _⟩ := hO.row
          go_wp2_with (at_builtin; refine append_int rfl _ _ rfl (w.heap.size + 1 + 1) _ (makeTo ns k) nw wr.heap.size _ rfl rfl (hO.alloc _) ((Blk.made rfl [.int .i64 nw] 3).cell 0 _ rfl) (by omega) (by have := hM.lt; simp <;> omega) ?_)
          intro a1 c1 w1 hO1 hg1
          obtain ⟨q1, r1, r2, r3, r4⟩ := app_rel hM hO hB0 hbel (by omega) (by omega) (by omega) (by omega) (by omega) hO1 hg1
          have s1 := r1.set 1 (.int .i64 (nw + 1))
          have s2 := r2.set (a := ⟨w.heap.size + 1, 1, none⟩) (by simp) (.int .i64 (nw + 1))
          have s3 := r3.set_other (a := ⟨w.heap.size + 1, 1, none⟩) (by simp) (.int .i64 (nw + 1))
          have s4 := r4.setCell (p := ⟨w.heap.size + 1, 1, none⟩) (by simp) (.int .i64 (nw + 1))
          have HR1 := Lib.hid (And.intro s1 (And.intro s2 (And.intro s3 s4)))
          clear r1 r2 r3 r4 s1 s2 s3 s4
          have k0 := q1.cell 0 _ rfl
          have k1 := q1.free 0
          have k2 := q1.cell 1 _ rfl
          have k3 := q1.free 1
          clear hc hm0 hm1 hf0 hf1
          go_wp2
          obtain ⟨m1, m2⟩ := HST.out.2.2 HE.out.1 HE.out.2
          obtain ⟨r1, r2, r3, r4⟩ := HR1.out
          exact ⟨⟨k + 1, _, by omega, by go_num, by rw [m2]; exact r1, by rw [m1]; exact r2, r3, r4⟩, by simp [intOf]; omega⟩
    · have hk' : k = ns.length := by omega
      subst hk'
      obtain ⟨av, cv, rfl, _⟩ := hO.row
      generalize hmt : makeTo ns ns.length = xs at *
      generalize hmn : makeNew ns ns.length = nw at *
      clear hmt hmn
      have hm0 := hM.cell 0 _ rfl
      have hm1 := hM.cell 1 _ rfl
      have hr0 := hB0.cell 0 _ rfl
      have hr1 := hB0.cell 1 _ rfl
      have hf0 := hB0.free 0
      have hf1 := hB0.free 1
      go_wp2
      have hB0' := (hB0.set 0 (.slice av xs.length cv)).set 1 (.int .i64 nw)
      have hc0 := hB0'.cell 0 _ rfl
      have hc1 := hB0'.cell 1 _ rfl
      refine bodyPost_ret (v := .agg #[.slice av xs.length cv, .int .i64 nw]) (by simp [results, Try.results14, go_sem, hc0, hc1]) rfl ?_
      exact ⟨_, rfl, ((hO.set (by simp <;> omega) _).set (by simp <;> omega) _).from (by omega), (hbel.setCell (Nat.le_refl _) _).setCell (Nat.le_refl _) _⟩

end Go.Proofs.Ytdccpnaolcpohaa
