/- The contract of (*Hash).Write. -/
import Derived.Test.YtogpecgbgfcdcaaSG
import Derived.Test.YtogpecgbgfcdcaaSP
import Derived.Laws.AppendOwnNone
namespace Go.Proofs.Ytogpecgbgfcdcaa
open Go.RowKit

/-- Of the blocks below B, all but p and r read as they did. -/
structure Two (p : Nat) (r : Option Nat) (B : Nat) (w w' : World) : Prop where
  os : w'.os = w.os
  tape : w'.tape = w.tape
  output : w'.output = w.output
  size : w.heap.size ≤ w'.heap.size
  block : ∀ k, k < B → k ≠ p → r ≠ some k → w'.heap[k]? = w.heap[k]?
theorem Two.refl (p : Nat) (r : Option Nat) (B : Nat) (w : World) : Two p r B w w := ⟨rfl, rfl, rfl, Nat.le_refl _, fun _ _ _ _ => rfl⟩
theorem But.two {p B : Nat} {w w' : World} (h : But p B w w') (r : Option Nat) : Two p r B w w' := ⟨h.os, h.tape, h.output, h.size, fun k hk hp _ => h.block k hk hp⟩
theorem Two.trans {p B : Nat} {r : Option Nat} {a b c : World} (h : Two p r B a b) (k : Two p r B b c) : Two p r B a c :=
  ⟨k.os.trans h.os, k.tape.trans h.tape, k.output.trans h.output, Nat.le_trans h.size k.size, fun i hi hp hr => (k.block i hi hp hr).trans (h.block i hi hp hr)⟩
theorem Two.mono {p B B' : Nat} {r : Option Nat} {w w' : World} (h : Two p r B w w') (hB : B' ≤ B) : Two p r B' w w' := ⟨h.os, h.tape, h.output, h.size, fun k hk => h.block k (Nat.lt_of_lt_of_le hk hB)⟩
theorem Two.grown {w w' : World} {r : Option Nat} (h : w.grownBy w' r) (p : Nat) : Two p r w.heap.size w w' := ⟨h.os, h.tape, h.output, h.size, fun k hk _ hr => h.block k hk fun e => hr e.symm⟩
theorem Two.below {p B C : Nat} {r : Option Nat} {w w' : World} (h : Two p r B w w') (hB : C ≤ B) (hp : C ≤ p) (hr : ∀ k, r = some k → C ≤ k) : Below C w w' :=
  ⟨h.os, h.tape, h.output, h.size, fun k hk => h.block k (by omega) (by omega) (fun e => by have := hr k e; omega)⟩
theorem Two.drew {p B : Nat} {r : Option Nat} {a w : World} (h : Two p r B a w) : Two p r B a w.drew := ⟨h.os, h.tape, h.output, h.size, h.block⟩
theorem Blk.two {w w' : World} {p B b : Nat} {r : Option Nat} {vs : List Value} {t : TypeId} (h : Blk w b vs t) (ht : Two p r B w w') (hB : b < B) (hp : b ≠ p) (hr : r ≠ some b) : Blk w' b vs t := by
  unfold Blk at h ⊢; rw [ht.block b hB hp hr]; exact h
theorem Bys.two {w w' : World} {p B C : Nat} {r : Option Nat} {a : Option Addr} {bs : List UInt8} (h : Bys C w a bs) (ht : Two p r B w w') (hB : w.heap.size ≤ B) (hp : ∀ x, a = some x → x.block ≠ p) (hr : ∀ x, a = some x → r ≠ some x.block) : Bys C w' a bs := by
  rcases h with h | ⟨b, off, e, hC, hb, hc⟩
  · exact .inl h
  · refine .inr ⟨b, off, e, hC, by have := ht.size; omega, fun i hi => ?_⟩
    rw [World.cell?_of_block (w := w) (w' := w') (a := ⟨b, off + i, none⟩) (ht.block b (by omega) (hp _ e) (hr _ e))]
    exact hc i hi
theorem OwnB.two {w w' : World} {p B C : Nat} {r : Option Nat} {v : Value} {bs : List UInt8} (h : OwnB w C v bs) (ht : Two p r B w w') (hB : w.heap.size ≤ B) (hp : v.ownBlock ≠ some p) (hr : ∀ k, v.ownBlock = some k → r ≠ some k) : OwnB w' C v bs := by
  obtain ⟨h1, h2 | ⟨g, cap, cur, e, hC, hh, q⟩⟩ := h
  · exact ⟨h1, .inl h2⟩
  · have hg : v.ownBlock = some g := by subst e; rfl
    refine ⟨h1, .inr ⟨g, cap, cur, e, hC, ?_, q⟩⟩
    rw [ht.block g (by have := (Array.getElem?_eq_some_iff.1 hh).1; omega) (fun c => hp (by rw [hg, c])) (hr g hg)]; exact hh

theorem OwnB.ne {w : World} {C : Nat} {v : Value} {bs : List UInt8} {p : Nat} {vs : List Value} {t : TypeId} (h : OwnB w C v bs) (hP : Blk w p vs t) (ht : t ≠ 5) : v.ownBlock ≠ some p := by
  intro e
  obtain ⟨h1, ⟨h2, _⟩ | ⟨g, cap, cur, e2, hC, hh, _⟩⟩ := h
  · subst h2; simp [Value.ownBlock] at e
  · subst e2
    simp only [Value.ownBlock, Option.some.injEq] at e
    subst e
    unfold Blk at hP
    rw [hP] at hh
    simp only [Option.some.injEq, Obj.cells.injEq] at hh
    exact ht hh.2.1
/-- 'append(s, t...)' onto bytes of the call's own, t nil or not. -/
theorem append_any {w : World} {ops : Array Oper} {rest : List Oper} {o : Oper} {a : Act} {Q : Exit → Act → World → Prop} (hgd : o.guard = none) (s x : Operand)
    (ho : o.op = .call { callee := .builtin .append, args := #[s, x], argTypes := #[22, 22] }) (B : Nat) (v : Value) (bs cs : List UInt8) (ad : Option Addr) (c : Nat)
    (hs : a.eval s = v) (hx : a.eval x = .slice ad cs.length c) (hc : ad = none → c = 0) (hown : OwnB w B v bs) (hz : Bys 0 w ad cs) (hl : bs.length + cs.length ≤ 4294967296) (hB : B ≤ w.heap.size)
    (h : ∀ a' cap' w', OwnB w' B (.slice a' (bs.length + cs.length) cap') (bs ++ cs) → w.grownBy w' v.ownBlock → wpList Try.prog ops Q rest (a.put o.dst (.slice a' (bs.length + cs.length) cap')) w') : wpList Try.prog ops Q (o :: rest) a w := by
  cases ad with
  | some ad => exact append_bytes hgd s x ho B v bs cs ad c hs hx hown hz hl hB fun a' cap' w' h1 h2 _ => h a' cap' w' h1 h2
  | none =>
    obtain rfl := hc rfl
    have hcs : cs = [] := by
      rcases hz with hz | ⟨b, off, e, _⟩
      · simpa [nums] using hz
      · simp at e
    subst hcs
    obtain ⟨i0, hi, -, -, -⟩ := info_parts Try.info5
    obtain ⟨a', cap', e, -, -⟩ := hown.row
    refine wpList_append_own_none hgd s x 22 ho B 5 i0 1 Try.underlying22 hi v bs.length (byv bs) hs hown hx ?_
    have := h a' cap' w (by simpa [e] using hown) ⟨rfl, rfl, rfl, Nat.le_refl _, fun _ _ _ => rfl⟩
    rw [e]
    simpa using this

/-- The words behind k blocks. -/
def absk (hs : List Nat) (all : List UInt8) : Nat → List Nat
  | 0 => hs
  | k + 1 => comp (absk hs all k) ((all.drop (64 * k)).take 64)
theorem absk_length (hs : List Nat) (all : List UInt8) (h : hs.length = 8) (k : Nat) : (absk hs all k).length = 8 := by
  cases k with
  | zero => exact h
  | succ k => exact comp_length _ _
theorem absk_lt (hs : List Nat) (all : List UInt8) (h : w32 hs) (k : Nat) : w32 (absk hs all k) := by
  cases k with
  | zero => exact h
  | succ k => exact comp_lt _ _

theorem nums_drop (bs : List UInt8) (k : Nat) : nums (bs.drop k) = (nums bs).drop k := by simp [nums, List.map_drop]
theorem nums_take (bs : List UInt8) (k : Nat) : nums (bs.take k) = (nums bs).take k := by simp [nums, List.map_take]
theorem Bys.take {w : World} {B : Nat} {a : Option Addr} {bs : List UInt8} (h : Bys B w a bs) (k : Nat) : Bys B w a (bs.take k) := by
  rcases h with h | ⟨b, off, e, hC, hb, hc⟩
  · exact .inl (by rw [nums_take, h]; simp)
  · refine .inr ⟨b, off, e, hC, hb, fun i hi => ?_⟩
    rw [nums_take] at hi ⊢
    rw [List.length_take] at hi
    rw [hc i (by omega)]
    simp [List.getD, List.getElem?_take, show i < k by omega]
theorem Bys.drop {w : World} {B b off : Nat} {bs : List UInt8} (h : Bys B w (some ⟨b, off, none⟩) bs) (k : Nat) (hk : k ≤ bs.length) (h0 : 0 < bs.length) : Bys B w (some ⟨b, off + k, none⟩) (bs.drop k) := by
  rcases h with h | ⟨b', off', e, hC, hb, hc⟩
  · have : bs = [] := by simpa [nums] using h
    subst this; simp at h0
  · simp only [Option.some.injEq, Addr.mk.injEq, and_true] at e
    obtain ⟨rfl, rfl⟩ := e
    refine .inr ⟨_, _, rfl, hC, hb, fun i hi => ?_⟩
    rw [nums_drop] at hi ⊢
    rw [List.length_drop] at hi
    rw [show off + k + i = off + (k + i) from by omega, hc (k + i) (by omega)]
    simp [List.getD]

def RetW (w : World) (p : Nat) (v : Value) (hs : List Nat) (all : List UInt8) (n : Int) (e : Ending) (w' : World) : Prop :=
  ∃ a' cap', e = .returned (.tuple #[]) ∧ Blk w' p (wds (absk hs all (all.length / 64)) ++ [.slice a' (all.length % 64) cap', .int .i64 n]) 46 ∧ OwnB w' w.heap.size (.slice a' (all.length % 64) cap') (all.drop (64 * (all.length / 64))) ∧ Two p v.ownBlock w.heap.size w w'

set_option maxRecDepth 100000 in
set_option maxHeartbeats 4000000 in
theorem write_any (w : World) (p C : Nat) (hC : C ≤ w.heap.size) (hs : List Nat) (v : Value) (n : Nat) (rest bs : List UInt8) (a : Option Addr) (cap : Nat)
    (hP : Blk w p (wds hs ++ [v, .int .i64 n]) 46) (hh : hs.length = 8) (hsb : w32 hs) (hv : OwnB w C v rest) (hb : Bys 0 w a bs) (hbp : ∀ x, a = some x → bs = [] ∨ x.block ≠ p) (hbv : ∀ x, a = some x → bs = [] ∨ v.ownBlock ≠ some x.block) (hcap : a = none → cap = 0)
    (hl : rest.length + bs.length ≤ 4294967296) (hn : n ≤ 4398046511104) :
    Calls Try.prog 12 #[.pointer (some ⟨p, 0, none⟩), .slice a bs.length cap] w (RetW w p v hs (rest ++ bs) ((n : Int) + (bs.length : Int))) := by
  have hvp : v.ownBlock ≠ some p := hv.ne hP (by decide)
  have HABS := Lib.hid (fun k => absk_length hs (rest ++ bs) hh k)
  have HABT := Lib.hid (fun k => absk_lt hs (rest ++ bs) hsb k)
  obtain ⟨h0, h1, h2, h3, h4, h5, h6, h7, e8⟩ := eight hh
  have hP0 : Blk w p (st8 h0 h1 h2 h3 h4 h5 h6 h7 v n) 46 := by rw [e8] at hP; exact hP
  have c9 := hP0.cell 9 _ rfl
  have f9 := hP0.free 9
  have hwr : IntKind.i64.wrap ((n : Int) + (bs.length : Int)) = ((n : Int) + (bs.length : Int)) := by rw [IntKind.wrap_i64]; omega
  go_enter Try.func12, Try.ntmps12
  go_upto_region 2 with fail
  have hP1 := hP0.set 9 (.int .i64 ((n : Int) + (bs.length : Int)))
  have hbut : But p w.heap.size w (w.setCell ⟨p, 9, none⟩ (.int .i64 ((n : Int) + (bs.length : Int)))) := (But.refl p w.heap.size w).setCell (x := ⟨p, 9, none⟩) (.inr rfl) _
  have hv1 := hv.two (hbut.two none) (Nat.le_refl _) hvp (fun k _ e => by cases e)
  have hb1 : Bys 0 (w.setCell ⟨p, 9, none⟩ (.int .i64 ((n : Int) + (bs.length : Int)))) a bs := by
    rcases Classical.em (bs = []) with e | e
    · exact .inl (by rw [e]; rfl)
    · exact hb.two (hbut.two none) (Nat.le_refl _) (fun x h => (hbp x h).resolve_left e) (fun k _ e => by cases e)
  have t1 := hbut.two v.ownBlock
  have hplt := hP0.lt
  have hsz1 : (w.setCell ⟨p, 9, none⟩ (.int .i64 ((n : Int) + (bs.length : Int)))).heap.size = w.heap.size := by simp [World.setCell]
  change Blk _ p (st8 h0 h1 h2 h3 h4 h5 h6 h7 v ((n : Int) + (bs.length : Int))) 46 at hP1
  clear hbut c9 f9 hP0 hP hv hb hwr
  generalize w.setCell ⟨p, 9, none⟩ (.int .i64 ((n : Int) + (bs.length : Int))) = w1 at *
  generalize (n : Int) + (bs.length : Int) = m at *
  have c8 := hP1.cell 8 _ rfl
  go_wp2_with (at_builtin; refine append_any rfl _ _ rfl C v rest bs a cap rfl rfl hcap hv1 hb1 hl (by omega) ?_)
  intro g c w2 hO2 hg2
  have t2 := t1.trans ((Two.grown hg2 p).mono (by omega))
  have hP2 := hP1.two (Two.grown hg2 (p + 1)) (by omega) (by omega) hvp
  have hsz2 := hg2.size
  clear c8 t1 hg2 hP1 hv1 hb1 hbp hbv hcap
  rw [← List.length_append] at hO2
  rw [← List.length_append]
  rw [← List.length_append] at hl
  have hgp : ∀ x, g = some x → x.block ≠ p := fun x e c => hO2.ne hP2 (by decide) (by rw [e]; simp [Value.ownBlock, c])
  obtain ⟨a0, c0, e0, hcc, hB2⟩ := hO2.row
  simp only [Value.slice.injEq] at e0
  obtain ⟨rfl, -, rfl⟩ := e0
  generalize rest ++ bs = all at *
  have hP3 : Blk w2 p (wds (absk hs all 0) ++ [v, .int .i64 m]) 46 := by rw [show absk hs all 0 = hs from rfl, e8]; exact hP2
  have HA := Lib.hid hO2
  clear hO2 hP2 e8
  go_wp2_with fail
  go_loopg [4] all.length (fun G c wr => ∃ (k : Nat) (a' : Option Addr) (c' : Nat), 64 * k ≤ all.length ∧ G = all.length - 64 * k ∧ c = .slice a' (all.length - 64 * k) c' ∧ all.length - 64 * k ≤ c' ∧ Bys 0 wr a' (all.drop (64 * k)) ∧ (∀ x, a' = some x → x.block ≠ p) ∧
      Blk wr p (wds (absk hs all k) ++ [v, .int .i64 m]) 46 ∧ Two p v.ownBlock w.heap.size w wr)
  case atStart => exact ⟨0, g, c, by omega, rfl, by simp, by simpa using hcc, by simpa using hB2.from (Nat.zero_le _), hgp, hP3, t2⟩
  case round =>
    clear hB2 hP3 t2 HA
    obtain ⟨k, a', c', hk, rfl, rfl, hcl, hB, hne, hP, ht⟩ := hrel
    have hdl : (all.drop (64 * k)).length = all.length - 64 * k := List.length_drop
    generalize hL : all.length - 64 * k = L at *
    by_cases hlt : 64 ≤ L
    · have hge : (L : Int) ≥ 64 := by omega
      have HBLK := Lib.hid (fun W h1 h2 => block_any W p (absk hs all k) v m a' c' ((all.drop (64 * k)).take 64) h1 (HABS.out k) h2 (by rw [List.length_take]; omega) (HABT.out k))
      obtain ⟨b, off, rfl⟩ : ∃ b off, a' = some ⟨b, off, none⟩ := by
        rcases hB with h | ⟨b, off, e, h, _⟩
        · have : (all.drop (64 * k)) = [] := by simpa [nums] using h
          rw [this] at hdl; simp at hdl; omega
        · exact ⟨b, off, e⟩
      have hBb : b ≠ p := hne _ rfl
      go_wp2_with fail
      refine (HBLK.out _ hP ((hB.take 64).from (Nat.zero_le _))).mono ?_
      rintro e w4 ⟨rfl, hP4, hb4⟩
      have hB4 := (hB.drop 64 (by omega) (by omega)).two (hb4.two none) (Nat.le_refl _) (fun x e => by cases e; exact hBb) (fun x _ e => by cases e)
      have t4 := ht.trans ((hb4.two v.ownBlock).mono ht.size)
      rw [List.drop_drop] at hB4
      clear HBLK hP hb4
      have HL := Lib.hid hL
      have hL2 : all.length - 64 * (k + 1) = L - 64 := by omega
      have HL2 := Lib.hid hL2
      have HN := Lib.hid (show absk hs all (k + 1) = comp (absk hs all k) ((all.drop (64 * k)).take 64) from rfl)
      clear hL hL2 hdl
      go_wp2
      case inl =>
        go_roundg (all.length - 64 * (k + 1))
        case measure => have := HL.out; omega
        case rel =>
          have := HL.out
          have hz : L - 64 = 0 := by omega
          refine ⟨k + 1, some ⟨b, off, none⟩, 0, by omega, rfl, by rw [HL2.out], by rw [HL2.out]; omega, .inl ?_, hne, by rw [HN.out]; exact hP4, t4⟩
          rw [nums_drop, List.drop_eq_nil_of_le (by rw [nums_length]; omega)]
      case inr =>
        go_roundg (all.length - 64 * (k + 1))
        case measure => have := HL.out; omega
        case rel =>
          have := HL.out
          refine ⟨k + 1, some ⟨b, off + 64, none⟩, c' - 64, by omega, rfl, by rw [HL2.out], by rw [HL2.out]; omega, ?_, fun x e => by cases e; exact hBb, by rw [HN.out]; exact hP4, t4⟩
          rw [show 64 * (k + 1) = 64 * k + 64 from by omega]
          exact hB4
    · have hge : ¬ (L : Int) ≥ 64 := by omega
      have hk1 : k = all.length / 64 := by omega
      have hk2 : L = all.length % 64 := by omega
      have HK := Lib.hid hk1
      have HL := Lib.hid hk2
      have HCL := Lib.hid (fun W h => clone_any W a' c' (all.drop (64 * k)) h (by omega))
      rw [hdl] at HCL
      have hplr : p < wr.heap.size := by have := ht.size; omega
      clear hk1 hk2 hL hdl
      go_wp2_with fail
      refine (HCL.out _ (hB.from (Nat.zero_le _))).mono ?_
      rintro e w4 ⟨a3, c3, rfl, hO4, hb4⟩
      have hP4 := hP.below hb4 hP.lt
      have HD := Lib.hid (show (all.drop (64 * k)).length = L by rw [List.length_drop]; have := HL.out; have := HK.out; omega)
      rw [HD.out] at hO4
      rw [HD.out]
      have HP8 := Lib.hid hP4
      have f8 := hP4.free 8
      have l8 := hP4.lt
      have hw8 := wds_length (absk hs all k)
      have HA8 := HABS.out k
      have hc8 : w4.cell? ⟨p, 8, none⟩ = some v := hP4.cell 8 _ (by rw [List.getElem?_append_right (by rw [wds_length, HA8]; omega), wds_length, HA8]; rfl)
      clear hw8 HA8 hP4 hP
      go_wp2
      go_end0
      have hset := HP8.out.set 8 (.slice a3 L c3)
      rw [List.set_append_right _ _ (by rw [wds_length, HABS.out]; omega), wds_length, HABS.out] at hset
      have hk := HK.out
      have hL := HL.out
      subst hk
      refine ⟨a3, c3, rfl, ?_, ?_, ?_⟩
      · rw [← hL]; exact hset
      · rw [← hL]
        refine OwnB.two (hO4.from ht.size) ((But.setCell (x := ⟨p, 8, none⟩) (But.refl p w4.heap.size w4) (.inr rfl) (.slice a3 L c3)).two none) (Nat.le_refl _) ?_ (fun _ _ e => by cases e)
        intro e
        have := (hO4.ownBlock_lt e).1
        omega
      · exact ht.trans ((((But.of hb4).setCell (x := ⟨p, 8, none⟩) (.inr rfl) (.slice a3 L c3)).two v.ownBlock).mono ht.size)

end Go.Proofs.Ytogpecgbgfcdcaa
