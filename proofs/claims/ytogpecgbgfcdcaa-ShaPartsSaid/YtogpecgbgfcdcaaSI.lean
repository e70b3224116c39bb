/- The contract of (*Hash).Sum. -/
import Derived.Test.YtogpecgbgfcdcaaSH
import Derived.Deep.RegionHeld3
namespace Go.Proofs.Ytogpecgbgfcdcaa
open Go.RowKit

def padz (n : Nat) : Nat := (64 - (n + 9) % 64) % 64
def be64 (x : Nat) (k : Nat) : List UInt8 := (List.range k).map fun j => UInt8.ofNat (x / 2 ^ (56 - 8 * j))
theorem be64_succ (x k : Nat) : be64 x (k + 1) = be64 x k ++ [UInt8.ofNat (x / 2 ^ (56 - 8 * k))] := by simp [be64, List.range_succ]
theorem be64_length (x k : Nat) : (be64 x k).length = k := by simp [be64]
def padTo (z : Nat) : List UInt8 := 128 :: List.replicate z 0
theorem padTo_succ (z : Nat) : padTo (z + 1) = padTo z ++ [0] := by simp [padTo, List.replicate_succ']
theorem padTo_length (z : Nat) : (padTo z).length = z + 1 := by simp [padTo]
def padB (n : Nat) : List UInt8 := padTo (padz n) ++ be64 (8 * n) 8
def word4 (x : Nat) : List UInt8 := [UInt8.ofNat (x / 2 ^ 24), UInt8.ofNat (x / 2 ^ 16), UInt8.ofNat (x / 2 ^ 8), UInt8.ofNat x]
def outB : List Nat → List UInt8
  | [] => []
  | x :: xs => word4 x ++ outB xs
theorem outB_append (a b : List Nat) : outB (a ++ b) = outB a ++ outB b := by induction a with | nil => rfl | cons x a ih => simp [outB, ih]
theorem outB_length (a : List Nat) : (outB a).length = 4 * a.length := by induction a with | nil => rfl | cons x a ih => simp [outB, ih, word4]; omega
theorem outB_take {ws : List Nat} {i : Nat} (h : i < ws.length) : outB (ws.take (i + 1)) = outB (ws.take i) ++ word4 (ws.getD i 0) := by
  rw [List.take_add_one, outB_append]; simp [List.getD, h, outB]
def sumF (hs : List Nat) (rest : List UInt8) (n : Nat) : List UInt8 := outB (absk hs (rest ++ padB n) ((rest ++ padB n).length / 64))

theorem OwnB.cap0 {w : World} {B l c : Nat} {bs : List UInt8} {a : Option Addr} (h : OwnB w B (.slice a l c) bs) (ha : a = none) : c = 0 := by
  subst ha
  obtain ⟨h1, ⟨h2, _⟩ | ⟨g, cap, cur, e2, _⟩⟩ := h
  · simp only [Value.slice.injEq] at h2; exact h2.2.2
  · simp at e2
theorem be_byte (n j : Nat) : ∃ b : UInt8, b = UInt8.ofNat (8 * n / 2 ^ (56 - 8 * j)) ∧ (n : Int) * 8 / 2 ^ (56 - 8 * j) % 256 = ((b.toNat : Nat) : Int) := by
  refine ⟨_, rfl, ?_⟩
  rw [UInt8.toNat_ofNat', Nat.mul_comm 8 n]
  simp

theorem idx44 (x0 x1 x2 x3 x4 x5 x6 x7 i : Nat) (h : i < 8) (w : World) :
    (Instr.index 44 (.agg #[.int .u32 x0, .int .u32 x1, .int .u32 x2, .int .u32 x3, .int .u32 x4, .int .u32 x5, .int .u32 x6, .int .u32 x7]) (.int .i64 (i : Int))).run Try.prog w = .ok (.int .u32 (([x0, x1, x2, x3, x4, x5, x6, x7].getD i 0 : Nat) : Int)) w := by
  match i, h with
  | 0, _ => exact rfl
  | 1, _ => exact rfl
  | 2, _ => exact rfl
  | 3, _ => exact rfl
  | 4, _ => exact rfl
  | 5, _ => exact rfl
  | 6, _ => exact rfl
  | 7, _ => exact rfl
theorem word_bytes (x : Nat) (hx : x < 4294967296) : ∃ b0 b1 b2 b3 : UInt8, word4 x = [b0, b1, b2, b3] ∧ (x : Int) / 16777216 = ((b0.toNat : Nat) : Int) ∧ (x : Int) / 65536 % 256 = ((b1.toNat : Nat) : Int) ∧ (x : Int) / 256 % 256 = ((b2.toNat : Nat) : Int) ∧ (x : Int) % 256 = ((b3.toNat : Nat) : Int) := by
  refine ⟨_, _, _, _, rfl, ?_, ?_, ?_, ?_⟩ <;> rw [UInt8.toNat_ofNat'] <;> omega

set_option maxRecDepth 100000 in
set_option maxHeartbeats 8000000 in
theorem sum_any (w : World) (p : Nat) (hs : List Nat) (v : Value) (n : Nat) (rest : List UInt8)
    (hP : Blk w p (wds hs ++ [v, .int .i64 n]) 46) (hh : hs.length = 8) (hsb : w32 hs) (hv : OwnB w (p + 1) v rest) (hl : rest.length ≤ 64) (hn : n ≤ 1099511627776) :
    Calls Try.prog 13 #[.pointer (some ⟨p, 0, none⟩)] w fun e w' => e = .returned (str (sumF hs rest n)) ∧ Below w.heap.size w w' := by
  have HWR := Lib.hid (fun W q C u cs ad c hC hP h1 hb hbp hbv hcap h2 => write_any W q C hC hs u 0 rest cs ad c hP hh hsb h1 hb hbp hbv hcap h2 (by omega))
  have HABS := Lib.hid (fun all k => absk_length hs all hh k)
  have HABT := Lib.hid (fun all k => absk_lt hs all hsb k)
  obtain ⟨h0, h1, h2, h3, h4, h5, h6, h7, e8⟩ := eight hh
  have hP0 : Blk w p (st8 h0 h1 h2 h3 h4 h5 h6 h7 v n) 46 := by rw [e8] at hP; exact hP
  obtain ⟨a, cap, rfl, hcap, hB⟩ := hv.row
  have q0 := hP0.cell 0 _ rfl
  have q1 := hP0.cell 1 _ rfl
  have q2 := hP0.cell 2 _ rfl
  have q3 := hP0.cell 3 _ rfl
  have q4 := hP0.cell 4 _ rfl
  have q5 := hP0.cell 5 _ rfl
  have q6 := hP0.cell 6 _ rfl
  have q7 := hP0.cell 7 _ rfl
  have q8 := hP0.cell 8 _ rfl
  have HCL : Hid (∀ W, Bys 0 W a rest → Calls Try.prog 21 #[.slice a rest.length cap] W fun e w' => ∃ a' cap', e = .returned (.slice a' rest.length cap') ∧ OwnB w' W.heap.size (.slice a' rest.length cap') rest ∧ Below W.heap.size W w') := fun W h => clone_any W a cap rest h (by omega)
  have hB0 : Bys 0 w.drew a rest := hB.from (Nat.zero_le _)
  have HP := Lib.hid hP0
  have hplt := hP0.lt
  clear hP hP0
  unfold str
  go_enter Try.func13, Try.ntmps13
  go_wp2_with fail
  go_region_held3 (fun w' => w'.cell? ⟨p, 0, none⟩ = some (.int .u32 h0) ∧ w'.cell? ⟨p, 1, none⟩ = some (.int .u32 h1) ∧ w'.cell? ⟨p, 2, none⟩ = some (.int .u32 h2) ∧ w'.cell? ⟨p, 3, none⟩ = some (.int .u32 h3) ∧ w'.cell? ⟨p, 4, none⟩ = some (.int .u32 h4) ∧
      w'.cell? ⟨p, 5, none⟩ = some (.int .u32 h5) ∧ w'.cell? ⟨p, 6, none⟩ = some (.int .u32 h6) ∧ w'.cell? ⟨p, 7, none⟩ = some (.int .u32 h7) ∧ w'.cell? ⟨p, 8, none⟩ = some (.slice a rest.length cap))
    (first
      | exact ⟨(hb3.cell (p := ⟨p, 0, none⟩) hplt).trans q0, (hb3.cell (p := ⟨p, 1, none⟩) hplt).trans q1, (hb3.cell (p := ⟨p, 2, none⟩) hplt).trans q2, (hb3.cell (p := ⟨p, 3, none⟩) hplt).trans q3, (hb3.cell (p := ⟨p, 4, none⟩) hplt).trans q4,
          (hb3.cell (p := ⟨p, 5, none⟩) hplt).trans q5, (hb3.cell (p := ⟨p, 6, none⟩) hplt).trans q6, (hb3.cell (p := ⟨p, 7, none⟩) hplt).trans q7, (hb3.cell (p := ⟨p, 8, none⟩) hplt).trans q8⟩
      | go_keep)
    (first | (go_at_call 21; with_reducible refine (HCL.out _ hB0).mono ?_; rintro e w3 ⟨a3, c3, rfl, hO3, hb3⟩))
  replace hb3 : Below w.heap.size w w3 := (Below.refl w.heap.size w).drew.trans hb3
  replace hO3 : OwnB w3 w.heap.size (.slice a3 rest.length c3) rest := hO3
  have hE := Blk.made (w := w3) rfl (st8 h0 h1 h2 h3 h4 h5 h6 h7 (.slice a3 rest.length c3) 0) 46
  have hP1 := (HP.out.below hb3 HP.out.lt).alloc (.cells (st8 h0 h1 h2 h3 h4 h5 h6 h7 (.slice a3 rest.length c3) 0).toArray 46)
  have hO1 := hO3.alloc (.cells (st8 h0 h1 h2 h3 h4 h5 h6 h7 (.slice a3 rest.length c3) 0).toArray 46)
  have hb1 : Below w.heap.size w (w3.alloc (.cells (st8 h0 h1 h2 h3 h4 h5 h6 h7 (.slice a3 rest.length c3) 0).toArray 46)) := (show Below w.heap.size w w3 from hb3).alloc hb3.size _
  have hsz1 : (w3.alloc (.cells (st8 h0 h1 h2 h3 h4 h5 h6 h7 (.slice a3 rest.length c3) 0).toArray 46)).heap.size = w3.heap.size + 1 := by show (w3.heap.push _).size = _; exact Array.size_push _
  have hF : w.heap.size ≤ w3.heap.size := hb3.size
  change OwnB _ w.heap.size _ _ at hO1
  clear hO3 hb3 q0 q1 q2 q3 q4 q5 q6 q7 q8 hB0 HCL hB hv hcap HP
  show Exit.then _ _ Exit.normal _ (w3.alloc (.cells (st8 h0 h1 h2 h3 h4 h5 h6 h7 (.slice a3 rest.length c3) 0).toArray 46))
  generalize w3.alloc (.cells (st8 h0 h1 h2 h3 h4 h5 h6 h7 (.slice a3 rest.length c3) 0).toArray 46) = W1 at *
  generalize w3.heap.size = F at *
  go_upto_region 5 with fail
  have hpad0 : OwnB (W1.alloc (.cells #[.int .u8 128] 5)) (F + 1) (.slice (some ⟨W1.heap.size, 0, none⟩) 1 1) (padTo 0) :=
    ⟨by simp [byv, padTo], .inr ⟨W1.heap.size, 1, #[.int .u8 128], rfl, by omega, by show (W1.heap.push _)[W1.heap.size]? = _; simp, by decide, by decide, rfl, rfl⟩⟩
  have hb2 : Below (F + 1) W1 (W1.alloc (.cells #[.int .u8 128] 5)) := (Below.refl _ _).alloc (by omega) _
  generalize W1.alloc (.cells #[.int .u8 128] 5) = W2 at *
  rw [hsz1] at hpad0
  go_loopg [4] (padz n) (fun G c wr => ∃ (z : Nat) (a' : Option Addr) (c' : Nat), z ≤ padz n ∧ G = padz n - z ∧ c = .slice a' (z + 1) c' ∧ OwnB wr (F + 1) (.slice a' (z + 1) c') (padTo z) ∧ Below (F + 1) W1 wr)
  case atStart => exact ⟨0, _, _, Nat.zero_le _, rfl, rfl, hpad0, hb2⟩
  case round =>
    clear hpad0 hb2
    obtain ⟨z, a', c', hz, rfl, rfl, hO, hb⟩ := hrel
    have hP2 := hP1.below hb (by omega)
    have q9 := hP2.cell 9 _ rfl
    have HPT := Lib.hid (padTo_succ z)
    have HPL := Lib.hid (padTo_length z)
    have hzz : padz n < 64 := by unfold padz; omega
    have w1 : IntKind.i64.wrap ((n : Int) + ((z : Int) + 1)) = (n : Int) + (z : Int) + 1 := by rw [IntKind.wrap_i64]; omega
    have w2 : IntKind.i64.wrap ((n : Int) + (z : Int) + 1 + 8) = ((n + z + 9 : Nat) : Int) := by rw [IntKind.wrap_i64]; omega
    have w3 : (0 : Int) ≤ ((n + z + 9 : Nat) : Int) := Int.natCast_nonneg _
    by_cases hlt : z < padz n
    · have hmod : ¬ (((n + z + 9 : Nat) : Int) % 64 = 0) := by unfold padz at hlt; omega
      generalize n + z + 9 = y at *
      go_wp2_with (at_builtin; refine append_bytes rfl _ _ rfl (F + 1) _ (padTo z) [0] ⟨wr.heap.size, 0, none⟩ 1 rfl rfl (hO.alloc _) (Bys.new wr [0] 5) (by rw [HPL.out]; simp; omega) (by have := hb.size; simp <;> omega) ?_)
      intro a3' c3' w4 hO4 hg4 _
      rw [← HPT.out, HPL.out] at hO4
      rw [HPL.out]
      have hb4 := (hb.alloc (by have := hb.size; omega) (.cells (byv [0]).toArray 5)).grown hg4 (by have := hb.size; simp <;> omega) (fun k hk => (hO.ownBlock_lt hk).1)
      go_wp2
      go_roundg (padz n - (z + 1))
      case measure => omega
      case rel => exact ⟨z + 1, a3', c3', by omega, rfl, rfl, hO4, hb4⟩
    · have hze : z = padz n := by omega
      have hmod : ((n + z + 9 : Nat) : Int) % 64 = 0 := by rw [hze]; unfold padz; omega
      subst hze
      generalize hpz : padz n = zz at *
      have HZZ := Lib.hid hpz
      clear hpz
      generalize hy : n + zz + 9 = y at *
      clear HPT HPL hy
      go_upto_region 8 with fail
      go_loopg [4, 5] 8 (fun G c d wr => ∃ (j : Nat) (a' : Option Addr) (c' : Nat), j ≤ 8 ∧ G = 8 - j ∧ d = .int .i64 (56 - 8 * (j : Int)) ∧ c = .slice a' (zz + 1 + j) c' ∧ OwnB wr (F + 1) (.slice a' (zz + 1 + j) c') (padTo zz ++ be64 (8 * n) j) ∧ Below (F + 1) W1 wr)
      case atStart => exact ⟨0, a', c', by omega, rfl, rfl, rfl, by simpa [be64] using hO, hb⟩
      case round =>
        clear hO hb q9 hP2 w1 w2 w3 hmod
        obtain ⟨j, a', c', hj, rfl, rfl, rfl, hO, hb⟩ := hrel
        have hP2 := hP1.below hb (by omega)
        have q9 := hP2.cell 9 _ rfl
        by_cases hlt : j < 8
        · have g0 : (56 - 8 * (j : Int)) ≥ 0 := by omega
          have n0 : (0 : Int) ≤ (n : Int) := Int.natCast_nonneg _
          obtain ⟨b, hbb, hbyte⟩ := be_byte n j
          have HBB := Lib.hid (show padTo zz ++ be64 (8 * n) (j + 1) = padTo zz ++ be64 (8 * n) j ++ [b] by rw [be64_succ, hbb, List.append_assoc])
          have HLL := Lib.hid (show (padTo zz ++ be64 (8 * n) j).length = zz + 1 + j by rw [List.length_append, padTo_length, be64_length])
          have HOO := Lib.hid hO
          clear hbb
          generalize padTo zz ++ be64 (8 * n) j = cur at *
          go_wp2_with (at_builtin; refine append_bytes rfl _ _ rfl (F + 1) _ cur [b] ⟨wr.heap.size, 0, none⟩ 1 rfl rfl (HOO.out.alloc _) (Bys.new wr [b] 5) (by rw [HLL.out]; simp; omega) (by have := hb.size; simp <;> omega) ?_)
          intro a3' c3' w4 hO4 hg4 _
          rw [← HBB.out, HLL.out] at hO4
          rw [HLL.out]
          have hb4 := (hb.alloc (by have := hb.size; omega) (.cells (byv [b]).toArray 5)).grown hg4 (by have := hb.size; simp <;> omega) (fun k hk => (HOO.out.ownBlock_lt hk).1)
          clear hbyte
          go_wp2
          go_roundg (8 - (j + 1))
          case measure => omega
          case rel => exact ⟨j + 1, a3', c3', by omega, rfl, by go_num, rfl, hO4, hb4⟩
        · have hj8 : j = 8 := by omega
          subst hj8
          go_upto_region 11 with fail
          have HLL := Lib.hid (show (padTo zz ++ be64 (8 * n) 8).length = zz + 1 + 8 by rw [List.length_append, padTo_length, be64_length])
          have HOO := Lib.hid hO
          have HPAD := Lib.hid (show padTo zz ++ be64 (8 * n) 8 = padB n by rw [← HZZ.out]; rfl)
          generalize padTo zz ++ be64 (8 * n) 8 = pd at *
          obtain ⟨a0, c0, e0, hcc, hB⟩ := hO.row
          have hE2 : Blk wr F (wds hs ++ [.slice a3 rest.length c3, .int .i64 ((0 : Nat) : Int)]) 46 := by rw [e8]; exact hE.below hb (by omega)
          have hO2 := hO1.keep (by omega) hb
          rw [HLL.out] at e0
          simp only [Value.slice.injEq] at e0
          obtain ⟨rfl, -, rfl⟩ := e0
          have hpl : pd.length ≤ 4294967296 := by rw [HLL.out]; omega
          have hx1 : ∀ x, a' = some x → F + 1 ≤ x.block := fun x e => (hO.ownBlock_lt (g := x.block) (by rw [e]; rfl)).1
          have hW := HWR.out wr F w.heap.size (.slice a3 rest.length c3) pd a' c' (by have := hb.size; omega) hE2 hO2 (hB.from (Nat.zero_le _)) (fun x e => .inr (by have := hx1 x e; omega))
            (fun x e => .inr fun c => by have := (hO1.ownBlock_lt c).2; have := hx1 x e; omega) hO.cap0 (by rw [HLL.out]; omega)
          rw [HLL.out] at hW
          have HWW := Lib.hid hW
          clear hW q9 hP2
          go_wp2_with fail
          refine HWW.out.mono ?_
          rintro e w5 ⟨a5, c5, rfl, hE5, hO5, hT5⟩
          have hb5 : Below w.heap.size w w5 := hb1.trans ((hb.mono (by omega)).trans (hT5.below (by have := hb.size; omega) (by omega) (fun k e => (hO2.ownBlock_lt e).1)))
          have HEQ := Lib.hid (show sumF hs rest n = outB (absk hs (rest ++ pd) ((rest ++ pd).length / 64)) by rw [HPAD.out]; rfl)
          have hw8 := HABS.out (rest ++ pd) ((rest ++ pd).length / 64)
          have hwt := HABT.out (rest ++ pd) ((rest ++ pd).length / 64)
          clear hE hP1 hO1 hb1 hE2 hO2 hB hO hb hx1 HOO HPAD hT5 hO5 HWW
          generalize absk hs (rest ++ pd) ((rest ++ pd).length / 64) = ws at *
          obtain ⟨x0, x1, x2, x3, x4, x5, x6, x7, rfl⟩ := eight hw8
          generalize Value.slice a5 ((rest ++ pd).length % 64) c5 = v5 at *
          have q0 := hE5.cell 0 _ rfl
          have q1 := hE5.cell 1 _ rfl
          have q2 := hE5.cell 2 _ rfl
          have q3 := hE5.cell 3 _ rfl
          have q4 := hE5.cell 4 _ rfl
          have q5 := hE5.cell 5 _ rfl
          have q6 := hE5.cell 6 _ rfl
          have q7 := hE5.cell 7 _ rfl
          clear hw8
          go_upto_region 14 with fail
          go_loopg [6, 59] 8 (fun G c d wr => ∃ (i : Nat), i ≤ 8 ∧ G = 8 - i ∧ d = .int .i64 (i : Int) ∧ OwnB wr w.heap.size c (outB ([x0, x1, x2, x3, x4, x5, x6, x7].take i)) ∧ Below w.heap.size w wr)
          case atStart => exact ⟨0, by omega, rfl, rfl, OwnB.nil _ _, hb5⟩
          case round =>
            clear hb5 q0 q1 q2 q3 q4 q5 q6 q7 hE5
            obtain ⟨i, hi, rfl, rfl, hO, hb⟩ := hrel
            by_cases hlt : i < 8
            · have i0 : (0 : Int) ≤ (i : Int) := Int.natCast_nonneg _
              have i8 : (i : Int) < 8 := by omega
              have hidx := idx44 x0 x1 x2 x3 x4 x5 x6 x7 i hlt
              have HT := Lib.hid (outB_take (ws := [x0, x1, x2, x3, x4, x5, x6, x7]) (i := i) hlt)
              have hxlt := hwt i
              generalize ([x0, x1, x2, x3, x4, x5, x6, x7] : List Nat).getD i 0 = x at *
              obtain ⟨b0, b1, b2, b3, hbw, e0, e1, e2, e3⟩ := word_bytes x hxlt
              rw [hbw] at HT
              have HOO := Lib.hid hO
              have hol := outB_length ([x0, x1, x2, x3, x4, x5, x6, x7].take i)
              have HOL := Lib.hid (show (outB ([x0, x1, x2, x3, x4, x5, x6, x7].take i)).length ≤ 32 by rw [hol, List.length_take]; omega)
              clear hbw hol
              generalize outB ([x0, x1, x2, x3, x4, x5, x6, x7].take i) = cur at *
              go_upto_region 16 with fail
              go_wp2_with (at_builtin; refine append_bytes rfl _ _ rfl w.heap.size _ cur [b0, b1, b2, b3] ⟨wr.heap.size, 0, none⟩ 4 rfl rfl (HOO.out.alloc _) (Bys.new wr [b0, b1, b2, b3] 5) (by have := HOL.out; simp; omega) (by have := hb.size; simp <;> omega) ?_)
              intro a3' c3' w4 hO4 hg4 _
              rw [← HT.out] at hO4
              have hb4 := (hb.alloc hb.size (.cells (byv [b0, b1, b2, b3]).toArray 5)).grown hg4 (by have := hb.size; simp <;> omega) (fun k hk => (HOO.out.ownBlock_lt hk).1)
              clear e0 e1 e2 e3 hidx
              go_wp2
              go_roundg (8 - (i + 1))
              case measure => omega
              case rel => exact ⟨i + 1, by omega, rfl, by go_num, hO4, hb4⟩
            · have hi8 : i = 8 := by omega
              subst hi8
              have hconv := conv_str hO
              unfold str at hconv
              have HF := Lib.hid (show sumF hs rest n = outB ([x0, x1, x2, x3, x4, x5, x6, x7].take 8) from HEQ.out)
              generalize outB ([x0, x1, x2, x3, x4, x5, x6, x7].take 8) = cur at *
              go_wp2
              go_ret
              refine ⟨?_, hb⟩
              rw [HF.out]
              rfl

end Go.Proofs.Ytogpecgbgfcdcaa
