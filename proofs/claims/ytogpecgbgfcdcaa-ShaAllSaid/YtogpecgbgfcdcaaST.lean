/- The contract of the reference's Sha; the walk of ShaAll. -/
import Derived.Test.YtogpecgbgfcdcaaSR
import Derived.Test.YtogpecgbgfcdcaaSK
import Derived.Deep.RegionHeldLaw
namespace Go.Proofs.Ytogpecgbgfcdcaa
open Go.RowKit

theorem absk_prefix (hs : List Nat) (a p : List UInt8) : ∀ k, 64 * k ≤ a.length → absk hs (a ++ p) k = absk hs a k := by
  intro k
  induction k with
  | zero => intro _; rfl
  | succ k ih =>
    intro hk
    rw [absk, absk, ih (by omega), List.drop_append_of_le_length (by omega), List.take_append_of_le_length (by rw [List.length_drop]; omega)]
theorem absk_more (hs : List Nat) (a p : List UInt8) (q : Nat) (hq : 64 * q ≤ a.length) : ∀ k, absk (absk hs a q) (a.drop (64 * q) ++ p) k = absk hs (a ++ p) (q + k) := by
  intro k
  induction k with
  | zero => exact (absk_prefix hs a p q hq).symm
  | succ k ih =>
    rw [absk, ih, show q + (k + 1) = (q + k) + 1 from rfl, absk, show 64 * (q + k) = 64 * q + 64 * k by omega, ← List.drop_drop, List.drop_append_of_le_length hq]
theorem shaF_whole (bs : List UInt8) : shaF bs = outB (absk hwords (bs ++ padB bs.length) ((bs ++ padB bs.length).length / 64)) := by
  unfold shaF sumF
  rw [absk_more hwords bs _ _ (by omega)]
  congr 2
  rw [List.length_append, List.length_append, List.length_drop]
  omega

theorem wp_append_bytes {w : World} {o : Oper} {a : Act} {K : Act → World → Prop} {Q : Exit → Act → World → Prop} (hgd : o.guard = none) (s x : Operand)
    (ho : o.op = .call { callee := .builtin .append, args := #[s, x], argTypes := #[22, 22] }) (B : Nat) (v : Value) (bs cs : List UInt8) (ad : Addr) (c : Nat)
    (hs : a.eval s = v) (hx : a.eval x = .slice (some ad) cs.length c) (hown : OwnB w B v bs) (hz : Bys 0 w (some ad) cs) (h0 : 0 < cs.length) (hl : bs.length + cs.length ≤ 4294967296) (hB : B ≤ w.heap.size)
    (h : ∀ a' cap' w', OwnB w' B (.slice a' (bs.length + cs.length) cap') (bs ++ cs) → w.grownBy w' v.ownBlock → K (a.put o.dst (.slice a' (bs.length + cs.length) cap')) w') : Oper.wp Try.prog o a w K Q := by
  have := step_append_bytes (ops := #[]) (E := False) (Q := Q) hgd s x ho B v bs cs ad c hs hx hown hz h0 hl hB h
  rwa [if_pos (by simp [Region.wanted, hgd])] at this

set_option maxRecDepth 1000000 in
set_option maxHeartbeats 8000000 in
theorem rsha_any (w : World) (a : Option Addr) (cap : Nat) (bs : List UInt8) (hb : Bys 0 w a bs) (hcap : a = none → cap = 0) (hl : bs.length ≤ 1048576) :
    Calls Try.prog 9 #[.slice a bs.length cap] w fun e w' => e = .returned (str (shaF bs)) ∧ Below w.heap.size w w' := by
  rw [shaF_whole]
  have l0 : (0 : Int) ≤ (bs.length : Int) := Int.natCast_nonneg _
  unfold str
  go_enter Try.func9, Try.ntmps9
  go_wp2_with (at_builtin; refine append_any rfl _ _ rfl w.heap.size _ [] bs a cap rfl rfl hcap ?hown (hb.alloc _) (by simp; omega) (by simp) ?_)
  case hown => exact ⟨by simp [byv], .inr ⟨w.heap.size, 0, #[], rfl, Nat.le_refl _, by show (w.heap.push _)[w.heap.size]? = _; simp, Nat.le_refl _, by decide, rfl, rfl⟩⟩
  intro a1 c1 w1 hO1 hg1
  have hb1 : Below w.heap.size w w1 := ((Below.refl _ _).alloc (Nat.le_refl _) _).grown hg1 (by simp) (fun k e => by simp [Value.ownBlock] at e; omega)
  clear hg1 hb hcap
  go_wp2_with (at_builtin; refine append_bytes rfl _ _ rfl w.heap.size _ bs [128] ⟨w1.heap.size, 0, none⟩ 1 rfl rfl (hO1.alloc _) (Bys.new w1 [128] 5) (by simp; omega) (by have := hb1.size; simp <;> omega) ?_)
  intro a2 c2 w2 hO2 hg2 _
  have hb2 := (hb1.alloc hb1.size (.cells (byv [128]).toArray 5)).grown hg2 (by have := hb1.size; simp <;> omega) (fun k hk => (hO1.ownBlock_lt hk).1)
  clear hO1 hg2 hb1
  have hO2' : OwnB w2 w.heap.size (.slice a2 (bs.length + 1) c2) (bs ++ padTo 0) := hO2
  clear hO2
  go_wp2_with fail
  go_loopg [3] (padz bs.length) (fun G s wr => ∃ (z : Nat) (a' : Option Addr) (c' : Nat), z ≤ padz bs.length ∧ G = padz bs.length - z ∧ s = .slice a' (bs.length + 1 + z) c' ∧ OwnB wr w.heap.size (.slice a' (bs.length + 1 + z) c') (bs ++ padTo z) ∧ Below w.heap.size w wr)
  case atStart => exact ⟨0, a2, c2, Nat.zero_le _, rfl, rfl, hO2', hb2⟩
  case round =>
    clear hO2' hb2
    obtain ⟨z, a', c', hz, rfl, rfl, hO, hb⟩ := hrel
    have HPT := Lib.hid (show bs ++ padTo (z + 1) = (bs ++ padTo z) ++ [0] by rw [padTo_succ, List.append_assoc])
    have HPL := Lib.hid (show (bs ++ padTo z).length = bs.length + 1 + z by rw [List.length_append, padTo_length]; omega)
    have hzz : padz bs.length < 64 := by unfold padz; omega
    have HOO := Lib.hid hO
    by_cases hlt : z < padz bs.length
    · have hmod : ¬ (((bs.length : Int) + 1 + (z : Int)) % 64 = 56) := by unfold padz at hlt; omega
      have hnn : (0 : Int) ≤ (bs.length : Int) + 1 + (z : Int) := by omega
      generalize bs ++ padTo z = cur at *
      go_wp2_with (at_builtin; refine append_bytes rfl _ _ rfl w.heap.size _ cur [0] ⟨wr.heap.size, 0, none⟩ 1 rfl rfl (HOO.out.alloc _) (Bys.new wr [0] 5) (by rw [HPL.out]; simp; omega) (by have := hb.size; simp <;> omega) ?_)
      intro a3' c3' w4 hO4 hg4 _
      rw [← HPT.out, HPL.out] at hO4
      rw [HPL.out]
      have hb4 := (hb.alloc hb.size (.cells (byv [0]).toArray 5)).grown hg4 (by have := hb.size; simp <;> omega) (fun k hk => (HOO.out.ownBlock_lt hk).1)
      go_wp2
      go_roundg (padz bs.length - (z + 1))
      case measure => omega
      case rel => exact ⟨z + 1, a3', c3', by omega, rfl, rfl, hO4, hb4⟩
    · have hze : z = padz bs.length := by omega
      have hmod : ((bs.length : Int) + 1 + (z : Int)) % 64 = 56 := by rw [hze]; unfold padz; omega
      have hnn : (0 : Int) ≤ (bs.length : Int) + 1 + (z : Int) := by omega
      subst hze
      generalize hpz : padz bs.length = zz at *
      have HZZ := Lib.hid hpz
      clear HPT HPL hpz
      go_upto_region 7 with fail
      go_loopg [3, 5] 8 (fun G c d wr => ∃ (j : Nat) (a' : Option Addr) (c' : Nat), j ≤ 8 ∧ G = 8 - j ∧ d = .int .i64 (7 - (j : Int)) ∧ c = .slice a' (bs.length + 1 + zz + j) c' ∧ OwnB wr w.heap.size (.slice a' (bs.length + 1 + zz + j) c') (bs ++ padTo zz ++ be64 (8 * bs.length) j) ∧ Below w.heap.size w wr)
      case atStart => exact ⟨0, a', c', by omega, rfl, rfl, rfl, by simpa [be64] using HOO.out, hb⟩
      case round =>
        clear hO HOO hb hmod hnn
        obtain ⟨j, a', c', hj, rfl, rfl, rfl, hO, hb⟩ := hrel
        have HLL := Lib.hid (show (bs ++ padTo zz ++ be64 (8 * bs.length) j).length = bs.length + 1 + zz + j by rw [List.length_append, List.length_append, padTo_length, be64_length]; omega)
        have HOO := Lib.hid hO
        by_cases hlt : j < 8
        · have g0 : (7 - (j : Int)) ≥ 0 := by omega
          obtain ⟨b, hbb, hbyte⟩ := be_byte bs.length j
          have HBB := Lib.hid (show bs ++ padTo zz ++ be64 (8 * bs.length) (j + 1) = bs ++ padTo zz ++ be64 (8 * bs.length) j ++ [b] by rw [be64_succ, hbb, List.append_assoc (bs ++ padTo zz)])
          clear hbb
          rw [show 56 - 8 * j = 8 * (7 - j) by omega] at hbyte
          generalize bs ++ padTo zz ++ be64 (8 * bs.length) j = cur at *
          go_upto_region 9 with fail
          go_wp2_with (at_builtin; refine append_bytes rfl _ _ rfl w.heap.size _ cur [b] ⟨wr.heap.size, 0, none⟩ 1 rfl rfl (HOO.out.alloc _) (Bys.new wr [b] 5) (by rw [HLL.out]; simp; omega) (by have := hb.size; simp <;> omega) ?_)
          intro a3' c3' w4 hO4 hg4 _
          rw [← HBB.out, HLL.out] at hO4
          rw [HLL.out]
          have hb4 := (hb.alloc hb.size (.cells (byv [b]).toArray 5)).grown hg4 (by have := hb.size; simp <;> omega) (fun k hk => (HOO.out.ownBlock_lt hk).1)
          clear hbyte
          go_wp2
          go_roundg (8 - (j + 1))
          case measure => omega
          case rel => exact ⟨j + 1, a3', c3', by omega, rfl, by go_num, rfl, hO4, hb4⟩
        · have hj8 : j = 8 := by omega
          subst hj8
          have HM := Lib.hid (show bs ++ padTo zz ++ be64 (8 * bs.length) 8 = bs ++ padB bs.length by rw [List.append_assoc, ← HZZ.out]; rfl)
          have hOm := HOO.out
          rw [HM.out, show bs.length + 1 + zz + 8 = (bs ++ padB bs.length).length by rw [← HLL.out, HM.out]] at hOm
          have HML := Lib.hid (show (bs ++ padB bs.length).length % 64 = 0 by rw [← HM.out, HLL.out, ← HZZ.out]; unfold padz; omega)
          have HME := Lib.hid (show bs.length + 1 + zz + 8 = (bs ++ padB bs.length).length by rw [← HLL.out, HM.out])
          rw [HME.out]
          have hM24 : (bs ++ padB bs.length).length ≤ 1048700 := by rw [← HME.out]; omega
          clear hO HOO HLL HM
          generalize hMM : bs ++ padB bs.length = M at *
          have HMM := Lib.hid hMM
          clear hMM
          obtain ⟨am, cm, em, hcm, hBm⟩ := hOm.row
          simp only [Value.slice.injEq] at em
          obtain ⟨rfl, -, rfl⟩ := em
          go_upto_region 11 with fail
          have hH0 := (Blk.made (w := wr) rfl (wds hwords) 40).wd
          have hbH : Below wr.heap.size wr (wr.alloc (.cells (wds hwords).toArray 40)) := (Below.refl _ _).alloc (Nat.le_refl _) _
          have hBm1 := hBm.below hbH
          have hbw := hb.trans (hbH.mono hb.size)
          have hs0 := hb.size
          clear hbH hb hBm hOm
          change Code.wp _ _ _ _ (wr.alloc (.cells (wds hwords).toArray 40))
          generalize hHh : wr.heap.size = H0 at *
          generalize wr.alloc (.cells (wds hwords).toArray 40) = wh at *
          go_wp2_with fail
          refine (keys_ref _).mono ?_
          rintro e wk ⟨K, rfl, hKb, hKs, hbk⟩
          have hK := hKb.wd
          have hH1 := hH0.below hbk hH0.1
          have hBm2 := hBm1.below hbk
          have hbw2 := hbw.trans (hbk.mono hbw.size)
          have hwh : ∀ i, hwords.getD i 0 < 4294967296 := fun i => by
            by_cases h : i < 8
            · exact (by decide +kernel : ∀ i, i < 8 → hwords.getD i 0 < 4294967296) i h
            · rw [List.getD, List.getElem?_eq_none (by show 8 ≤ i; omega)]; decide
          have HABS := Lib.hid (fun k => absk_length hwords M rfl k)
          have HABT := Lib.hid (fun k => absk_lt hwords M hwh k)
          clear hH0 hBm1 hbw hKb hKs hbk hwh
          go_upto_region 13 with fail
          go_loopg [6, 8] M.length (fun G s c wr => ∃ (k V : Nat), 64 * k ≤ M.length ∧ G = M.length - 64 * k ∧ c = .int .i64 ((64 * k : Nat) : Int) ∧ s = .slice (some ⟨V, 0, none⟩) 8 8 ∧ Wd wr V (absk hwords M k) ∧ Below wk.heap.size wk wr)
          case atStart => exact ⟨0, H0, by omega, rfl, rfl, rfl, hH1, Below.refl _ _⟩
          case round =>
            clear hH1
            obtain ⟨k, V, hk, rfl, rfl, rfl, hV, hbr⟩ := hrel
            have hBr := hBm2.below hbr
            have hKr := hK.below hbr hK.1
            generalize hi : 64 * k = i at *
            have i0 : (0 : Int) ≤ (i : Int) := Int.natCast_nonneg _
            by_cases hlt : i < M.length
            · have hge : i + 64 ≤ M.length := by have := HML.out; omega
              have i1 : (i : Int) < (M.length : Int) := by omega
              have i2 : (i : Int) + 64 ≤ (M.length : Int) := by omega
              have i3 : (i : Int) ≤ (i : Int) + 64 := by omega
              have hwi : IntKind.i64.wrap ((i : Int) + 64) = (i : Int) + 64 := by rw [IntKind.wrap_i64]; omega
              obtain ⟨b, off, rfl⟩ : ∃ b off, a' = some ⟨b, off, none⟩ := by
                rcases hBr with h | ⟨b, off, e, _⟩
                · have : M = [] := by simpa [nums] using h
                  rw [this] at hlt; simp at hlt
                · exact ⟨b, off, e⟩
              have hB64 := ((hBr.drop i (by omega) (by omega)).take 64).from (Nat.zero_le _)
              have HROUND := Lib.hid (fun c => rround_any wr V K (absk hwords M k) (some ⟨b, off + i, none⟩) c ((M.drop i).take 64) hV (HABS.out k) hB64 (by rw [List.length_take, List.length_drop]; omega) (HABT.out k) hKr)
              have HN := Lib.hid (show absk hwords M (k + 1) = comp (absk hwords M k) ((M.drop (64 * k)).take 64) from rfl)
              rw [hi] at HN
              clear hB64
              go_wp2_with fail
              refine (HROUND.out _).mono ?_
              rintro e wq ⟨R, rfl, hRs, hRb, hbq⟩
              have hbr2 := hbr.trans (hbq.mono hbr.size)
              have hRw := hRb.wd
              have HII := Lib.hid hi
              clear HROUND hi hV hRb hbq hBr hKr hbr
              go_wp2
              go_roundg (M.length - 64 * (k + 1))
              case measure => have := HII.out; omega
              case rel =>
                have := HII.out
                exact ⟨k + 1, R, by omega, rfl, by congr 1; omega, rfl, by rw [HN.out]; exact hRw, hbr2⟩
            · have hie : k = M.length / 64 := by omega
              have HRES := Lib.hid (show absk hwords M (M.length / 64) = absk hwords M k by rw [← hie])
              have hw8 := HABS.out k
              have hwt := HABT.out k
              clear hie
              generalize absk hwords M k = ws at *
              have hbz := hbw2.trans (hbr.mono hbw2.size)
              clear hBr hKr hi
              go_upto_region 18 with fail
              obtain ⟨wo, rfl⟩ : ∃ wo : World, wo = wr := ⟨_, rfl⟩
              have hVlt := hV.1
              go_loopg [9, 10] 8 (fun G c d ws' => ∃ (q : Nat), q ≤ 8 ∧ G = 8 - q ∧ d = .int .i64 (q : Int) ∧ OwnB ws' wo.heap.size c (outB (ws.take q)) ∧ Below wo.heap.size wo ws')
              case atStart => exact ⟨0, by omega, rfl, rfl, by simpa [outB] using OwnB.nil _ _, Below.refl _ _⟩
              case round =>
                obtain ⟨q, hq, rfl, rfl, hO, hbo⟩ := hrel
                by_cases hlt2 : q < 8
                · have i0' : (0 : Int) ≤ (q : Int) := Int.natCast_nonneg _
                  have i8 : (q : Int) < 8 := by omega
                  have hxc := (hV.below hbo hVlt).2 q (by omega)
                  have HT := Lib.hid (outB_take (ws := ws) (i := q) (by omega))
                  have hxlt := hwt q
                  generalize ws.getD q 0 = x at *
                  obtain ⟨b0, b1, b2, b3, hbw4, e0, e1, e2, e3⟩ := word_bytes x hxlt
                  rw [hbw4] at HT
                  have HOO := Lib.hid hO
                  have hol := outB_length (ws.take q)
                  have HOL := Lib.hid (show (outB (ws.take q)).length ≤ 32 by rw [hol, List.length_take]; omega)
                  clear hbw4 hol
                  generalize outB (ws.take q) = cur at *
                  have hbs' := hbo.size
                  have hV2 : V < wr.heap.size := by omega
                  have HNE := Lib.hid (fun k (e : _ = some k) => (hO.ownBlock_lt (g := k) e).1)
                  have BD : Below wo.heap.size wo wr.drew := hbo.drew
                  have HKEEP : Hid (∀ w', Below wo.heap.size wo w' → w'.cell? ⟨V, q, none⟩ = some (.int .u32 x)) := fun w' h => by
                    rw [h.cell (p := ⟨V, q, none⟩) hVlt, ← hbo.cell (p := ⟨V, q, none⟩) hVlt]; exact hxc
                  have ww0 : IntKind.u8.wrap ((b0.toNat : Nat) : Int) = ((b0.toNat : Nat) : Int) := by rw [IntKind.wrap_u8']; have := b0.toNat_lt; omega
                  have ww1 : IntKind.u8.wrap ((x : Int) / 65536) = ((b1.toNat : Nat) : Int) := by rw [IntKind.wrap_u8']; exact e1
                  have ww2 : IntKind.u8.wrap ((x : Int) / 256) = ((b2.toNat : Nat) : Int) := by rw [IntKind.wrap_u8']; exact e2
                  have ww3 : IntKind.u8.wrap (x : Int) = ((b3.toNat : Nat) : Int) := by rw [IntKind.wrap_u8']; exact e3
                  have HOA := Lib.hid (OwnB.alloc (w := wr.drew) hO (.cells (byv [b0, b1, b2, b3]).toArray 5))
                  have HZ := Lib.hid (Bys.new wr.drew [b0, b1, b2, b3] 5)
                  have H04 := Lib.hid (show 0 < [b0, b1, b2, b3].length by simp)
                  have HLEN := Lib.hid (show cur.length + [b0, b1, b2, b3].length ≤ 4294967296 by have := HOL.out; simp; omega)
                  have HBB := Lib.hid (show wo.heap.size ≤ (wr.drew.alloc (.cells (byv [b0, b1, b2, b3]).toArray 5)).heap.size by simp; omega)
                  have HGR : Hid (∀ w4, (wr.drew.alloc (.cells (byv [b0, b1, b2, b3]).toArray 5)).grownBy w4 u9.ownBlock → Below wo.heap.size wo w4) := fun w4 hg => (BD.alloc hbs' (.cells (byv [b0, b1, b2, b3]).toArray 5)).grown hg HBB.out HNE.out
                  go_upto_region 20 with fail
                  go_region_held_law (fun w' => w'.cell? ⟨V, q, none⟩ = some (.int .u32 x))
                    (first
                      | exact HKEEP.out _ hb4
                      | go_keep)
                    (first
                      | (rw [if_pos (by rfl)]
                         refine wp_append_bytes rfl (.tmp 61) (.tmp 85) rfl wo.heap.size u9 cur [b0, b1, b2, b3] ⟨wr.heap.size, 0, none⟩ 4 rfl rfl HOA.out HZ.out H04.out HLEN.out HBB.out ?_
                         intro a3' c3' w4 hO4 hg4
                         have hb4 := HGR.out _ hg4))
                  all_goals
                    rw [← HT.out] at hO4
                    clear e0 e1 e2 e3 ww0 ww1 ww2 ww3
                    go_wp2
                    go_roundg (8 - (q + 1))
                    case measure => omega
                    case rel => exact ⟨q + 1, by omega, rfl, by go_num, hO4, hb4⟩
                · have hq8 : q = 8 := by omega
                  subst hq8
                  rw [List.take_of_length_le (by omega)] at hO
                  have hconv := conv_str hO
                  unfold str at hconv
                  have HFIN := Lib.hid (show outB (absk hwords M (M.length / 64)) = outB ws by rw [HRES.out])
                  have hbf := hbz.trans (hbo.mono hbz.size)
                  generalize outB ws = cur at *
                  go_wp2
                  go_ret
                  refine ⟨?_, hbf⟩
                  rw [HMM.out, HFIN.out]
                  rfl

/-- Bytes told as numbers, as bytes. -/
theorem nums_back (ns : List Int) (h : ∀ i, 0 ≤ ns.getD i 0 ∧ ns.getD i 0 ≤ 255) : nums (ns.map fun n => UInt8.ofNat n.toNat) = ns := by
  apply List.ext_getElem
  · simp [nums]
  · intro i h1 h2
    have := h i
    rw [List.getD, List.getElem?_eq_getElem h2, Option.getD_some] at this
    simp only [nums, List.map_map, List.getElem_map, Function.comp_apply, UInt8.toNat_ofNat']
    omega

set_option maxRecDepth 100000 in
set_option maxHeartbeats 4000000 in
theorem shaAll_walk (w : World) (a : Option Addr) (cap : Nat) (bs : List UInt8) (hb : Bys 0 w a bs) (hcap : a = none → cap = 0) (hlt : ∀ x, a = some x → bs = [] ∨ x.block < w.heap.size) :
    Calls Try.prog 3 #[.slice a bs.length cap] w fun e w' => e = .returned (.bool true) ∧ Below w.heap.size w w' := by
  by_cases c0 : bs.length > 1000
  · have c0' : (bs.length : Int) > 1000 := by omega
    go_enter Try.func3, Try.ntmps3
    go_wp2
    go_ret
    exact ⟨rfl, Below.refl _ _⟩
  · have c0' : ¬ (bs.length : Int) > 1000 := by omega
    have HS := sumb_any w a cap bs hb hcap hlt (by omega)
    have HR := Lib.hid (fun W h => rsha_any W a cap bs h hcap (by omega))
    have AW := Lib.hid awake_any
    generalize shaF bs = s at *
    unfold str at HS HR
    go_enter Try.func3, Try.ntmps3
    go_wp2_with fail
    refine HS.mono ?_
    rintro e w1 ⟨rfl, hb1⟩
    go_wp2_with fail
    refine (HR.out _ (hb.below hb1)).mono ?_
    rintro e w2 ⟨rfl, hb2⟩
    have hb12 := hb1.trans (hb2.mono hb1.size)
    go_wp2_with fail
    refine (AW.out _).mono ?_
    rintro e w3 ⟨rfl, hb3⟩
    have hb13 := hb12.trans (hb3.mono hb12.size)
    go_wp2
    go_ret
    exact ⟨rfl, hb13⟩

end Go.Proofs.Ytogpecgbgfcdcaa
