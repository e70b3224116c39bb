/- The walk of the law ShaParts (under way). -/
import Derived.Test.YtogpecgbgfcdcaaSU
import Derived.Maps.AppendAt
namespace Go.Proofs.Ytogpecgbgfcdcaa
open Go.RowKit

/-- One part: where it lies, its capacity, its bytes. -/
structure Part where
  a : Option Addr
  cap : Nat
  bs : List UInt8
def noPart : Part := ⟨none, 0, []⟩
/-- The slice at aP reads as these parts. -/
def PartsAt (w : World) (aP : Option Addr) (P : List Part) : Prop :=
  ∀ i, i < P.length → ∃ b off, aP = some ⟨b, off, none⟩ ∧ b < w.heap.size ∧ w.cell? ⟨b, off + i, none⟩ = some (.slice (P.getD i noPart).a (P.getD i noPart).bs.length (P.getD i noPart).cap) ∧
    Bys 0 w (P.getD i noPart).a (P.getD i noPart).bs ∧ ((P.getD i noPart).a = none → (P.getD i noPart).cap = 0) ∧ ∀ x, (P.getD i noPart).a = some x → (P.getD i noPart).bs = [] ∨ x.block < w.heap.size

/-- 'append(s, t...)' onto bytes of the call's own, t nil or not: and where the new bytes lie. -/
theorem append_at {w : World} {ops : Array Oper} {rest : List Oper} {o : Oper} {a : Act} {Q : Exit → Act → World → Prop} (hgd : o.guard = none) (s x : Operand)
    (ho : o.op = .call { callee := .builtin .append, args := #[s, x], argTypes := #[22, 22] }) (B : Nat) (v : Value) (bs cs : List UInt8) (ad : Option Addr) (c : Nat)
    (hs : a.eval s = v) (hx : a.eval x = .slice ad cs.length c) (hc : ad = none → c = 0) (hown : OwnB w B v bs) (hz : Bys 0 w ad cs) (hl : bs.length + cs.length ≤ 4294967296) (hB : B ≤ w.heap.size)
    (h : ∀ v' w', OwnB w' B v' (bs ++ cs) → w.grownBy w' v.ownBlock → (v'.ownBlock = v.ownBlock ∨ v'.ownBlock = some w.heap.size) → wpList Try.prog ops Q rest (a.put o.dst v') w') : wpList Try.prog ops Q (o :: rest) a w := by
  cases ad with
  | some ad =>
    obtain ⟨i0, hi, hz0, hz1, hz2⟩ := info_parts Try.info5
    refine wpList_append_own_at (P := Try.prog) w hgd s x 22 ho B 5 i0 (.int .u8 0) 1 1 Try.underlying22 hi hz0 hz1 hz2 rfl (by decide) v bs.length (byv bs) hs hown ad cs.length c (byv cs) hx (by simp [byv]) ?_ (byv_one cs) (by unfold maxLen; omega) (by omega) hB ?_
    · intro j u hj
      have hjl : j < cs.length := by have := (List.getElem?_eq_some_iff.1 hj).1; simpa [byv] using this
      rcases hz with hz | ⟨b, off, e, _, _, hcell⟩
      · have : cs = [] := by simpa [nums] using hz
        subst this; simp at hjl
      · simp only [Option.some.injEq] at e
        subst e
        rw [Addr.add_mid, hcell j (by rw [nums_length]; exact hjl)]
        rw [← hj]; simp [byv, nums, List.getD, hjl]
    · intro v' w' hown' hg _ hat
      refine h v' w' ?_ hg hat
      unfold OwnB; rw [byv_append, List.length_append]; exact hown'
  | none =>
    obtain rfl := hc rfl
    have hcs : cs = [] := by
      rcases hz with hz | ⟨b, off, e, _⟩
      · simpa [nums] using hz
      · simp at e
    subst hcs
    obtain ⟨i0, hi, -, -, -⟩ := info_parts Try.info5
    refine wpList_append_own_none hgd s x 22 ho B 5 i0 1 Try.underlying22 hi v bs.length (byv bs) hs hown hx ?_
    exact h v w (by simpa using hown) ⟨rfl, rfl, rfl, Nat.le_refl _, fun _ _ _ => rfl⟩ (.inl rfl)

set_option maxRecDepth 100000 in
set_option maxHeartbeats 8000000 in
theorem shaParts_walk (w : World) (aP : Option Addr) (capP : Nat) (P : List Part) (ask : Nat) (hask : ask ≤ 255) (hP : PartsAt w aP P) (hlP : P.length ≤ 9223372036854775807) :
    Calls Try.prog 4 #[.slice aP P.length capP, .int .u8 ask] w fun e w' => e = .returned (.bool true) ∧ Below w.heap.size w w' := by
  have AW := Lib.hid awake_any
  by_cases c0 : P.length > 40
  · have c0' : (P.length : Int) > 40 := by omega
    clear hP
    go_enter Try.func4, Try.ntmps4
    go_wp2_with (go_at_call 10; with_reducible refine (AW.out _).mono ?_; rintro e w1 ⟨rfl, hb⟩)
    go_ret
    exact ⟨rfl, hb⟩
  · have c0' : ¬ (P.length : Int) > 40 := by omega
    have HPP := Lib.hid hP
    clear hP
    go_enter Try.func4, Try.ntmps4
    go_wp2_with fail
    refine (new_any _).mono ?_
    rintro e w1 ⟨rfl, hN, hb1, hsz1⟩
    have hH := hash_new hN (w.heap.size + 1)
    clear hN
    go_wp2_with fail
    go_loopg [6, 7] P.length (fun G va c wr => ∃ (i : Nat) (v : Value) (all : List UInt8), i ≤ P.length ∧ G = P.length - i ∧ c = .int .i64 (i : Int) ∧ HashIs wr w.heap.size (w.heap.size + 1) v all ∧ OwnB wr (w.heap.size + 1) va all ∧ (∀ g, va.ownBlock = some g → v.ownBlock ≠ some g) ∧ all.length ≤ 300 * i ∧ Below w.heap.size w wr)
    case atStart => exact ⟨0, .slice none 0 0, [], by omega, rfl, rfl, hH, OwnB.nil _ _, fun g h => by simp [Value.ownBlock] at h, by simp, hb1⟩
    case round =>
      clear hH hb1 hsz1
      obtain ⟨i, v, all, hi, rfl, rfl, hH, hO, hap, hal, hbel⟩ := hrel
      by_cases hlt : i < P.length
      · obtain ⟨b, off, rfl, hbl, hc, hB, hcap, hpl⟩ := HPP.out i hlt
        have hcr := (hbel.cell (p := ⟨b, off + i, none⟩) hbl).trans hc
        have i0 : (0 : Int) ≤ (i : Int) := Int.natCast_nonneg _
        have i1 : (i : Int) < (P.length : Int) := by omega
        generalize P.getD i noPart = q at *
        obtain ⟨qa, qc, bs⟩ := q
        simp only at hc hB hcap hpl hcr
        by_cases hbig : bs.length > 300
        · have hbig' : (bs.length : Int) > 300 := by omega
          go_wp2_with (go_at_call 10; with_reducible refine (AW.out _).mono ?_; rintro e w3 ⟨rfl, hb3⟩)
          go_ret
          exact ⟨rfl, hbel.trans (hb3.mono hbel.size)⟩
        · have hbig' : ¬ (bs.length : Int) > 300 := by omega
          have hpw : w.heap.size < wr.heap.size := hH.1.lt
          have HW := hash_write wr w.heap.size (w.heap.size + 1) (by omega) v all bs qa qc hH (hB.keep (Nat.le_refl _) hbel) (fun x e => (hpl x e).imp id (fun h => by omega)) (fun x e => (hpl x e).imp id (fun h c => by have := (hH.2.ownBlock_lt c).1; omega)) hcap (by omega)
          go_wp2_with fail
          refine HW.mono ?_
          rintro e w3 ⟨v3, rfl, hH3, hT3⟩
          have hvne : v.ownBlock ≠ some w.heap.size := fun e => by have := (hH.2.ownBlock_lt e).1; omega
          have hO3 := hO.two hT3 (Nat.le_refl _) (fun e => by have := (hO.ownBlock_lt e).1; omega) (fun g e => hap g e)
          have hb3 : Below w.heap.size w w3 := hbel.trans (hT3.below (Nat.le_of_lt hpw) (Nat.le_refl _) (fun g e => by have := (hH.2.ownBlock_lt e).1; omega))
          have hB3 := hB.keep (Nat.le_refl _) hb3
          have hcr3 := (hb3.cell (p := ⟨b, off + i, none⟩) hbl).trans hc
          have hsz3 := hT3.size
          have hap3 : ∀ g, u6.ownBlock = some g → v3.ownBlock ≠ some g := fun g e c => by
            have h1 := (hO.ownBlock_lt e).2
            have h2 := (hH3.2.ownBlock_lt c).1
            omega
          clear HW hH hT3 hO hcr hap hvne
          go_wp2_with (at_builtin; refine append_at rfl _ _ rfl (w.heap.size + 1) u6 all bs qa qc rfl rfl hcap hO3 hB3 (by omega) (by omega) ?_)
          intro v4 w4 hO4 hg4 hat
          have hp3 := hH3.1.lt
          have T4 := Two.grown hg4 w3.heap.size
          have hH4 : HashIs w4 w.heap.size wr.heap.size v3 (all ++ bs) :=
            ⟨hH3.1.two T4 hp3 (by omega) (fun e => by have := (hO3.ownBlock_lt e).1; omega), hH3.2.two T4 (Nat.le_refl _) (fun e => by have := (hH3.2.ownBlock_lt e).2; omega) (fun g e c => hap3 g c e)⟩
          have hb4 : Below w.heap.size w w4 := hb3.grown hg4 (by omega) (fun g e => by have := (hO3.ownBlock_lt e).1; omega)
          have hap4 : ∀ g, v4.ownBlock = some g → v3.ownBlock ≠ some g := fun g e c => by
            rcases hat with h | h
            · exact hap3 g (h ▸ e) c
            · have h1 := (hH3.2.ownBlock_lt c).2
              rw [h] at e
              simp only [Option.some.injEq] at e
              omega
          have hsz4 := hg4.size
          clear hH3 hO3 hg4 T4 hap3 hat hb3 hB3 hcr3
          obtain ⟨a5, c5, rfl, -, hB5⟩ := hO4.row
          have hlen : (all ++ bs).length ≤ 300 * (i + 1) := by rw [List.length_append]; omega
          have hpr : w.heap.size < wr.heap.size := hpw
          have HS := Lib.hid (fun W (h : Below w4.heap.size w4 W) => hash_sum W w.heap.size v3 (all ++ bs) wr.heap.size hpr ⟨hH4.1.below h hH4.1.lt, hH4.2.keep (Nat.le_refl _) h⟩ (by omega))
          have HB8 := Lib.hid (fun W (h : Below w4.heap.size w4 W) => sumb_any W a5 c5 (all ++ bs) ((hB5.keep (Nat.le_refl _) h).from (Nat.zero_le _)) hO4.cap0 (fun x e => .inr (by have := (hO4.ownBlock_lt (g := x.block) (by rw [e]; rfl)).2; have := h.size; omega)) (by omega))
          have HREL := Lib.hid (fun W (h : Below w4.heap.size w4 W) => (show HashIs W w.heap.size (w.heap.size + 1) v3 (all ++ bs) ∧ OwnB W (w.heap.size + 1) (.slice a5 (all ++ bs).length c5) (all ++ bs) ∧ Below w.heap.size w W from
            ⟨⟨hH4.1.below h hH4.1.lt, (hH4.2.keep (Nat.le_refl _) h).from (by omega)⟩, hO4.keep (Nat.le_refl _) h, hb4.trans (h.mono hb4.size)⟩))
          have HAP := Lib.hid hap4
          have HLN := Lib.hid hlen
          clear hH4 hO4 hb4 hap4 hlen hB5
          generalize all ++ bs = nw at *
          generalize shaF nw = sn at *
          unfold str at HS HB8
          have k0 : (0 : Int) ≤ (ask : Int) := Int.natCast_nonneg _
          by_cases hpar : (i : Int) % 2 = (ask : Int) % 2
          · go_wp2_with fail
            refine (HS.out _ (Below.refl _ _)).mono ?_
            rintro e w5 ⟨rfl, hb5⟩
            go_wp2_with fail
            refine (HB8.out _ hb5).mono ?_
            rintro e w6 ⟨rfl, hb6⟩
            have hb46 := hb5.trans (hb6.mono hb5.size)
            clear hb5 hb6
            go_wp2
            go_roundg (P.length - (i + 1))
            case measure => omega
            case rel => exact ⟨i + 1, v3, nw, by omega, rfl, by go_num, (HREL.out _ hb46).1, (HREL.out _ hb46).2.1, HAP.out, HLN.out, (HREL.out _ hb46).2.2⟩
          · have hpar2 : ((i : Int) % 2 == (ask : Int) % 2) = false := by simpa using hpar
            go_wp2
            go_roundg (P.length - (i + 1))
            case measure => omega
            case rel => exact ⟨i + 1, v3, nw, by omega, rfl, by go_num, (HREL.out _ (Below.refl _ _)).1, (HREL.out _ (Below.refl _ _)).2.1, HAP.out, HLN.out, (HREL.out _ (Below.refl _ _)).2.2⟩
      · have hie : ¬ (i : Int) < (P.length : Int) := by omega
        obtain ⟨a5, c5, rfl, -, hB5⟩ := hO.row
        have hpw : w.heap.size < wr.heap.size := hH.1.lt
        have HS := Lib.hid (fun W (h : Below wr.heap.size wr W) => hash_sum W w.heap.size v all (w.heap.size + 1) (by omega) ⟨hH.1.below h hH.1.lt, hH.2.keep (Nat.le_refl _) h⟩ (by omega))
        have HB8 := Lib.hid (fun W (h : Below wr.heap.size wr W) => sumb_any W a5 c5 all ((hB5.keep (Nat.le_refl _) h).from (Nat.zero_le _)) hO.cap0 (fun x e => .inr (by have := (hO.ownBlock_lt (g := x.block) (by rw [e]; rfl)).2; have := h.size; omega)) (by omega))
        have hsl := shaF_length all
        clear hH hO hap hB5 hal
        generalize shaF all = sn at *
        unfold str at HS HB8
        go_wp2_with fail
        refine (HS.out _ (Below.refl _ _)).mono ?_
        rintro e w5 ⟨rfl, hb5⟩
        go_wp2_with fail
        refine (HB8.out _ hb5).mono ?_
        rintro e w6 ⟨rfl, hb6⟩
        have hb46 := hb5.trans (hb6.mono hb5.size)
        go_wp2_with fail
        refine (HS.out _ hb46).mono ?_
        rintro e w7 ⟨rfl, hb7⟩
        have hb47 := hb46.trans (hb7.mono hb46.size)
        go_wp2_with fail
        refine (AW.out _).mono ?_
        rintro e w8 ⟨rfl, hb8⟩
        have hb48 := hb47.trans (hb8.mono hb47.size)
        go_wp2
        go_ret
        exact ⟨rfl, hbel.trans (hb48.mono hbel.size)⟩

end Go.Proofs.Ytogpecgbgfcdcaa
