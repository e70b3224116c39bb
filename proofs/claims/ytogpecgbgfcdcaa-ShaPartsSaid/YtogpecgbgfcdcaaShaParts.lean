/-
  The law ShaParts returns true for every input, and each argument reads afterwards as it did; no condition. The frame was written by the kit's proof-skeleton.mjs; the walk is in the texts that it imports.
-/
import Derived.Test.YtogpecgbgfcdcaaSV
import Derived.Deep.Matrix
import Derived.WalkKit
import Derived.ProofKit
import Derived.OpenShut
import Derived.ShutString
import Derived.ChangeOld
import Derived.Below
namespace Go.Proofs.Ytogpecgbgfcdcaa.shaParts
open Go.ChangeShapes Go.WideShapes Go.ChangeAt Go.RowKit
open Go.ChangeMaps (open_string shut_string)
set_option linter.unusedVariables false

theorem own : ownKnob Try.prog.godebug = none := by kernel_rfl
theorem laidOut : laidOutB Try.prog = true := by kernel_rfl

/-- A slice of integers that came in: nil, or a row of cells. -/
def IsRow (k : IntKind) (w : World) (a : Option Addr) (len cap : Nat) (zs : List Int) : Prop :=
  (a = none ∧ len = 0 ∧ cap = 0 ∧ zs = []) ∨
  ∃ x, a = some x ∧ len ≤ cap ∧ cap ≤ maxLen ∧ zs.length = cap ∧ (∀ i, i < zs.length → w.cell? (x.add i) = some (.int k (zs.getD i 0))) ∧ ∀ n ∈ zs, (Lit.int k n).wf = true

theorem bridge {k : IntKind} {w : World} {a : Option Addr} {len cap : Nat} {zs : List Int} (h : IsRow k w a len cap zs) :
    ∃ ns : List Int, ns.length = len ∧ RowK k 0 w a ns ∧ len ≤ 9223372036854775807 ∧ ∀ n ∈ ns, (Lit.int k n).wf = true := by
  rcases h with ⟨rfl, rfl, rfl, rfl⟩ | ⟨x, rfl, hl, hm, hz, hc, hw⟩
  · exact ⟨[], rfl, .inl rfl, by omega, by simp⟩
  · unfold maxLen at hm
    refine ⟨zs.take len, by simp; omega, ?_, by omega, fun n hn => hw n (List.mem_of_mem_take hn)⟩
    by_cases h0 : len = 0
    · subst h0; exact .inl (by simp)
    · obtain ⟨b, off, spot⟩ := x
      have hs : spot = none := by simpa [Addr.add] using World.cell?_spot (hc 0 (by omega))
      subst hs
      refine .inr ⟨b, off, rfl, Nat.zero_le _, World.block_lt_of_cell? w _ (hc 0 (by omega)), fun j hj => ?_⟩
      simp only [List.length_take] at hj
      have := hc j (by omega)
      rw [show (⟨b, off, none⟩ : Addr).add j = ⟨b, off + j, none⟩ from by simp [Addr.add]] at this
      rw [this]
      simp [List.getD, List.getElem?_take, show j < len by omega]

theorem u8_bd {ns : List Int} (h : ∀ n ∈ ns, (Lit.int .u8 n).wf = true) (i : Nat) : 0 ≤ ns.getD i 0 ∧ ns.getD i 0 ≤ 255 := by
  by_cases hi : i < ns.length
  · have := h ns[i] (List.getElem_mem hi)
    have h1 : IntKind.u8.min = 0 := rfl
    have h2 : IntKind.u8.max = 255 := rfl
    simp only [Lit.wf, Bool.and_eq_true, decide_eq_true_eq] at this
    simp [List.getD, hi]; omega
  · simp [List.getD, List.getElem?_eq_none (Nat.le_of_not_lt hi)]

theorem u8_one {x : Int} (h : (Lit.int .u8 x).wf = true) : 0 ≤ x ∧ x ≤ 255 := by
  have h1 : IntKind.u8.min = 0 := rfl
  have h2 : IntKind.u8.max = 255 := rfl
  simp only [Lit.wf, Bool.and_eq_true, decide_eq_true_eq] at h
  omega
theorem i64_one {x : Int} (h : (Lit.int .i64 x).wf = true) : -9223372036854775808 ≤ x ∧ x ≤ 9223372036854775807 := by
  have h1 : IntKind.i64.min = -9223372036854775808 := rfl
  have h2 : IntKind.i64.max = 9223372036854775807 := rfl
  simp only [Lit.wf, Bool.and_eq_true, decide_eq_true_eq] at h
  omega


/-- Bytes told as numbers, as bytes. -/
theorem nums_back (ns : List Int) (h : ∀ i, 0 ≤ ns.getD i 0 ∧ ns.getD i 0 ≤ 255) : nums (ns.map fun n => UInt8.ofNat n.toNat) = ns := by
  apply List.ext_getElem
  · simp [nums]
  · intro i h1 h2
    have := h i
    rw [List.getD, List.getElem?_eq_getElem h2, Option.getD_some] at this
    simp only [nums, List.map_map, List.getElem_map, Function.comp_apply, UInt8.toNat_ofNat']
    omega


theorem key (W : World) (A : Nat → Option Addr) (L C : Nat → Nat) (Z : Nat → List Int) (a : Addr) (len cap base : Nat) (hlc : len ≤ cap)
    (rows : ∀ r, r < cap → W.cell? (a.add r) = some (.slice (A r) (L r) (C r)) ∧ L r ≤ C r ∧ C r ≤ maxLen ∧ (Z r).length = C r ∧ (∀ n ∈ Z r, (Lit.int .u8 n).wf = true) ∧ (A r = none → C r = 0) ∧
        ∀ a', A r = some a' → base ≤ a'.block ∧ ∀ c, c < C r → W.cell? (a'.add c) = some (.int .u8 ((Z r).getD c 0))) (i : Nat) (hi : i < len) :
    ∃ q : Part, ∃ b off, a = ⟨b, off, none⟩ ∧ b < W.heap.size ∧ W.cell? ⟨b, off + i, none⟩ = some (.slice q.a q.bs.length q.cap) ∧ Bys 0 W q.a q.bs ∧ (q.a = none → q.cap = 0) ∧ ∀ x, q.a = some x → q.bs = [] ∨ x.block < W.heap.size := by
  obtain ⟨hc, hL, hC, hZ, hwf, hn, hcell⟩ := rows i (by omega)
  have row : IsRow .u8 W (A i) (L i) (C i) (Z i) := by
    cases hA : A i with
    | none =>
      have := hn hA
      exact .inl ⟨rfl, by omega, by omega, List.eq_nil_of_length_eq_zero (by omega)⟩
    | some x => exact .inr ⟨x, rfl, hL, hC, hZ, fun k hk => (hcell x hA).2 k (by omega), hwf⟩
  obtain ⟨ns, hnl, hr, _, hw⟩ := bridge row
  have e := nums_back ns (u8_bd hw)
  obtain ⟨b, off, spot⟩ := a
  have hs : spot = none := by simpa [Addr.add] using World.cell?_spot (rows 0 (by omega)).1
  subst hs
  rw [show (⟨b, off, none⟩ : Addr).add i = ⟨b, off + i, none⟩ from by simp [Addr.add]] at hc
  refine ⟨⟨A i, C i, ns.map fun n => UInt8.ofNat n.toNat⟩, b, off, rfl, World.block_lt_of_cell? W _ hc, by rw [hc, List.length_map, hnl], by show RowK _ _ _ _ _; rw [e]; exact hr, hn, fun x hx => ?_⟩
  rcases hr with h | ⟨b', off', h, _, hb, _⟩
  · exact .inl (by rw [h]; rfl)
  · change A i = some x at hx
    rw [hx] at h
    simp only [Option.some.injEq] at h
    subst h
    exact .inr hb

/-! ### THE ROW's STEP: WRITTEN OUT: LEAVE IT -/
set_option maxRecDepth 100000 in
theorem lifted (os : Os) (started : os.Started) (H : Type) (enc : TypeId × Value → H) :
    ReturnsInHanded {} Try.checked os 4 .any (Rows.shaPartsSpec.pre6 enc Try.prog Try.f4 Rows.shaPartsRow.domain false) (Rows.shaPartsSpec.post enc Try.prog Try.f4 false true false false) := by
  refine returnsInHanded_of_change (C := Try.checked) own started (by kernel_rfl) Try.func4
    (ChangeSpec.witness6 (enc := enc) (C := Try.checked) false ⟨#[], #[.slice none 0 0, .int .u8 0], []⟩ 8 (by kernel_rfl) (by kernel_rfl) (by kernel_rfl) (by kernel_rfl)) ?_
  intro W base args ds gs before hval0 hW hcnd _
  have hval : ∀ (j : Nat) t v, Try.f4.params[j]? = some t → args[j]? = some v → Value.okWide Try.prog W .any base t v := hval0
  have hW' := hW
  obtain ⟨p, q, hA0, hV, rfl, hfz, hnd⟩ := hW
  have hA : DataW.TrodAll enc Try.prog W 0 (fun _ => true) true Try.f4.params.toList args.toList ds p := hA0
  rw [Try.params4] at hA hval
  obtain ⟨v0, vs0, d0, ds0, p0, q0, hargs, rfl, rfl, h0, r0⟩ := trodAll_cons hA
  obtain ⟨v1, vs1, d1, ds1, p1, q1, rfl, rfl, rfl, h1, r1⟩ := trodAll_cons r0
  obtain ⟨rfl, rfl, rfl⟩ := trodAll_nil r1
  obtain rfl : args = #[v0, v1] := by cases args; simp_all
  obtain ⟨rfl, rfl⟩ := trodVars_none hV
  obtain ⟨a0, len0, cap0, rfl⟩ := okWide_slice Try.underlying26 (hval 0 26 v0 rfl rfl)
  obtain ⟨a1, rfl, rfl, rfl, w1⟩ := open_int Try.underlying5 (hval 1 5 v1 rfl rfl) h1
  have k0 := h0
  have lt0 : ∀ x ∈ p0, x.block < W.heap.size := by obtain ⟨m, hm⟩ := k0; exact DataW.trod_lt m _ _ _ hm
  obtain ⟨P, hPl, hP, hPm⟩ : ∃ P : List Part, P.length = len0 ∧ PartsAt W a0 P ∧ len0 ≤ 9223372036854775807 := by
    obtain ⟨fuel, hf⟩ := h0
    rcases Go.Deep.open_int_rows Try.underlying26 Try.underlying22 Try.underlying5 (by kernel_rfl) (by kernel_rfl) hf with ⟨hcs, _⟩ | ⟨a, len, cap, A, L, C, Z, hcs, _, hlc, hm, _, rows⟩
    · simp [Value.cells] at hcs
      obtain ⟨rfl, rfl, rfl⟩ := hcs
      exact ⟨[], rfl, fun i hi => by simp at hi, by omega⟩
    · simp [Value.cells] at hcs
      obtain ⟨rfl, rfl, rfl⟩ := hcs
      have hk := key W A L C Z a len0 cap0 0 hlc rows
      refine ⟨(List.range len0).map fun i => if h : i < len0 then Classical.choose (hk i h) else noPart, by simp, fun i hi => ?_, by unfold maxLen at hm; omega⟩
      have hi' : i < len0 := by simpa using hi
      have hg : ((List.range len0).map fun i => if h : i < len0 then Classical.choose (hk i h) else noPart).getD i noPart = Classical.choose (hk i hi') := by simp [List.getD, hi']
      rw [hg]
      obtain ⟨b, off, e, r⟩ := Classical.choose_spec (hk i hi')
      exact ⟨b, off, by rw [e], r⟩
  obtain ⟨ask, rfl⟩ := Int.eq_ofNat_of_zero_le (u8_one w1).1
  clear hA0 hval0
  subst hPl
  refine (shaParts_walk W a0 cap0 P ask (by have := (u8_one w1).2; omega) hP hPm).mono fun e W' ⟨he, bel⟩ => ?_
  subst he
  exact ⟨_, rfl, _, _, _, [], _, [], hW', trodAll_mk1 (shut_bool Try.underlying4 _), (trodAll_cons_mk (Below.trod laidOut (by kernel_rfl) (of_decide_eq_true (by kernel_rfl)) k0 bel lt0) (trodAll_cons_mk (shut_int Try.underlying5 w1) trodAll_mk0)), rfl, bel.frame _, fun h => by cases h⟩

theorem over : Rows.shaPartsRow.holds Try.pinned (OpenSpec.ofChange Rows.shaPartsSpec) :=
  OpenClaim.holds_of_wide 4 Try.f4 rfl rfl rfl rfl rfl rfl rfl ⟨rfl, rfl, rfl, rfl, rfl⟩ rfl rfl rfl rfl rfl (by kernel_rfl) Try.func4 (by kernel_rfl)
    (of_decide_eq_true (by kernel_rfl)) (by unfold Func.isWrapper; first | (rw [if_pos (by decide +kernel)]; kernel_rfl) | (rw [if_neg (by decide +kernel)]; exact ⟨rfl, rfl⟩))
    (fun os started H enc _ => lifted os started H enc)

theorem proved : Rows.ShaPartsSaid := over
#print axioms proved
end Go.Proofs.Ytogpecgbgfcdcaa.shaParts

