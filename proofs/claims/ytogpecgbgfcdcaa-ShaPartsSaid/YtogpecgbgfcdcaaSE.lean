/- Bytes: slices that read as bytes, slices of bytes that the call itself made; slices.Clone; New. -/
import Derived.Test.YtogpecgbgfcdcaaSD
namespace Go.Proofs.Ytogpecgbgfcdcaa
open Go.RowKit

def nums (bs : List UInt8) : List Int := bs.map fun (b : UInt8) => (b.toNat : Int)
def byv (bs : List UInt8) : List Value := bs.map fun (b : UInt8) => Value.int .u8 (b.toNat : Int)
theorem byv_nums (bs : List UInt8) : (nums bs).map (Value.int .u8) = byv bs := by simp [nums, byv]
theorem nums_length (bs : List UInt8) : (nums bs).length = bs.length := by simp [nums]
theorem byv_length (bs : List UInt8) : (byv bs).length = bs.length := by simp [byv]
theorem byv_append (a b : List UInt8) : byv (a ++ b) = byv a ++ byv b := by simp [byv]
theorem byv_one (bs : List UInt8) : ∀ v ∈ byv bs, v.oneCell' = true := by
  intro v hv; obtain ⟨n, _, rfl⟩ := List.mem_map.1 hv; rfl

/-- The slice at a reads as these bytes. -/
def Bys (B : Nat) (w : World) (a : Option Addr) (bs : List UInt8) : Prop := RowK .u8 B w a (nums bs)
theorem Bys.keep {w w' : World} {B C : Nat} {a : Option Addr} {bs : List UInt8} (h : Bys B w a bs) (hs : w.heap.size ≤ C) (hb : Below C w w') : Bys B w' a bs := RowK.keep h hs hb
theorem Bys.below {w w' : World} {B : Nat} {a : Option Addr} {bs : List UInt8} (h : Bys B w a bs) (hb : Below w.heap.size w w') : Bys B w' a bs := RowK.below h hb
theorem Bys.alloc {w : World} {B : Nat} {a : Option Addr} {bs : List UInt8} (h : Bys B w a bs) (o : Obj) : Bys B (w.alloc o) a bs := RowK.alloc h o
theorem Bys.from {w : World} {B C : Nat} {a : Option Addr} {bs : List UInt8} (h : Bys B w a bs) (hC : C ≤ B) : Bys C w a bs := RowK.from h hC

/-- A slice of bytes that the call itself made, from block B on. -/
def OwnB (w : World) (B : Nat) (v : Value) (bs : List UInt8) : Prop := w.ownsRow B 5 1 v bs.length (byv bs)

theorem OwnB.row {w : World} {B : Nat} {v : Value} {bs : List UInt8} (h : OwnB w B v bs) : ∃ a cap, v = .slice a bs.length cap ∧ bs.length ≤ cap ∧ Bys B w a bs := by
  obtain ⟨_, h | ⟨g, cap, cur, e, hB, hh, hle, hcm, hs, ht⟩⟩ := h
  · obtain ⟨e, hn⟩ := h
    have : bs = [] := List.eq_nil_of_length_eq_zero hn
    subst this
    exact ⟨none, 0, e, Nat.le_refl _, .inl rfl⟩
  · refine ⟨some ⟨g, 0, none⟩, cap, e, hle, .inr ⟨g, 0, rfl, hB, (Array.getElem?_eq_some_iff.1 hh).1, fun j hj => ?_⟩⟩
    rw [nums_length] at hj
    rw [Nat.zero_add]
    have h1 : cur.toList[j]? = some (.int .u8 ((nums bs).getD j 0)) := by
      have : (cur.toList.take (bs.length * 1))[j]? = (byv bs)[j]? := by rw [ht]
      rw [List.getElem?_take, if_pos (by omega)] at this
      rw [this]; simp [byv, nums, List.getD, hj]
    simp [World.cell?, hh]
    simpa using h1
theorem OwnB.nil (w : World) (B : Nat) : OwnB w B (.slice none 0 0) [] := World.ownsRow_nil w B 5 1
theorem OwnB.alloc {w : World} {B : Nat} {v : Value} {bs : List UInt8} (h : OwnB w B v bs) (o : Obj) : OwnB (w.alloc o) B v bs := World.ownsRow.alloc h o
theorem OwnB.from {w : World} {B C : Nat} {v : Value} {bs : List UInt8} (h : OwnB w B v bs) (hC : C ≤ B) : OwnB w C v bs := by
  obtain ⟨h1, h2 | ⟨g, cap, cur, e, hB, r⟩⟩ := h
  · exact ⟨h1, .inl h2⟩
  · exact ⟨h1, .inr ⟨g, cap, cur, e, by omega, r⟩⟩
theorem OwnB.keep {w w' : World} {B C : Nat} {v : Value} {bs : List UInt8} (h : OwnB w B v bs) (hs : w.heap.size ≤ C) (hb : Below C w w') : OwnB w' B v bs := by
  obtain ⟨h1, h2 | ⟨g, cap, cur, e, hB, hh, r⟩⟩ := h
  · exact ⟨h1, .inl h2⟩
  · exact ⟨h1, .inr ⟨g, cap, cur, e, hB, by rw [hb.block g (by have := (Array.getElem?_eq_some_iff.1 hh).1; omega)]; exact hh, r⟩⟩

theorem Try.info5 : (Try.prog.info? 5).map (fun i => (i.zero, i.size, i.bytes)) = some (some (.int .u8 0), 1, 1) := by kernel_rfl

/-- 'append(s, t...)' onto bytes of the call's own: the law at this program's []byte. -/
theorem append_bytes {w : World} {ops : Array Oper} {rest : List Oper} {o : Oper} {a : Act} {Q : Exit → Act → World → Prop} (hgd : o.guard = none) (s x : Operand)
    (ho : o.op = .call { callee := .builtin .append, args := #[s, x], argTypes := #[22, 22] }) (B : Nat) (v : Value) (bs cs : List UInt8) (ad : Addr) (c : Nat)
    (hs : a.eval s = v) (hx : a.eval x = .slice (some ad) cs.length c) (hown : OwnB w B v bs) (hz : Bys 0 w (some ad) cs) (hl : bs.length + cs.length ≤ 4294967296) (hB : B ≤ w.heap.size)
    (h : ∀ a' cap' w', OwnB w' B (.slice a' (bs.length + cs.length) cap') (bs ++ cs) → w.grownBy w' v.ownBlock → (a' = none ↔ v = .slice none 0 0 ∧ cs.length = 0) → wpList Try.prog ops Q rest (a.put o.dst (.slice a' (bs.length + cs.length) cap')) w') : wpList Try.prog ops Q (o :: rest) a w := by
  obtain ⟨i0, hi, hz0, hz1, hz2⟩ := info_parts Try.info5
  refine wpList_append_own (P := Try.prog) w hgd s x 22 ho B 5 i0 (.int .u8 0) 1 1 Try.underlying22 hi hz0 hz1 hz2 rfl (by decide) v bs.length (byv bs) hs hown ad cs.length c (byv cs) hx (by simp [byv]) ?_ (byv_one cs) (by unfold maxLen; omega) (by omega) hB ?_
  · intro j u hj
    have hjl : j < cs.length := by have := (List.getElem?_eq_some_iff.1 hj).1; simpa [byv] using this
    rcases hz with hz | ⟨b, off, e, _, _, hc⟩
    · have : cs = [] := by simpa [nums] using hz
      subst this; simp at hjl
    · simp only [Option.some.injEq] at e
      subst e
      rw [Addr.add_mid, hc j (by rw [nums_length]; exact hjl)]
      rw [← hj]; simp [byv, nums, List.getD, hjl]
  · intro v' w' hown' hg hn
    have hO : OwnB w' B v' (bs ++ cs) := by
      unfold OwnB; rw [byv_append, List.length_append]; exact hown'
    obtain ⟨a', cap', e, _, _⟩ := hO.row
    rw [List.length_append] at e
    subst e
    refine h a' cap' w' hO hg ⟨fun e => ?_, fun e => ?_⟩
    · subst e
      apply hn.1
      obtain ⟨_, ⟨e1, _⟩ | ⟨g, cap, cur, e1, _⟩⟩ := hO
      · exact e1
      · simp at e1
    · have := hn.2 e
      simp only [Value.slice.injEq] at this
      exact this.1

end Go.Proofs.Ytogpecgbgfcdcaa
