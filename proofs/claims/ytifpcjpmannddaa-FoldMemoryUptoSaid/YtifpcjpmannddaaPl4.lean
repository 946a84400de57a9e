/- The plain laws of fold: what is kept is a float in the one form; merging is associative and commutative over values that fit; a table is told by its keys. -/
import Derived.Test.YtifpcjpmannddaaPl3
import Derived.Test.YtifpcjpmannddaaLw0
import Derived.Laws.FloatBits
namespace Go.Proofs.Ytifpcjpmannddaa
open Go.Proofs Go.RowKit Ieee

theorem bits_lt (op : BinOp) (a b : Int) : (bits op .u64 a b).toNat < 18446744073709551616 := by
  unfold bits
  show (_ % (18446744073709551616 : Int)).toNat < _
  have := Int.emod_lt_of_pos (((match op with | BinOp.and => BitVec.ofInt IntKind.u64.bits a &&& BitVec.ofInt IntKind.u64.bits b | BinOp.or => BitVec.ofInt IntKind.u64.bits a ||| BitVec.ofInt IntKind.u64.bits b | BinOp.xor => BitVec.ofInt IntKind.u64.bits a ^^^ BitVec.ofInt IntKind.u64.bits b | _ => BitVec.ofInt IntKind.u64.bits a &&& ~~~BitVec.ofInt IntKind.u64.bits b).toNat : Nat) : Int) (show (0 : Int) < 18446744073709551616 by omega)
  omega

theorem width64 : 2 ^ Ieee.double.width = 18446744073709551616 := by decide

theorem fbin_lt (op : BinOp) (x y : Nat) : fbin op x y < 18446744073709551616 := by
  unfold fbin
  cases h : floatBits op .f64 x y with
  | none => show 9221120237041090561 < 18446744073709551616; omega
  | some r =>
    show r < _
    unfold floatBits at h
    rw [← width64]
    split at h
    · exact Format.add_lt _ h
    · exact Format.sub_lt _ h
    · exact Format.mul_lt _ h
    · exact Format.div_lt _ h
    · cases h
theorem encode_lt (d : Datum) : FloatKind.f64.encode d < 18446744073709551616 := by
  rw [← width64]; exact Format.write_lt _ d
theorem fldexp_lt {x : Nat} (n : Int) (h : x < 18446744073709551616) : fldexp x n < 18446744073709551616 := by
  unfold fldexp
  (repeat' split) <;> first | exact h | exact bits_lt _ _ _ | exact fbin_lt _ _ _ | omega
theorem fFloor_lt {x : Nat} (h : x < 18446744073709551616) : fFloor x < 18446744073709551616 := by
  unfold fFloor
  refine canon_lt64 ?_
  split
  · exact h
  · exact encode_lt _

theorem turnF_lt {o : OpV} {x y : Nat} {b : Bool} (h : x < 18446744073709551616) (ht : turnF o x = some (y, b)) : y < 18446744073709551616 := by
  unfold turnF at ht
  by_cases h1 : o.kind = 1
  · rw [if_pos h1] at ht; simp at ht; omega
  rw [if_neg h1] at ht
  by_cases h2 : o.kind = 2
  · rw [if_pos h2] at ht; simp at ht; omega
  rw [if_neg h2] at ht
  by_cases h3 : o.kind = 3
  · rw [if_pos h3] at ht; simp at ht; omega
  rw [if_neg h3] at ht
  by_cases h4 : o.kind = 4
  · rw [if_pos h4] at ht; simp only [Option.some.injEq, Prod.mk.injEq] at ht; rw [← ht.1]; exact bits_lt _ _ _
  rw [if_neg h4] at ht
  by_cases h5 : o.kind = 5
  · rw [if_pos h5] at ht; simp only [Option.some.injEq, Prod.mk.injEq] at ht; rw [← ht.1]; exact bits_lt _ _ _
  rw [if_neg h5] at ht
  by_cases h6 : o.kind = 6
  · rw [if_pos h6] at ht; simp only [Option.some.injEq, Prod.mk.injEq] at ht; rw [← ht.1]; exact fFloor_lt h
  rw [if_neg h6] at ht
  by_cases h7 : o.kind = 7
  · rw [if_pos h7] at ht; simp only [Option.some.injEq, Prod.mk.injEq] at ht; rw [← ht.1]; exact canon_lt64 (fldexp_lt _ h)
  rw [if_neg h7] at ht
  by_cases h8 : o.kind = 8
  · rw [if_pos h8] at ht; simp only [Option.some.injEq, Prod.mk.injEq] at ht; rw [← ht.1]; exact fbin_lt _ _ _
  rw [if_neg h8] at ht
  by_cases h9 : o.kind = 9
  · rw [if_pos h9] at ht
    split at ht
    · simp at ht; omega
    · cases ht
  rw [if_neg h9] at ht
  by_cases h10 : o.kind = 10
  · rw [if_pos h10] at ht
    split at ht
    · cases ht
    · simp only [Option.some.injEq, Prod.mk.injEq] at ht; rw [← ht.1]; unfold floatOfInt FloatKind.nearest; exact encode_lt _
  rw [if_neg h10] at ht
  simp at ht; omega

theorem throughF_fok : ∀ (l : List OpV) (r r' : RecV), FOk r.val → throughF l r = .kept r' → FOk r'.val
  | [], r, r', h, e => by simp only [throughF, Fate.kept.injEq] at e; exact e ▸ h
  | o :: os, r, r', h, e => by
    unfold throughF at e
    split at e
    · cases e
    · cases e
    · rename_i r1 ha
      unfold applyF at ha
      cases ht : turnF o (canon r.val) with
      | none => rw [ht] at ha; cases ha
      | some y =>
        rw [ht] at ha
        simp only [Option.map_some, Option.some.injEq, Prod.mk.injEq] at ha
        obtain ⟨hr1, hb⟩ := ha
        obtain ⟨y, b⟩ := y
        have hy := turnF_lt (canon_lt64 h.1) ht
        refine throughF_fok os r1 r' ?_ e
        rw [← hr1]
        exact FOk.canon hy
theorem runF_fok {l : List OpV} {r r' : RecV} (h : r.val < 18446744073709551616) (e : runF l r = .kept r') : FOk r'.val := throughF_fok l _ r' (FOk.canon h) e

/-! ### values that fit -/

def AFit (kind : Int) (v : AV) : Prop := v = AV.zero ∨ (v.has = true ∧ 0 ≤ v.bits ∧ v.bits < 18446744073709551616 ∧ (kind = 3 ∨ kind = 4 → FOk v.bits.toNat))

section
variable {kind : Int}
theorem wrap_u64_range (n : Int) : 0 ≤ IntKind.u64.wrap n ∧ IntKind.u64.wrap n < 18446744073709551616 := by
  have e : IntKind.u64.wrap n = n % 18446744073709551616 := rfl
  rw [e]; omega
theorem aggOf_fit (h : known kind = true) {x : Nat} (hx : FOk x) : AFit kind (aggOf kind x) := by
  right
  refine ⟨aggOf_has h x, ?_⟩
  have := known_iff.1 h
  unfold aggOf
  by_cases h1 : kind = 1
  · rw [if_pos h1]; exact ⟨by simp, by simp, fun h => by omega⟩
  · rw [if_neg h1]
    by_cases h2 : kind = 2
    · rw [if_pos h2]; exact ⟨(wrap_u64_range _).1, (wrap_u64_range _).2, fun h => by omega⟩
    · rw [if_neg h2, if_pos (by omega)]
      have h3 := hx.1
      rw [hx.2]
      refine ⟨by simp, by simp; omega, fun _ => by simpa using hx⟩
theorem aggFit_fit (h : known kind = true) {v : AV} (hv : AFit kind v) : aggFit kind v = v := by
  unfold aggFit
  rcases hv with rfl | ⟨h1, h2, h3, h4⟩
  · rw [if_pos (.inr rfl)]
  · rw [if_neg (by rw [h, h1]; simp)]
    by_cases hk : kind = 3 ∨ kind = 4
    · rw [if_pos hk]
      unfold aggOf
      rw [if_neg (by omega), if_neg (by omega), if_pos hk, (h4 hk).2]
      obtain ⟨vh, vb⟩ := v
      simp at h1 h2 ⊢
      exact ⟨h1, by omega⟩
    · rw [if_neg hk]
theorem merge_zero_left (h : known kind = true) {v : AV} (hv : AFit kind v) : aggMerge kind AV.zero v = v := by
  unfold aggMerge
  rw [aggFit_fit h (.inl rfl), aggFit_fit h hv, if_pos (show AV.zero.has = false from rfl)]
theorem merge_zero_right (h : known kind = true) {v : AV} (hv : AFit kind v) : aggMerge kind v AV.zero = v := by
  unfold aggMerge
  rw [aggFit_fit h (.inl rfl), aggFit_fit h hv]
  by_cases hh : v.has = false
  · rw [if_pos hh]
    rcases hv with rfl | ⟨h1, _⟩
    · rfl
    · rw [h1] at hh; cases hh
  · rw [if_neg hh, if_pos (show AV.zero.has = false from rfl)]
theorem merge_both (h : known kind = true) {a b : AV} (ha : AFit kind a) (hb : AFit kind b) (ha' : a.has = true) (hb' : b.has = true) :
    aggMerge kind a b = if kind = 3 then ⟨true, (fLeast a.bits.toNat b.bits.toNat : Nat)⟩ else if kind = 4 then ⟨true, (fMost a.bits.toNat b.bits.toNat : Nat)⟩ else ⟨true, (a.bits + b.bits) % 18446744073709551616⟩ := by
  unfold aggMerge
  rw [aggFit_fit h ha, aggFit_fit h hb, if_neg (by rw [ha']; simp), if_neg (by rw [hb']; simp)]
  have fa : kind = 3 ∨ kind = 4 → FOk a.bits.toNat := by
    rcases ha with rfl | ⟨_, _, _, h4⟩
    · cases ha'
    · exact h4
  have fb : kind = 3 ∨ kind = 4 → FOk b.bits.toNat := by
    rcases hb with rfl | ⟨_, _, _, h4⟩
    · cases hb'
    · exact h4
  by_cases h3 : kind = 3
  · rw [if_pos h3, if_pos h3]
    unfold aggOf
    rw [if_neg (by omega), if_neg (by omega), if_pos (.inl h3), (fLeast_ok (fa (.inl h3)) (fb (.inl h3))).2]
  · rw [if_neg h3, if_neg h3]
    by_cases h4 : kind = 4
    · rw [if_pos h4, if_pos h4]
      unfold aggOf
      rw [if_neg (by omega), if_neg (by omega), if_pos (.inr h4), (fMost_ok (fa (.inr h4)) (fb (.inr h4))).2]
    · rw [if_neg h4, if_neg h4]
      rfl
theorem AFit.zero_of {v : AV} (hv : AFit kind v) (h : v.has = false) : v = AV.zero := by
  rcases hv with rfl | ⟨h1, _⟩
  · rfl
  · rw [h1] at h; cases h
theorem AFit.fok {v : AV} (hv : AFit kind v) (h : v.has = true) : 0 ≤ v.bits ∧ v.bits < 18446744073709551616 ∧ (kind = 3 ∨ kind = 4 → FOk v.bits.toNat) := by
  rcases hv with rfl | ⟨h1, h2⟩
  · cases h
  · exact h2
theorem merge_fit (h : known kind = true) {a b : AV} (ha : AFit kind a) (hb : AFit kind b) : AFit kind (aggMerge kind a b) := by
  cases ha' : a.has
  · rw [ha.zero_of ha', merge_zero_left h hb]; exact hb
  · cases hb' : b.has
    · rw [hb.zero_of hb', merge_zero_right h ha]; exact ha
    · rw [merge_both h ha hb ha' hb']
      have fa := ha.fok ha'
      have fb := hb.fok hb'
      right
      by_cases h3 : kind = 3
      · rw [if_pos h3]
        have := fLeast_ok (fa.2.2 (.inl h3)) (fb.2.2 (.inl h3))
        exact ⟨rfl, by simp, by have := this.1; simp; omega, fun _ => by simpa using this⟩
      · rw [if_neg h3]
        by_cases h4 : kind = 4
        · rw [if_pos h4]
          have := fMost_ok (fa.2.2 (.inr h4)) (fb.2.2 (.inr h4))
          exact ⟨rfl, by simp, by have := this.1; simp; omega, fun _ => by simpa using this⟩
        · rw [if_neg h4]
          exact ⟨rfl, by simp; omega, by simp; omega, fun h => by omega⟩
theorem merge_comm (h : known kind = true) {a b : AV} (ha : AFit kind a) (hb : AFit kind b) : aggMerge kind a b = aggMerge kind b a := by
  cases ha' : a.has
  · rw [ha.zero_of ha', merge_zero_left h hb, merge_zero_right h hb]
  · cases hb' : b.has
    · rw [hb.zero_of hb', merge_zero_left h ha, merge_zero_right h ha]
    · rw [merge_both h ha hb ha' hb', merge_both h hb ha hb' ha']
      have fa := ha.fok ha'
      have fb := hb.fok hb'
      by_cases h3 : kind = 3
      · rw [if_pos h3, if_pos h3, fLeast_comm (fa.2.2 (.inl h3)) (fb.2.2 (.inl h3))]
      · rw [if_neg h3, if_neg h3]
        by_cases h4 : kind = 4
        · rw [if_pos h4, if_pos h4, fMost_comm (fa.2.2 (.inr h4)) (fb.2.2 (.inr h4))]
        · rw [if_neg h4, if_neg h4, Int.add_comm]
theorem merge_assoc (h : known kind = true) {a b c : AV} (ha : AFit kind a) (hb : AFit kind b) (hc : AFit kind c) : aggMerge kind (aggMerge kind a b) c = aggMerge kind a (aggMerge kind b c) := by
  cases ha' : a.has
  · rw [ha.zero_of ha', merge_zero_left h hb, merge_zero_left h (merge_fit h hb hc)]
  cases hb' : b.has
  · rw [hb.zero_of hb', merge_zero_right h ha, merge_zero_left h hc]
  cases hc' : c.has
  · rw [hc.zero_of hc', merge_zero_right h (merge_fit h ha hb), merge_zero_right h hb]
  have hab : (aggMerge kind a b).has = true := by rw [aggMerge_has h, ha']; rfl
  have hbc : (aggMerge kind b c).has = true := by rw [aggMerge_has h, hb']; rfl
  rw [merge_both h (merge_fit h ha hb) hc hab hc', merge_both h ha (merge_fit h hb hc) ha' hbc, merge_both h ha hb ha' hb', merge_both h hb hc hb' hc']
  have fa := ha.fok ha'
  have fb := hb.fok hb'
  have fc := hc.fok hc'
  by_cases h3 : kind = 3
  · simp only [if_pos h3, Int.toNat_natCast, fLeast_assoc (fa.2.2 (.inl h3)) (fb.2.2 (.inl h3)) (fc.2.2 (.inl h3))]
  · simp only [if_neg h3]
    by_cases h4 : kind = 4
    · simp only [if_pos h4, Int.toNat_natCast, fMost_assoc (fa.2.2 (.inr h4)) (fb.2.2 (.inr h4)) (fc.2.2 (.inr h4))]
    · simp only [if_neg h4, AV.mk.injEq, true_and]
      omega
end

end Go.Proofs.Ytifpcjpmannddaa
