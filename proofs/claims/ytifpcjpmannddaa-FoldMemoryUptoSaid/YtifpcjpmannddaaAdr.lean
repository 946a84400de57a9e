/- fold.Add of whatever lists: its refusals, and one contract for all. -/
import Derived.Test.YtifpcjpmannddaaLfw
namespace Go.Proofs.Ytifpcjpmannddaa
open Go.Proofs Go.RowKit
attribute [local go_sem ↓] Go.wp_at_zero Go.wp_at_succ
attribute [local go_sem] run_store_float

theorem fold_Add_kind (kind : Int) (va vb : Value) (w : World) (hkn : known kind = false) :
    Calls Try.prog 12 #[.int .i64 kind, va, vb] w fun e w' => e = .returned (.tuple #[.slice none 0 0, .int .i64 1]) ∧ Below w.heap.size w w' := by
  have hKn := fun w => agg_Known kind w
  rw [hkn] at hKn
  have HKN := Lib.hid hKn
  clear hKn hkn
  go_enter Try.func12, Try.ntmps12
  go_wp2_with (first
    | (go_at_call 23; refine (HKN.out _).mono ?_; rintro e w' ⟨rfl, rfl⟩))
  exact bodyPost_ret (v := .tuple #[.slice none 0 0, .int .i64 1]) (by simp [results, Try.results12, go_sem]) rfl ⟨rfl, Below.refl _ _⟩

theorem fold_Add_order (kind : Int) (a b : List PairV) (A B : Option Addr) (ca cb : Nat) (w : World) (ha : RowOf PairV.cells 3 w w.heap.size A a) (hb : RowOf PairV.cells 3 w w.heap.size B b)
    (la : a.length ≤ 274877906944) (lb : b.length ≤ 274877906944) (hkn : known kind = true) (hs : (decide (Sound a) && decide (Sound b)) = false) :
    Calls Try.prog 12 #[.int .i64 kind, .slice A a.length ca, .slice B b.length cb] w fun e w' => e = .returned (.tuple #[.slice none 0 0, .int .i64 7]) ∧ Below w.heap.size w w' := by
  have hSa := fun w hr => fold_Sound a A ca w hr (by omega)
  have hSb := fun w hr => fold_Sound b B cb w hr (by omega)
  have HA := Lib.hid ha
  have HB := Lib.hid hb
  have hKn := fun w => agg_Known kind w
  rw [hkn] at hKn
  have HKN := Lib.hid hKn
  clear hKn hkn ha hb
  cases hsa : decide (Sound a) with
  | false =>
    rw [hsa] at hSa
    have HSA := Lib.hid hSa
    clear hSa hSb hs hsa
    go_enter Try.func12, Try.ntmps12
    go_wp2_with (first
      | (go_at_call 23; refine (HKN.out _).mono ?_; rintro e w' ⟨rfl, rfl⟩)
      | (go_at_call_of 21 a.length; refine (HSA.out _ ?_).mono ?_; exact HA.out; rintro e w1 ⟨rfl, hb1⟩))
    exact bodyPost_ret (v := .tuple #[.slice none 0 0, .int .i64 7]) (by simp [results, Try.results12, go_sem]) rfl ⟨rfl, hb1⟩
  | true =>
    have hsb : decide (Sound b) = false := by rw [hsa] at hs; simpa using hs
    rw [hsa] at hSa
    rw [hsb] at hSb
    have HSA := Lib.hid hSa
    have HSB := Lib.hid hSb
    clear hSa hSb hs hsa hsb
    go_enter Try.func12, Try.ntmps12
    go_wp2_with fail
    refine (HKN.out _).mono ?_
    rintro e w' ⟨rfl, rfl⟩
    go_wp2_with fail
    refine (HSA.out _ HA.out).mono ?_
    rintro e w1 ⟨rfl, hb1⟩
    go_wp2_with fail
    refine (HSB.out _ ((HB.out.below hb1).more hb1.size)).mono ?_
    rintro e w2 ⟨rfl, hb2⟩
    go_wp2_with fail
    exact bodyPost_ret (v := .tuple #[.slice none 0 0, .int .i64 7]) (by simp [results, Try.results12, go_sem]) rfl ⟨rfl, below_call hb2 hb1⟩

/-- What Add answers. -/
def addErr (kind : Int) (a b : List PairV) : Int := if known kind then if decide (Sound a) && decide (Sound b) then 0 else 7 else 1
def AddIs (kind : Int) (a b : List PairV) (t : List PairV) : Prop := if addErr kind a b = 0 then Tab (addF kind a b) t (a.length + b.length) else t = []
theorem AddIs.uniq {kind : Int} {a b t u : List PairV} (h : AddIs kind a b t) (k : AddIs kind a b u) : t = u := by
  unfold AddIs at h k
  split at h
  · rename_i e; rw [if_pos e] at k; exact h.uniq k
  · rename_i e; rw [if_neg e] at k; rw [h, k]
theorem AddIs.len {kind : Int} {a b t : List PairV} (h : AddIs kind a b t) : t.length ≤ a.length + b.length := by
  unfold AddIs at h
  split at h
  · exact h.len
  · rw [h]; simp

theorem fold_Add_any (kind : Int) (a b : List PairV) (A B : Option Addr) (ca cb : Nat) (w : World) (ha : RowOf PairV.cells 3 w w.heap.size A a) (hb : RowOf PairV.cells 3 w w.heap.size B b)
    (wa : ∀ p ∈ a, (Lit.int .u64 p.key).wf = true) (wb : ∀ p ∈ b, (Lit.int .u64 p.key).wf = true) (la : a.length ≤ 274877906944) (lb : b.length ≤ 274877906944) :
    Calls Try.prog 12 #[.int .i64 kind, .slice A a.length ca, .slice B b.length cb] w fun e w' =>
      ∃ t At ct, e = .returned (.tuple #[.slice At t.length ct, .int .i64 (addErr kind a b)]) ∧ AddIs kind a b t ∧ w'.ownsRow w.heap.size 47 3 (.slice At t.length ct) t.length (t.flatMap PairV.cells) ∧ Below w.heap.size w w' := by
  cases hkn : known kind with
  | false =>
    have he : addErr kind a b = 1 := by simp [addErr, hkn]
    refine (fold_Add_kind kind _ _ w hkn).mono fun e w' ⟨h1, h2⟩ => ⟨[], none, 0, by rw [he]; exact h1, by unfold AddIs; rw [he]; simp, ⟨by simp, .inl ⟨rfl, rfl⟩⟩, h2⟩
  | true =>
    cases hs : decide (Sound a) && decide (Sound b) with
    | false =>
      have he : addErr kind a b = 7 := by simp only [addErr, hkn, hs]; simp
      refine (fold_Add_order kind a b A B ca cb w ha hb la lb hkn hs).mono fun e w' ⟨h1, h2⟩ => ⟨[], none, 0, by rw [he]; exact h1, by unfold AddIs; rw [he]; simp, ⟨by simp, .inl ⟨rfl, rfl⟩⟩, h2⟩
    | true =>
      have he : addErr kind a b = 0 := by simp only [addErr, hkn, hs]; simp
      rw [Bool.and_eq_true, decide_eq_true_eq, decide_eq_true_eq] at hs
      refine (fold_Add kind a b A B ca cb w ha hb hs.1 hs.2 wa wb la lb hkn).mono ?_
      rintro e w' ⟨ss, v, rfl, h1, h2, h3, h4, h5⟩
      have hl : (tabOf (addF kind a b) ss).length = ss.length := by simp [tabOf]
      rw [← hl] at h4
      obtain ⟨At, ct, rfl, _, _⟩ := RowOf.of_own (enc := PairV.cells) (l := tabOf (addF kind a b) ss) (fun _ => rfl) h4
      exact ⟨_, At, ct, by rw [he], by unfold AddIs; rw [if_pos he]; exact ⟨ss, h1, rfl, h2, h3⟩, h4, h5⟩

end Go.Proofs.Ytifpcjpmannddaa
