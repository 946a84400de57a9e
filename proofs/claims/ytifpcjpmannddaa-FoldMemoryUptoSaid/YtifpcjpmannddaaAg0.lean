/- The walks of the package agg. -/
import Derived.Test.YtifpcjpmannddaaFb1
import Derived.Laws.ResultCell
namespace Go.Proofs.Ytifpcjpmannddaa
open Go.Proofs Go.RowKit

/-- An aggregate's value. -/
structure AV where
  has : Bool
  bits : Int
  deriving DecidableEq
abbrev AV.v (a : AV) : Value := .agg #[.bool a.has, .int .u64 a.bits]
def AV.zero : AV := ⟨false, 0⟩

def known (kind : Int) : Bool := decide (1 ≤ kind) && decide (kind ≤ 4)

def aggOf (kind : Int) (x : Nat) : AV :=
  if kind = 1 then ⟨true, 1⟩ else if kind = 2 then ⟨true, IntKind.u64.wrap (fWhole x)⟩ else if kind = 3 ∨ kind = 4 then ⟨true, canon x⟩ else AV.zero

theorem bcell {W w1 : World} (hb : Below W.heap.size W w1) : (∀ b o, b < W.heap.size → w1.cell? ⟨b, o, none⟩ = W.cell? ⟨b, o, none⟩) ∧ (∀ b o, b < W.heap.size → w1.frozen? ⟨b, o, none⟩ = W.frozen? ⟨b, o, none⟩) :=
  ⟨fun b o h => hb.cell (p := ⟨b, o, none⟩) h, fun b o h => hb.frozen (p := ⟨b, o, none⟩) h⟩

theorem Below.step {B : Nat} {a W w' : World} (h : Below B a W) (hB : B ≤ W.heap.size) (k : Below W.heap.size W w') : Below B a w' := h.trans (k.mono hB)

theorem agg_Known (kind : Int) (w : World) : Calls Try.prog 23 #[.int .i64 kind] w fun e w' => e = .returned (.bool (known kind)) ∧ w = w' := by
  by_cases h : 1 ≤ kind
  all_goals
    go_enter Try.func23, Try.ntmps23
    go_wp2
    go_ret
    refine ⟨?_, rfl⟩
    unfold known
    first | rw [decide_eq_true h]; rfl | rw [decide_eq_false (show ¬ 1 ≤ kind by omega)]; rfl

theorem agg_some (n : Int) (w : World) : Calls Try.prog 30 #[.int .u64 n] w fun e w' => e = .returned (.agg #[.bool true, .int .u64 n]) ∧ w.alloc (.cells #[.bool true, .int .u64 n] 45) = w' := by
  go_enter Try.func30, Try.ntmps30
  go_wp2
  exact bodyPost_ret (v := .agg #[.bool true, .int .u64 n]) (by simp [results, Try.results30, go_sem]) rfl ⟨rfl, rfl⟩

theorem agg_Of (kind : Int) (x : Nat) (w : World) : Calls Try.prog 16 #[.int .i64 kind, .float .f64 x] w fun e w' => e = .returned (aggOf kind x).v ∧ Below w.heap.size w w' := by
  have hg := toBits_run
  by_cases h1 : kind = 1
  · subst h1
    go_enter Try.func16, Try.ntmps16
    go_wp2_with (go_at_call 30; refine (agg_some _ _).mono ?_; rintro e w1 ⟨rfl, rfl⟩)
    refine bodyPost_ret (v := .agg #[.bool true, .int .u64 1]) (by simp [results, Try.results16, go_sem]) rfl ⟨rfl, ?_⟩
    exact ((Below.refl _ _).alloc (Nat.le_refl _) _).alloc (by simp) _
  by_cases h2 : kind = 2
  · subst h2
    go_enter Try.func16, Try.ntmps16
    go_wp2_with (first
      | (go_at_call 30; refine (agg_some _ _).mono ?_; rintro e w1 ⟨rfl, rfl⟩)
      | (go_at_call 31; refine (fbit_Whole _ _).mono ?_; rintro e w' ⟨rfl, rfl⟩))
    refine bodyPost_ret (v := .agg #[.bool true, .int .u64 (IntKind.u64.wrap (fWhole x))]) (by simp [results, Try.results16, go_sem]) rfl ⟨rfl, ?_⟩
    exact ((Below.refl _ _).alloc (Nat.le_refl _) _).alloc (by simp) _
  by_cases h3 : kind = 3 ∨ kind = 4
  · have hr : aggOf kind x = ⟨true, canon x⟩ := by unfold aggOf; rw [if_neg h1, if_neg h2, if_pos h3]
    rw [hr]
    rcases h3 with rfl | rfl
    all_goals
      clear hr h1 h2
      go_enter Try.func16, Try.ntmps16
      go_wp2_with (first
        | (go_at_call 30; refine (agg_some _ _).mono ?_; rintro e w1 ⟨rfl, rfl⟩)
        | (go_at_call 33; refine (fbit_Canon _ _).mono ?_; rintro e w' ⟨rfl, rfl⟩)
        | (go_at_call 32; go_in))
      refine bodyPost_ret (v := .agg #[.bool true, .int .u64 (canon x)]) (by simp [results, Try.results16, go_sem]) rfl ⟨rfl, ?_⟩
      exact ((Below.refl _ _).alloc (Nat.le_refl _) _).alloc (by simp) _
  · have hr : aggOf kind x = AV.zero := by unfold aggOf; rw [if_neg h1, if_neg h2, if_neg h3]
    rw [hr]
    have h4 : (kind == 3) = false := by simp; omega
    have h5 : (kind == 4) = false := by simp; omega
    have h6 : (kind == 1) = false := by simp; omega
    have h7 : (kind == 2) = false := by simp; omega
    clear hr h1 h2 h3
    go_enter Try.func16, Try.ntmps16
    go_wp2
    refine bodyPost_ret (v := .agg #[.bool false, .int .u64 0]) (by simp [results, Try.results16, go_sem]) rfl ⟨rfl, ?_⟩
    exact (Below.refl _ _).alloc (Nat.le_refl _) _

end Go.Proofs.Ytifpcjpmannddaa
