/- The walks of the package fbit's leaves. -/
import Derived.Test.YtifpcjpmannddaaProg
import Derived.Test.YtifpcjpmannddaaPl0
import Derived.Test.YtifpcjpmannddaaPl1
import Derived.Laws.FloatArith
import Derived.WalkKit
import Derived.WalkLawsBesides
import Derived.WalkSpells
import Derived.Outline
import Derived.Laws.Externs
import Derived.Lib.Hide
namespace Go.Proofs.Ytifpcjpmannddaa
open Go.Proofs Go.RowKit

theorem fromBits_run (n : Int) (w : World) : (callFunc 27 #[.int .u64 n]).run Try.prog w = .ok (.value (.float .f64 n.toNat)) w := by
  rw [run_callFunc_extern (P := Try.prog) (f := 27) (fn := Try.f27) (e := Extern.MathFloatBits.float64frombits) (by kernel_rfl) (by kernel_rfl) (by kernel_rfl) (by kernel_rfl) (by kernel_rfl)]
  rfl

theorem toBits_run (n : Nat) (w : World) : (callFunc 32 #[.float .f64 n]).run Try.prog w = .ok (.value (.int .u64 n)) w := by
  rw [run_callFunc_extern (P := Try.prog) (f := 32) (fn := Try.f32) (e := Extern.MathFloatBits.float64bits) (by kernel_rfl) (by kernel_rfl) (by kernel_rfl) (by kernel_rfl) (by kernel_rfl)]
  rfl

theorem fbit_Canon (x : Nat) (w : World) : Calls Try.prog 33 #[.float .f64 x] w fun e w' => e = .returned (.float .f64 (canon x)) ∧ w = w' := by
  have hf := fromBits_run
  go_enter Try.func33, Try.ntmps33
  go_wp2
  all_goals (go_ret; exact ⟨by simp [canon, fnan, ford, *], rfl⟩)

theorem fbit_side (x : Nat) (w : World) : Calls Try.prog 48 #[.float .f64 x] w fun e w' => e = .returned (.int .i64 (fside x)) ∧ w = w' := by
  have hf := fromBits_run
  have hg := toBits_run
  cases h : fneg x
  all_goals
    have h' := h
    unfold fneg at h'
    go_enter Try.func48, Try.ntmps48
    go_wp2
    all_goals (go_ret; exact ⟨by simp [fside, h], rfl⟩)

theorem cmp_Compare_int (x y : Int) (w : World) : Calls Try.prog 47 #[.int .i64 x, .int .i64 y] w fun e w' => e = .returned (.int .i64 (icmp x y)) ∧ w = w' := by
  go_enter Try.func47, Try.ntmps47
  go_wp2
  all_goals (go_ret; refine ⟨?_, rfl⟩; simp only [icmp])
  · rw [if_pos (by assumption)]; rfl
  · rw [if_neg (by omega), if_pos (by assumption)]; rfl
  · rw [if_neg (by omega), if_neg (by omega)]; rfl

theorem cmp_Compare_float (x y : Nat) (w : World) (hx : fnan x = false) (hy : fnan y = false) : Calls Try.prog 46 #[.float .f64 x, .float .f64 y] w fun e w' => e = .returned (.int .i64 (fcmp x y)) ∧ w = w' := by
  have hx' := hx
  have hy' := hy
  unfold fnan ford at hx' hy'
  clear hx hy
  go_enter Try.func46, Try.ntmps46
  go_wp2
  all_goals (go_ret; refine ⟨?_, rfl⟩; simp [fcmp, ford, *])

theorem cmp_Or (b : Nat) (x y : Int) (w : World) (h0 : w.cell? ⟨b, 0, none⟩ = some (.int .i64 x)) (h1 : w.cell? ⟨b, 1, none⟩ = some (.int .i64 y)) :
    Calls Try.prog 45 #[.slice (some ⟨b, 0, none⟩) 2 2] w fun e w' => e = .returned (.int .i64 (if x = 0 then y else x)) ∧ w = w' := by
  by_cases hx : x = 0
  · by_cases hy : y = 0
    all_goals
      go_enter Try.func45, Try.ntmps45
      go_wp2
      refine wp_loop_rounds 3 ?_
      rw [rounds_succ]
      go_wp2
      rw [rounds_succ]
      go_wp2
      try (rw [rounds_succ]; go_wp2)
      go_ret
      exact ⟨by simp, rfl⟩
  · go_enter Try.func45, Try.ntmps45
    go_wp2
    refine wp_loop_rounds 3 ?_
    rw [rounds_succ]
    go_wp2
    go_ret
    exact ⟨by simp, rfl⟩

/-- The whole part as a number of 64 bits, as near as there is one. -/
def fWhole (x : Nat) : Int :=
  if fnan x then 0
  else if ford x 4890909195324358656 == some .gt || ford x 4890909195324358656 == some .eq then 9223372036854775807
  else if ford x 14114281232179134464 == some .lt || ford x 14114281232179134464 == some .eq then -9223372036854775808
  else (floatToIntVal .f64 x .i64).getD 0

set_option maxRecDepth 100000 in
theorem fbit_Whole (x : Nat) (w : World) : Calls Try.prog 31 #[.float .f64 x] w fun e w' => e = .returned (.int .i64 (fWhole x)) ∧ w = w' := by
  cases h0 : fnan x
  · cases h1 : (ford x 4890909195324358656 == some .gt || ford x 4890909195324358656 == some .eq)
    · cases h2 : (ford x 14114281232179134464 == some .lt || ford x 14114281232179134464 == some .eq)
      · obtain ⟨n, hn⟩ := whole_some h0 (by simpa using h1) (by simpa using h2)
        have hr : fWhole x = n := by simp [fWhole, h0, h1, h2, hn]
        rw [hr]
        have hc : ∀ w, (convert 39 2 (.float .f64 x)).run Try.prog w = .ok (.int .i64 n) w := fun w => run_convert_float_int w 39 2 .f64 .i64 x n (by rw [Try.underlying39]; rfl) Try.underlying2 hn
        unfold fnan ford at h0
        unfold ford at h1 h2
        go_enter Try.func31, Try.ntmps31
        go_wp2_with (simp only [hc])
        go_ret
        exact ⟨rfl, rfl⟩
      · have hr : fWhole x = -9223372036854775808 := by simp [fWhole, h0, h1, h2]
        rw [hr]
        unfold fnan ford at h0
        unfold ford at h1 h2
        go_enter Try.func31, Try.ntmps31
        go_wp2
        go_ret
        exact ⟨rfl, rfl⟩
    · have hr : fWhole x = 9223372036854775807 := by simp [fWhole, h0, h1]
      rw [hr]
      unfold fnan ford at h0
      unfold ford at h1
      go_enter Try.func31, Try.ntmps31
      go_wp2
      go_ret
      exact ⟨rfl, rfl⟩
  · have hr : fWhole x = 0 := by simp [fWhole, h0]
    rw [hr]
    unfold fnan ford at h0
    go_enter Try.func31, Try.ntmps31
    go_wp2
    go_ret
    exact ⟨rfl, rfl⟩

theorem fbit_Of (x : Int) (w : World) : Calls Try.prog 56 #[.int .i64 x] w fun e w' => e = .returned (.float .f64 (floatOfInt .f64 x)) ∧ w = w' := by
  go_enter Try.func56, Try.ntmps56
  go_wp2
  go_ret
  exact ⟨rfl, rfl⟩

end Go.Proofs.Ytifpcjpmannddaa
