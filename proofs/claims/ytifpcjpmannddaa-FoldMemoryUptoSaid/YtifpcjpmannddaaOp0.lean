/- The walks of the package ops: the steps' look. -/
import Derived.Test.YtifpcjpmannddaaPl2
namespace Go.Proofs.Ytifpcjpmannddaa
open Go.Proofs Go.RowKit
attribute [local go_sem] run_store_float

theorem ops_isStep (k n : Int) (x : Nat) (w : World) : Calls Try.prog 34 #[.agg #[.int .i64 k, .int .i64 n, .float .f64 x]] w fun e w' => e = .returned (.bool (isStep ⟨k, n, x⟩)) ∧ Below w.heap.size w w' := by
  by_cases h7 : k = 7
  · subst h7
    by_cases h1 : -2200 ≤ n
    all_goals
      go_enter Try.func34, Try.ntmps34
      go_wp2
      go_ret
      refine ⟨?_, by ((repeat' (first | exact Below.refl _ _ | assumption | refine below_drewN ?_ _ | refine Below.drew ?_ | refine Below.setCell ?_ ?_ _ | refine Below.alloc ?_ ?_ _ | (refine Below.trans ?_ (Below.mono (by assumption) ?_)))) <;> (first | (simp; done) | (simp; omega) | omega))⟩
      simp [isStep, h1]
      try omega
  · by_cases h11 : k = 11
    · subst h11
      go_enter Try.func34, Try.ntmps34
      go_wp2
      go_ret
      refine ⟨?_, by ((repeat' (first | exact Below.refl _ _ | assumption | refine below_drewN ?_ _ | refine Below.drew ?_ | refine Below.setCell ?_ ?_ _ | refine Below.alloc ?_ ?_ _ | (refine Below.trans ?_ (Below.mono (by assumption) ?_)))) <;> (first | (simp; done) | (simp; omega) | omega))⟩
      simp [isStep]
    · have e7 : (k == 7) = false := by simp; omega
      have e11 : (k == 11) = false := by simp; omega
      by_cases h1 : 1 ≤ k
      all_goals
        go_enter Try.func34, Try.ntmps34
        go_wp2
        go_ret
        refine ⟨?_, by ((repeat' (first | exact Below.refl _ _ | assumption | refine below_drewN ?_ _ | refine Below.drew ?_ | refine Below.setCell ?_ ?_ _ | refine Below.alloc ?_ ?_ _ | (refine Below.trans ?_ (Below.mono (by assumption) ?_)))) <;> (first | (simp; done) | (simp; omega) | omega))⟩
        simp [isStep, h1, h7, h11]
        try omega

theorem ops_Check (l : List OpV) (A : Option Addr) (cap : Nat) (w : World) (hr : RowOf OpV.cells 3 w w.heap.size A l) (hl : l.length ≤ 140737488351232) :
    Calls Try.prog 22 #[.slice A l.length cap] w fun e w' => e = .returned (.int .i64 (checkF l)) ∧ Below w.heap.size w w' := by
  by_cases h8 : 8 < l.length
  · go_enter Try.func22, Try.ntmps22
    go_wp2
    go_ret
    exact ⟨by simp [checkF, h8], Below.refl _ _⟩
  · have HR := Lib.hid hr
    clear hr
    go_enter Try.func22, Try.ntmps22
    go_wp2
    go_loopw [10] (fun i wr => ∃ k : Nat, k ≤ l.length ∧ i = .int .i64 k ∧ (l.take k).all isStep = true ∧ Below w.heap.size w wr) (fun i _ => l.length - (intOf i).toNat)
    case atStart => exact ⟨0, Nat.zero_le _, rfl, by simp, Below.refl _ _⟩
    case round =>
      obtain ⟨k, hk, rfl, hall, hb⟩ := hrel
      by_cases hlt : k < l.length
      · obtain ⟨b, off, ⟨kd, n, x⟩, rfl, hbl, hx, hc0, hc⟩ := (HR.out.below hb).at_ hlt
        have c0 := hc0 _ rfl
        have c1 := hc 1 _ rfl
        have c2 := hc 2 _ rfl
        have hz := hb.size
        have HX := Lib.hid hx
        have HA := Lib.hid hall
        clear hc hc0 hx hall
        go_wp2_with (go_at_call 34; refine (ops_isStep _ _ _ _).mono ?_; rintro e w1 ⟨rfl, hb1⟩)
        · have hs' : (!isStep ⟨kd, n, x⟩) = true := by assumption
          have hs : isStep ⟨kd, n, x⟩ = false := by simpa using hs'
          have hr : checkF l = 30 := by
            unfold checkF
            rw [if_neg h8, if_neg]
            intro h
            have := List.all_eq_true.1 h ⟨kd, n, x⟩ (List.mem_of_getElem? HX.out)
            rw [hs] at this; cases this
          go_ret
          exact ⟨by rw [hr]; rfl, below_call hb1 (hb.alloc hb.size _)⟩
        · have hs' : (!isStep ⟨kd, n, x⟩) = false := by assumption
          have hs : isStep ⟨kd, n, x⟩ = true := by simpa using hs'
          go_roundw
          case rel => exact ⟨k + 1, by omega, by go_num, by rw [List.take_add_one, HX.out, List.all_append, HA.out]; simp [hs], below_call hb1 (hb.alloc hb.size _)⟩
          case measure => simp [intOf]; omega
      · have hr : checkF l = 0 := by
          unfold checkF
          rw [if_neg h8, if_pos]
          rw [List.take_of_length_le (by omega)] at hall
          exact hall
        go_wp2
        go_ret
        exact ⟨by rw [hr]; rfl, hb⟩

end Go.Proofs.Ytifpcjpmannddaa
