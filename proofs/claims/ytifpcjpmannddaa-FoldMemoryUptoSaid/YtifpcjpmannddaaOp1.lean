/- The walks of the package ops: what a step makes of a value. -/
import Derived.Test.YtifpcjpmannddaaOp0
namespace Go.Proofs.Ytifpcjpmannddaa
open Go.Proofs Go.RowKit
attribute [local go_sem] run_store_float

/-- Where a value lies. -/
def oside (x : Nat) : Int := if ford x 0 == some .lt then 0 else if ford x 0 == some .eq then 1 else if ford x 0 == some .gt then 2 else 3

theorem ops_side (x : Nat) (w : World) : Calls Try.prog 43 #[.float .f64 x] w fun e w' => e = .returned (.int .u64 (oside x)) ∧ w = w' := by
  obtain ⟨r, hr⟩ : ∃ r, ford x 0 = r := ⟨_, rfl⟩
  have hr' := hr
  unfold ford at hr'
  have ho : oside x = if r == some .lt then 0 else if r == some .eq then 1 else if r == some .gt then 2 else 3 := by unfold oside; rw [hr]
  rw [ho]
  clear ho hr
  rcases r with _ | r
  · go_enter Try.func43, Try.ntmps43
    go_wp2
    go_ret
    exact ⟨rfl, rfl⟩
  · cases r
    all_goals
      go_enter Try.func43, Try.ntmps43
      go_wp2
      go_ret
      exact ⟨rfl, rfl⟩

/-- What a step makes of a value: none: it traps; false: it drops it. -/
def turnF (o : OpV) (x : Nat) : Option (Nat × Bool) :=
  if o.kind = 1 then some (x, ford x o.x == some .lt)
  else if o.kind = 2 then some (x, ford x o.x == some .gt)
  else if o.kind = 3 then some (x, ford x x == some .eq)
  else if o.kind = 4 then some (fcopysign x (Op.negFloat .f64 (fcopysign 4607182418800017408 x)), true)
  else if o.kind = 5 then some (fabs x, true)
  else if o.kind = 6 then some (fFloor x, true)
  else if o.kind = 7 then some (fScale x o.n, true)
  else if o.kind = 8 then some (fbin .quo 4607182418800017408 x, true)
  else if o.kind = 9 then (if ford (fbin .sub x x) 0 == some .eq then some (x, true) else none)
  else if o.kind = 10 then (if fWhole x = 0 then none else some (floatOfInt .f64 (wrap64 (o.n.tdiv (fWhole x))), true))
  else some (x, true)

def TurnIs (r : Option (Nat × Bool)) (w : World) (e : Ending) (w' : World) : Prop :=
  Below w.heap.size w w' ∧ match r with
  | some (y, b) => ∃ z, e = .returned (.tuple #[.float .f64 z, .bool b]) ∧ canon z = canon y
  | none => ∃ u v, e = .panicked [{ v := .iface u v, recovered := false }]

theorem turn_1 (n : Int) (ox x : Nat) (w : World) : Calls Try.prog 44 #[.agg #[.int .i64 1, .int .i64 n, .float .f64 ox], .float .f64 x] w (TurnIs (turnF ⟨1, n, ox⟩ x) w) := by
  go_enter Try.func44, Try.ntmps44
  go_wp2
  go_quiet (fail)
  go_wp2
  go_ret2
  exact ⟨by ((repeat' (first | exact Below.refl _ _ | assumption | refine below_drewN ?_ _ | refine Below.drew ?_ | refine Below.setCell ?_ ?_ _ | refine Below.alloc ?_ ?_ _ | (refine Below.trans ?_ (Below.mono (by assumption) ?_)))) <;> (first | (simp; done) | (simp; omega) | omega)), _, rfl, rfl⟩

theorem turn_2 (n : Int) (ox x : Nat) (w : World) : Calls Try.prog 44 #[.agg #[.int .i64 2, .int .i64 n, .float .f64 ox], .float .f64 x] w (TurnIs (turnF ⟨2, n, ox⟩ x) w) := by
  go_enter Try.func44, Try.ntmps44
  go_wp2
  go_quiet (fail)
  go_wp2
  go_ret2
  exact ⟨by ((repeat' (first | exact Below.refl _ _ | assumption | refine below_drewN ?_ _ | refine Below.drew ?_ | refine Below.setCell ?_ ?_ _ | refine Below.alloc ?_ ?_ _ | (refine Below.trans ?_ (Below.mono (by assumption) ?_)))) <;> (first | (simp; done) | (simp; omega) | omega)), _, rfl, rfl⟩

theorem turn_3 (n : Int) (ox x : Nat) (w : World) : Calls Try.prog 44 #[.agg #[.int .i64 3, .int .i64 n, .float .f64 ox], .float .f64 x] w (TurnIs (turnF ⟨3, n, ox⟩ x) w) := by
  go_enter Try.func44, Try.ntmps44
  go_wp2
  go_ret2
  exact ⟨by ((repeat' (first | exact Below.refl _ _ | assumption | refine below_drewN ?_ _ | refine Below.drew ?_ | refine Below.setCell ?_ ?_ _ | refine Below.alloc ?_ ?_ _ | (refine Below.trans ?_ (Below.mono (by assumption) ?_)))) <;> (first | (simp; done) | (simp; omega) | omega)), _, rfl, rfl⟩

theorem turn_4 (n : Int) (ox x : Nat) (w : World) : Calls Try.prog 44 #[.agg #[.int .i64 4, .int .i64 n, .float .f64 ox], .float .f64 x] w (TurnIs (turnF ⟨4, n, ox⟩ x) w) := by
  have hneg : ∀ b w, (Op.unary .neg (.float .f64 b)).run Try.prog w = .ok (.float .f64 (Op.negFloat .f64 b)) w := fun _ _ => rfl
  go_enter Try.func44, Try.ntmps44
  go_wp2_with (go_at_call 52; refine (math_Copysign _ _ _).mono ?_; rintro e w' ⟨rfl, rfl⟩)
  go_ret2
  exact ⟨by ((repeat' (first | exact Below.refl _ _ | assumption | refine below_drewN ?_ _ | refine Below.drew ?_ | refine Below.setCell ?_ ?_ _ | refine Below.alloc ?_ ?_ _ | (refine Below.trans ?_ (Below.mono (by assumption) ?_)))) <;> (first | (simp; done) | (simp; omega) | omega)), _, rfl, rfl⟩

theorem turn_5 (n : Int) (ox x : Nat) (w : World) : Calls Try.prog 44 #[.agg #[.int .i64 5, .int .i64 n, .float .f64 ox], .float .f64 x] w (TurnIs (turnF ⟨5, n, ox⟩ x) w) := by
  go_enter Try.func44, Try.ntmps44
  go_wp2_with (go_at_call 53; refine (math_Abs _ _).mono ?_; rintro e w' ⟨rfl, rfl⟩)
  go_ret2
  exact ⟨by ((repeat' (first | exact Below.refl _ _ | assumption | refine below_drewN ?_ _ | refine Below.drew ?_ | refine Below.setCell ?_ ?_ _ | refine Below.alloc ?_ ?_ _ | (refine Below.trans ?_ (Below.mono (by assumption) ?_)))) <;> (first | (simp; done) | (simp; omega) | omega)), _, rfl, rfl⟩

theorem turn_6 (n : Int) (ox x : Nat) (hx : canon x = x) (w : World) : Calls Try.prog 44 #[.agg #[.int .i64 6, .int .i64 n, .float .f64 ox], .float .f64 x] w (TurnIs (turnF ⟨6, n, ox⟩ x) w) := by
  go_enter Try.func44, Try.ntmps44
  go_wp2_with (go_at_call 54; refine (fbit_Floor _ hx _).mono ?_; rintro e w' ⟨rfl, rfl⟩)
  go_ret2
  exact ⟨by ((repeat' (first | exact Below.refl _ _ | assumption | refine below_drewN ?_ _ | refine Below.drew ?_ | refine Below.setCell ?_ ?_ _ | refine Below.alloc ?_ ?_ _ | (refine Below.trans ?_ (Below.mono (by assumption) ?_)))) <;> (first | (simp; done) | (simp; omega) | omega)), _, rfl, rfl⟩

theorem turn_7 (n : Int) (ox x : Nat) (w : World) : Calls Try.prog 44 #[.agg #[.int .i64 7, .int .i64 n, .float .f64 ox], .float .f64 x] w (TurnIs (turnF ⟨7, n, ox⟩ x) w) := by
  go_enter Try.func44, Try.ntmps44
  go_wp2_with (go_at_call 55; refine (fbit_Scale _ _ _).mono ?_; rintro e w' ⟨rfl, kk, rfl⟩)
  go_ret2
  exact ⟨by ((repeat' (first | exact Below.refl _ _ | assumption | refine below_drewN ?_ _ | refine Below.drew ?_ | refine Below.setCell ?_ ?_ _ | refine Below.alloc ?_ ?_ _ | (refine Below.trans ?_ (Below.mono (by assumption) ?_)))) <;> (first | (simp; done) | (simp; omega) | omega)), _, rfl, rfl⟩

theorem turn_8 (n : Int) (ox x : Nat) (w : World) : Calls Try.prog 44 #[.agg #[.int .i64 8, .int .i64 n, .float .f64 ox], .float .f64 x] w (TurnIs (turnF ⟨8, n, ox⟩ x) w) := by
  obtain ⟨R, K, hm, hR⟩ := arith_fn (P := Try.prog) .quo (by simp) 39 (w.alloc (.cells #[.int .i64 8, .int .i64 n, .float .f64 ox] 57))
  have HR := Lib.hid hR
  clear hR
  go_enter Try.func44, Try.ntmps44
  go_wp2
  go_ret2
  exact ⟨by ((repeat' (first | exact Below.refl _ _ | assumption | refine below_drewN ?_ _ | refine Below.drew ?_ | refine Below.setCell ?_ ?_ _ | refine Below.alloc ?_ ?_ _ | (refine Below.trans ?_ (Below.mono (by assumption) ?_)))) <;> (first | (simp; done) | (simp; omega) | omega)), _, rfl, HR.out _ _⟩


theorem turn_9 (n : Int) (ox x : Nat) (w : World) : Calls Try.prog 44 #[.agg #[.int .i64 9, .int .i64 n, .float .f64 ox], .float .f64 x] w (TurnIs (turnF ⟨9, n, ox⟩ x) w) := by
  obtain ⟨R, K, hm, hR⟩ := arith_fn (P := Try.prog) .sub (by simp) 39 (w.alloc (.cells #[.int .i64 9, .int .i64 n, .float .f64 ox] 57))
  have hr : ford (R x x) 0 = ford (fbin .sub x x) 0 := ford_congr (hR x x) 0
  clear hR
  cases h : (ford (fbin .sub x x) 0 == some .eq)
  · have ht : turnF ⟨9, n, ox⟩ x = none := by simp [turnF, h]
    rw [ht]
    rw [← hr] at h
    have h' : (ford (R x x) 0 != some .eq) = true := by simp [bne, h]
    unfold ford at h'
    clear ht h hr
    go_enter Try.func44, Try.ntmps44
    go_wp2
    exact ⟨rfl, by ((repeat' (first | exact Below.refl _ _ | assumption | refine below_drewN ?_ _ | refine Below.drew ?_ | refine Below.setCell ?_ ?_ _ | refine Below.alloc ?_ ?_ _ | (refine Below.trans ?_ (Below.mono (by assumption) ?_)))) <;> (first | (simp; done) | (simp; omega) | omega)), _, _, rfl⟩
  · have ht : turnF ⟨9, n, ox⟩ x = some (x, true) := by simp [turnF, h]
    rw [ht]
    rw [← hr] at h
    have h' : (ford (R x x) 0 != some .eq) = false := by simp [bne, h]
    unfold ford at h'
    clear ht h hr
    go_enter Try.func44, Try.ntmps44
    go_wp2
    go_ret2
    exact ⟨by ((repeat' (first | exact Below.refl _ _ | assumption | refine below_drewN ?_ _ | refine Below.drew ?_ | refine Below.setCell ?_ ?_ _ | refine Below.alloc ?_ ?_ _ | (refine Below.trans ?_ (Below.mono (by assumption) ?_)))) <;> (first | (simp; done) | (simp; omega) | omega)), _, rfl, rfl⟩

theorem turn_10 (n : Int) (ox x : Nat) (w : World) : Calls Try.prog 44 #[.agg #[.int .i64 10, .int .i64 n, .float .f64 ox], .float .f64 x] w (TurnIs (turnF ⟨10, n, ox⟩ x) w) := by
  have hw := fbit_Whole x
  obtain ⟨q, hq⟩ : ∃ q, fWhole x = q := ⟨_, rfl⟩
  rw [hq] at hw
  by_cases h0 : q = 0
  · have ht : turnF ⟨10, n, ox⟩ x = none := by simp [turnF, hq, h0]
    rw [ht]
    subst h0
    have HW := Lib.hid hw
    clear ht hq hw
    go_enter Try.func44, Try.ntmps44
    go_wp2_with fail
    refine wp_region_any (by kernel_rfl) ?_
    change wpAny _ _ _ _ _ _ _ (World.drew _)
    refine wpAny_take (i := 0) (v := ?_) rfl (by kernel_rfl) (by kernel_rfl) (by kernel_rfl) (fun _ _ _ h => h) (Or.inl ⟨by rfl, ?hy0⟩) ?_
    case hy0 => intro w; go_simp; with_reducible rfl
    refine wpAny_take (i := 2) (v := ?_) rfl (by kernel_rfl) (by kernel_rfl) (by kernel_rfl) (fun _ _ _ h => h) (Or.inl ⟨by rfl, ?hy2⟩) ?_
    case hy2 => intro w; go_simp; with_reducible rfl
    refine wpAny_ready (rs := [1, 3]) (by kernel_rfl) (by simp) ?_
    refine AllReady.cons rfl (fun K hK => ?_) ?_
    · go_simp
      refine hK _ _ ?_
      clear hK K
      refine wpAny_ready (rs := [3]) (by kernel_rfl) (by simp) ?_
      refine AllReady.cons rfl (fun K hK => ?_) AllReady.nil
      go_simp
      go_wp2_with (go_at_call 31; refine (HW.out _).mono ?_; rintro e w' ⟨rfl, rfl⟩)
      refine wpAny_ready (rs := [4]) (by kernel_rfl) (by simp) ?_
      refine AllReady.cons rfl (fun K hK => ?_) AllReady.nil
      go_simp
      exact ⟨rfl, by ((repeat' (first | exact Below.refl _ _ | assumption | refine below_drewN ?_ _ | refine Below.drew ?_ | refine Below.setCell ?_ ?_ _ | refine Below.alloc ?_ ?_ _ | (refine Below.trans ?_ (Below.mono (by assumption) ?_)))) <;> (first | (simp; done) | (simp; omega) | omega)), _, _, rfl⟩
    · refine AllReady.cons rfl (fun K hK => ?_) AllReady.nil
      go_simp
      go_wp2_with (go_at_call 31; refine (HW.out _).mono ?_; rintro e w' ⟨rfl, rfl⟩)
      refine wpAny_ready (rs := [1]) (by kernel_rfl) (by simp) ?_
      refine AllReady.cons rfl (fun K hK => ?_) AllReady.nil
      go_simp
      refine hK _ _ ?_
      clear hK K
      refine wpAny_ready (rs := [4]) (by kernel_rfl) (by simp) ?_
      refine AllReady.cons rfl (fun K hK => ?_) AllReady.nil
      go_simp
      exact ⟨rfl, by ((repeat' (first | exact Below.refl _ _ | assumption | refine below_drewN ?_ _ | refine Below.drew ?_ | refine Below.setCell ?_ ?_ _ | refine Below.alloc ?_ ?_ _ | (refine Below.trans ?_ (Below.mono (by assumption) ?_)))) <;> (first | (simp; done) | (simp; omega) | omega)), _, _, rfl⟩
  · have ht : turnF ⟨10, n, ox⟩ x = some (floatOfInt .f64 (wrap64 (n.tdiv q)), true) := by simp [turnF, hq, h0]
    rw [ht]
    have HW := Lib.hid hw
    clear ht hq hw
    go_enter Try.func44, Try.ntmps44
    go_wp2_with fail
    go_quiet ((first | (go_at_call 31; exact quiet_left (HW.out _)) | (go_at_call 56; exact quiet_left (fbit_Of _ _))))
    go_wp2
    go_ret2
    exact ⟨by ((repeat' (first | exact Below.refl _ _ | assumption | refine below_drewN ?_ _ | refine Below.drew ?_ | refine Below.setCell ?_ ?_ _ | refine Below.alloc ?_ ?_ _ | (refine Below.trans ?_ (Below.mono (by assumption) ?_)))) <;> (first | (simp; done) | (simp; omega) | omega)), _, rfl, rfl⟩

theorem turn_else (k n : Int) (ox x : Nat) (hk : k < 1 ∨ 10 < k) (w : World) : Calls Try.prog 44 #[.agg #[.int .i64 k, .int .i64 n, .float .f64 ox], .float .f64 x] w (TurnIs (turnF ⟨k, n, ox⟩ x) w) := by
  have ht : turnF ⟨k, n, ox⟩ x = some (x, true) := by
    unfold turnF
    repeat (rw [if_neg (by show ¬ k = _; omega)])
  rw [ht]
  have e1 : (k == 1) = false := by simp; omega
  have e2 : (k == 2) = false := by simp; omega
  have e3 : (k == 3) = false := by simp; omega
  have e4 : (k == 4) = false := by simp; omega
  have e5 : (k == 5) = false := by simp; omega
  have e6 : (k == 6) = false := by simp; omega
  have e7 : (k == 7) = false := by simp; omega
  have e8 : (k == 8) = false := by simp; omega
  have e9 : (k == 9) = false := by simp; omega
  have e10 : (k == 10) = false := by simp; omega
  clear ht hk
  go_enter Try.func44, Try.ntmps44
  go_wp2
  go_ret2
  exact ⟨by ((repeat' (first | exact Below.refl _ _ | assumption | refine below_drewN ?_ _ | refine Below.drew ?_ | refine Below.setCell ?_ ?_ _ | refine Below.alloc ?_ ?_ _ | (refine Below.trans ?_ (Below.mono (by assumption) ?_)))) <;> (first | (simp; done) | (simp; omega) | omega)), _, rfl, rfl⟩

theorem ops_turn (k n : Int) (ox x : Nat) (hx : canon x = x) (w : World) : Calls Try.prog 44 #[.agg #[.int .i64 k, .int .i64 n, .float .f64 ox], .float .f64 x] w (TurnIs (turnF ⟨k, n, ox⟩ x) w) := by
  by_cases hk : k < 1 ∨ 10 < k
  · exact turn_else k n ox x hk w
  · have h : k = 1 ∨ k = 2 ∨ k = 3 ∨ k = 4 ∨ k = 5 ∨ k = 6 ∨ k = 7 ∨ k = 8 ∨ k = 9 ∨ k = 10 := by omega
    rcases h with rfl | rfl | rfl | rfl | rfl | rfl | rfl | rfl | rfl | rfl
    · exact turn_1 n ox x w
    · exact turn_2 n ox x w
    · exact turn_3 n ox x w
    · exact turn_4 n ox x w
    · exact turn_5 n ox x w
    · exact turn_6 n ox x hx w
    · exact turn_7 n ox x w
    · exact turn_8 n ox x w
    · exact turn_9 n ox x w
    · exact turn_10 n ox x w

end Go.Proofs.Ytifpcjpmannddaa
