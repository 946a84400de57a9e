/- The walks of the package fbit: the row of all floats, floor and scale. -/
import Derived.Test.YtifpcjpmannddaaFb0
import Derived.Below
import Derived.Deep.QuietTactic
import Derived.BigQuiet
namespace Go.Proofs.Ytifpcjpmannddaa
open Go.Proofs Go.RowKit

theorem cmp_Or2 (x y : Int) (w : World) : Calls Try.prog 45 #[.slice (some ⟨w.heap.size, 0, none⟩) 2 2] (w.alloc (.cells #[.int .i64 x, .int .i64 y] 3)) fun e w' => e = .returned (.int .i64 (if x = 0 then y else x)) ∧ w.alloc (.cells #[.int .i64 x, .int .i64 y] 3) = w' :=
  cmp_Or _ _ _ _ (by rw [World.cell?_alloc_at _ _ _ _ rfl]; rfl) (by rw [World.cell?_alloc_at _ _ _ _ rfl]; rfl)

theorem fbit_Order (a b : Nat) (w : World) : Calls Try.prog 39 #[.float .f64 a, .float .f64 b] w fun e w' => e = .returned (.int .i64 (fOrder a b)) ∧ Below w.heap.size w w' := by
  cases ha : fnan a <;> cases hb : fnan b
  · have hr : fOrder a b = if fcmp a b = 0 then icmp (fside a) (fside b) else fcmp a b := by simp [fOrder, ha, hb]
    have hc := cmp_Compare_float a b
    rw [hr]
    have HC : ∀ w, Calls Try.prog 46 #[.float .f64 a, .float .f64 b] w fun e w' => e = .returned (.int .i64 (fcmp a b)) ∧ w = w' := fun w => hc w ha hb
    have H0 := Lib.hid HC
    clear hc HC hr
    unfold fnan ford at ha hb
    go_enter Try.func39, Try.ntmps39
    go_wp2_with (first
      | (go_at_call 46; refine (H0.out _).mono ?_; rintro e w' ⟨rfl, rfl⟩)
      | (go_at_call 48; refine (fbit_side _ _).mono ?_; rintro e w' ⟨rfl, rfl⟩)
      | (go_at_call 47; refine (cmp_Compare_int _ _ _).mono ?_; rintro e w' ⟨rfl, rfl⟩)
      | (go_at_call 45; refine (cmp_Or2 _ _ _).mono ?_; rintro e w' ⟨rfl, rfl⟩))
    all_goals (go_ret; exact ⟨by simp [*], (Below.refl _ _).alloc (Nat.le_refl _) _⟩)
  all_goals
    have hr : ∃ r, fOrder a b = r := ⟨_, rfl⟩
    obtain ⟨r, hr⟩ := hr
    have hr' := hr
    simp [fOrder, ha, hb] at hr'
    rw [hr, ← hr']
    clear hr hr'
    unfold fnan ford at ha hb
    go_enter Try.func39, Try.ntmps39
    go_wp2
    go_ret
    exact ⟨rfl, Below.refl _ _⟩

theorem fbit_Least (a b : Nat) (w : World) : Calls Try.prog 28 #[.float .f64 a, .float .f64 b] w fun e w' => e = .returned (.float .f64 (fLeast a b)) ∧ Below w.heap.size w w' := by
  go_enter Try.func28, Try.ntmps28
  go_wp2_with (first
    | (go_at_call 39; refine (fbit_Order _ _ _).mono ?_; rintro e w1 ⟨rfl, hb⟩)
    | (go_at_call 33; refine (fbit_Canon _ _).mono ?_; rintro e w' ⟨rfl, rfl⟩))
  all_goals (go_ret; exact ⟨by unfold fLeast; first | (rw [if_pos (by omega)]; rfl) | (rw [if_neg (by omega)]; rfl), hb⟩)

theorem fbit_Most (a b : Nat) (w : World) : Calls Try.prog 29 #[.float .f64 a, .float .f64 b] w fun e w' => e = .returned (.float .f64 (fMost a b)) ∧ Below w.heap.size w w' := by
  go_enter Try.func29, Try.ntmps29
  go_wp2_with (first
    | (go_at_call 39; refine (fbit_Order _ _ _).mono ?_; rintro e w1 ⟨rfl, hb⟩)
    | (go_at_call 33; refine (fbit_Canon _ _).mono ?_; rintro e w' ⟨rfl, rfl⟩))
  all_goals (go_ret; exact ⟨by unfold fMost; first | (rw [if_pos (by omega)]; rfl) | (rw [if_neg (by omega)]; rfl), hb⟩)

/-- Its size. -/
def fabs (x : Nat) : Nat := (bits BinOp.andNot IntKind.u64 (x : Int) 9223372036854775808).toNat
def fcopysign (x y : Nat) : Nat := (bits BinOp.or IntKind.u64 (bits BinOp.andNot IntKind.u64 (x : Int) 9223372036854775808) (bits BinOp.and IntKind.u64 (y : Int) 9223372036854775808)).toNat
def finf (x : Nat) : Bool := ford (fabs x) 9218868437227405311 == some .gt

theorem math_Abs (x : Nat) (w : World) : Calls Try.prog 53 #[.float .f64 x] w fun e w' => e = .returned (.float .f64 (fabs x)) ∧ w = w' := by
  have hf := fromBits_run
  have hg := toBits_run
  go_enter Try.func53, Try.ntmps53
  go_wp2
  go_ret
  exact ⟨rfl, rfl⟩

theorem math_Copysign (x y : Nat) (w : World) : Calls Try.prog 52 #[.float .f64 x, .float .f64 y] w fun e w' => e = .returned (.float .f64 (fcopysign x y)) ∧ w = w' := by
  have hf := fromBits_run
  have hg := toBits_run
  go_enter Try.func52, Try.ntmps52
  go_wp2
  go_ret
  exact ⟨rfl, rfl⟩

theorem math_IsInf (x : Nat) (w : World) : Calls Try.prog 85 #[.float .f64 x, .int .i64 0] w fun e w' => e = .returned (.bool (finf x)) ∧ w = w' := by
  go_enter Try.func85, Try.ntmps85
  go_wp2_with (go_at_call 53; refine (math_Abs _ _).mono ?_; rintro e w' ⟨rfl, rfl⟩)
  go_ret
  exact ⟨rfl, rfl⟩

theorem math_IsNaN (x : Nat) (w : World) : Calls Try.prog 84 #[.float .f64 x] w fun e w' => e = .returned (.bool (fnan x)) ∧ w = w' := by
  go_enter Try.func84, Try.ntmps84
  go_wp2
  go_ret
  exact ⟨rfl, rfl⟩

theorem mul_some {x : Nat} (h : fnan x = false) : ∃ r, floatBits .mul .f64 x 4841369599423283200 = some r := by
  rw [fnan_eq] at h
  have c : Ieee.double.read 4841369599423283200 = .number false 4503599627370496 0 := by decide +kernel
  unfold floatBits
  simp only [fmt64, Ieee.Format.mul, c]
  revert h
  generalize Ieee.double.read x = d
  intro h
  cases d with
  | nan s t => simp [Ieee.Datum.isNaN] at h
  | infinity s => exact ⟨_, rfl⟩
  | number s m i => exact ⟨_, rfl⟩

def fnorm (x : Nat) : Nat × Int := if ford (fabs x) 4503599627370496 == some .lt then (fbin .mul x 4841369599423283200, -52) else (x, 0)

theorem math_normalize (x : Nat) (hx : fnan x = false) (w : World) : Calls Try.prog 87 #[.float .f64 x] w fun e w' => e = .returned (.tuple #[.float .f64 (fnorm x).1, .int .i64 (fnorm x).2]) ∧ w = w' := by
  obtain ⟨r, hr⟩ := mul_some hx
  have hm : ∀ t w, (binOp .mul t (.float .f64 x) (.float .f64 4841369599423283200)).run Try.prog w = .ok (.float .f64 r) w := fun t w => run_float_arith w .mul t .f64 x _ r hr
  have hb : fbin .mul x 4841369599423283200 = r := by simp [fbin, hr]
  have HB := Lib.hid hb
  clear hr hb
  cases hs : (ford (fabs x) 4503599627370496 == some .lt)
  all_goals
    have hr : fnorm x = fnorm x := rfl
    conv at hr => rhs; unfold fnorm; rw [hs, HB.out]
    have hs' := hs
    unfold ford at hs'
    rw [hr]
    clear hr hs
    go_enter Try.func87, Try.ntmps87
    go_wp2_with (first | (go_at_call 53; refine (math_Abs _ _).mono ?_; rintro e w' ⟨rfl, rfl⟩) | (simp only))
    go_ret2
    exact ⟨rfl, rfl⟩

def lexp (x : Nat) (n : Int) : Int :=
  wrap64 (wrap64 (n + (fnorm x).2) + wrap64 (bits BinOp.and IntKind.i64 (wrap64 (((fnorm x).1 : Int) / 4503599627370496)) 2047 - 1023))
def fput (y : Nat) (e : Int) : Nat := (bits BinOp.or IntKind.u64 (bits BinOp.andNot IntKind.u64 (y : Int) 9218868437227405312) ((e + 1023) * 4503599627370496)).toNat
/-- x times 2 to the n, of a NaN whichever. -/
def fldexp (x : Nat) (n : Int) : Nat :=
  if fnan x then x else if ford x 0 == some .eq then x else if finf x then x
  else if lexp x n < -1075 then fcopysign 0 (fnorm x).1
  else if 1023 < lexp x n then (if ford (fnorm x).1 0 == some .lt then 18442240474082181120 else 9218868437227405312)
  else if lexp x n < -1022 then fbin .mul 4368491638549381120 (fput (fnorm x).1 (lexp x n + 53))
  else fbin .mul 4607182418800017408 (fput (fnorm x).1 (lexp x n))

theorem arith_fn {P : Program} (op : BinOp) (hop : op = .add ∨ op = .sub ∨ op = .mul ∨ op = .quo) (t : TypeId) (w : World) :
    ∃ (R K : Nat → Nat → Nat), (∀ x y, (binOp op t (.float .f64 x) (.float .f64 y)).run P w = .ok (.float .f64 (R x y)) (w.drewN (K x y))) ∧ ∀ x y, canon (R x y) = canon (fbin op x y) :=
  ⟨fun x y => Classical.choose (arith_run (P := P) op hop t x y w), fun x y => Classical.choose (Classical.choose_spec (arith_run (P := P) op hop t x y w)),
    fun x y => (Classical.choose_spec (Classical.choose_spec (arith_run (P := P) op hop t x y w))).1, fun x y => (Classical.choose_spec (Classical.choose_spec (arith_run (P := P) op hop t x y w))).2⟩

theorem math_Inf (s : Int) (w : World) : Calls Try.prog 88 #[.int .i64 s] w fun e w' => e = .returned (.float .f64 (if 0 ≤ s then 9218868437227405312 else 18442240474082181120)) ∧ w = w' := by
  have hf := fromBits_run
  go_enter Try.func88, Try.ntmps88
  go_wp2
  · have h : 0 ≤ s := by assumption
    go_ret; exact ⟨by simp, rfl⟩
  · have h : s < 0 := by assumption
    go_ret; exact ⟨by simp, rfl⟩

/-- A float, up to draws: the one that canon tells. -/
def FloatIs (y : Nat) (w : World) (e : Ending) (w' : World) : Prop := ∃ r n, e = .returned (.float .f64 r) ∧ canon r = canon y ∧ w' = w.drewN n

set_option maxRecDepth 100000 in
theorem math_ldexp (x : Nat) (n : Int) (_h0 : -5000 ≤ n) (_h1 : n ≤ 5000) (w : World) : Calls Try.prog 82 #[.float .f64 x, .int .i64 n] w (FloatIs (fldexp x n) w) := by
  have hf := fromBits_run
  have hg := toBits_run
  obtain ⟨R, K, hm, hR⟩ := arith_fn (P := Try.prog) .mul (by simp) 39 w
  have HR := Lib.hid hR
  clear hR
  cases hx : fnan x
  · go_enter Try.func82, Try.ntmps82
    go_wp2_with (first
      | (go_at_call 85; refine (math_IsInf _ _).mono ?_; rintro e w' ⟨rfl, rfl⟩)
      | (go_at_call 84; refine (math_IsNaN _ _).mono ?_; rintro e w' ⟨rfl, rfl⟩)
      | (go_at_call 87; refine (math_normalize _ hx _).mono ?_; rintro e w' ⟨rfl, rfl⟩)
      | (go_at_call 88; refine (math_Inf _ _).mono ?_; rintro e w' ⟨rfl, rfl⟩)
      | (go_at_call 52; refine (math_Copysign _ _ _).mono ?_; rintro e w' ⟨rfl, rfl⟩))
    · go_ret
      have h3 : (ford x 0 == some .eq) = true := by assumption
      exact ⟨_, 0, rfl, by simp [fldexp, hx, h3], rfl⟩
    · have h3 : (ford x 0 == some .eq) = false := by assumption
      have h4 : finf x = true := by assumption
      go_ret
      exact ⟨_, 0, rfl, by simp [fldexp, hx, h3, h4], rfl⟩
    all_goals
      have h3 : (ford x 0 == some .eq) = false := by assumption
      have h4 : ¬ (finf x = true) := by assumption
      have h4' : finf x = false := by simpa using h4
    · have h5 : lexp x n < -1075 := by assumption
      go_ret
      exact ⟨_, 0, rfl, by simp [fldexp, hx, h3, h4', h5], rfl⟩
    · have h5 : -1075 ≤ lexp x n := by assumption
      have h6 : 1023 < lexp x n := by assumption
      have h7 : (ford (fnorm x).1 0 == some .lt) = true := by assumption
      go_ret
      refine ⟨_, 0, rfl, ?_, rfl⟩
      unfold fldexp
      rw [hx, h3, h4', if_neg (by simp), if_neg (by simp), if_neg (by simp), if_neg (by omega), if_pos h6, h7]; rfl
    · have h5 : -1075 ≤ lexp x n := by assumption
      have h6 : 1023 < lexp x n := by assumption
      have h7 : (ford (fnorm x).1 0 == some .lt) = false := by assumption
      go_ret
      refine ⟨_, 0, rfl, ?_, rfl⟩
      unfold fldexp
      rw [hx, h3, h4', if_neg (by simp), if_neg (by simp), if_neg (by simp), if_neg (by omega), if_pos h6, h7]; rfl
    · have h5 : -1075 ≤ lexp x n := by assumption
      have h6 : lexp x n ≤ 1023 := by assumption
      have h7 : lexp x n < -1022 := by assumption
      go_ret
      refine ⟨_, _, rfl, ?_, rfl⟩
      rw [HR.out]
      unfold fldexp
      rw [hx, h3, h4', if_neg (by simp), if_neg (by simp), if_neg (by simp), if_neg (by omega), if_neg (by omega), if_pos h7]
      rfl
    · have h5 : -1075 ≤ lexp x n := by assumption
      have h6 : lexp x n ≤ 1023 := by assumption
      have h7 : -1022 ≤ lexp x n := by assumption
      go_ret
      refine ⟨_, _, rfl, ?_, rfl⟩
      rw [HR.out]
      unfold fldexp
      rw [hx, h3, h4', if_neg (by simp), if_neg (by simp), if_neg (by simp), if_neg (by omega), if_neg (by omega), if_neg (by omega)]
      rfl
  · go_enter Try.func82, Try.ntmps82
    have h3 : ∀ c, FloatKind.f64.format.order x c = none := ford_nan_left hx
    go_wp2_with (first
      | (go_at_call 85; refine (math_IsInf _ _).mono ?_; rintro e w' ⟨rfl, rfl⟩)
      | (go_at_call 84; refine (math_IsNaN _ _).mono ?_; rintro e w' ⟨rfl, rfl⟩))
    all_goals (go_ret; exact ⟨_, 0, rfl, by simp [fldexp, hx], rfl⟩)

theorem math_Ldexp (x : Nat) (n : Int) (h0 : -5000 ≤ n) (h1 : n ≤ 5000) (w : World) : Calls Try.prog 72 #[.float .f64 x, .int .i64 n] w (FloatIs (fldexp x n) w) := by
  go_enter Try.func72, Try.ntmps72
  go_wp2_with (go_at_call 82; refine (math_ldexp _ _ h0 h1 _).mono ?_; rintro e w' ⟨r, k, rfl, hr, rfl⟩)
  go_ret
  exact ⟨r, k, rfl, hr, rfl⟩

def clamp (n : Int) : Int := max (-5000) (min 5000 n)
def fScale (x : Nat) (n : Int) : Nat := canon (fldexp x (clamp n))

set_option maxRecDepth 100000 in
theorem fbit_Scale (x : Nat) (n : Int) (w : World) : Calls Try.prog 55 #[.float .f64 x, .int .i64 n] w fun e w' => e = .returned (.float .f64 (fScale x n)) ∧ ∃ k, w' = w.drewN k := by
  obtain ⟨m, hm, h0, h1, h2⟩ : ∃ m, clamp n = m ∧ -5000 ≤ m ∧ m ≤ 5000 ∧ ((n ≤ -5000 ∧ m = -5000) ∨ (5000 ≤ n ∧ m = 5000) ∨ (-5000 < n ∧ n < 5000 ∧ m = n)) := ⟨_, rfl, by unfold clamp; omega, by unfold clamp; omega, by unfold clamp; omega⟩
  unfold fScale
  rw [hm]
  clear hm
  rcases h2 with ⟨h2, rfl⟩ | ⟨h2, rfl⟩ | ⟨h2, h3, rfl⟩
  all_goals
    go_enter Try.func55, Try.ntmps55
    go_wp2_with (first
      | (go_at_call 72; refine (math_Ldexp _ _ h0 h1 _).mono ?_; rintro e w' ⟨r, k, rfl, hr, rfl⟩; have HR := Lib.hid hr; clear hr)
      | (go_at_call 33; refine (fbit_Canon _ _).mono ?_; rintro e w' ⟨rfl, rfl⟩))
    go_ret
    exact ⟨congrArg (fun z => Ending.returned (Value.float .f64 z)) HR.out, k, rfl⟩

/-- The greatest whole float that isn't above x. -/
def fFloor (x : Nat) : Nat := canon (if fnan x then x else FloatKind.f64.encode ((FloatKind.f64.decode x).integral .down))

theorem floor_run (x : Nat) (hx : canon x = x) (w : World) : (callFunc 79 #[.float .f64 x]).run Try.prog w = .ok (.value (.float .f64 (if fnan x then x else FloatKind.f64.encode ((FloatKind.f64.decode x).integral .down)))) w := by
  rw [run_callFunc_extern (P := Try.prog) (f := 79) (fn := Try.f79) (e := Extern.MathFloor.toIntegral "math.archFloor" .down) (by kernel_rfl) (by kernel_rfl) (by kernel_rfl) (by kernel_rfl) (by kernel_rfl)]
  cases h : fnan x
  · rw [fnan_eq] at h
    have h' : (FloatKind.f64.decode x).isNaN = false := h
    have e : ∀ d : Ieee.Datum, FloatKind.f64.decode x = d → d.isNaN = false → Extern.MathFloor.toIntegral "math.archFloor" .down #[.float .f64 x] = pure (.float .f64 (FloatKind.f64.encode (d.integral .down))) := by
      intro d hd hn
      change Extern.MathFloor.toIntegral.match_1 (fun _ => Sem Value) (FloatKind.f64.decode x) _ _ = _
      rw [hd]
      cases d with
      | nan s t => simp [Ieee.Datum.isNaN] at hn
      | infinity s => rfl
      | number s m i => rfl
    rw [e _ rfl h']
    rfl
  · rw [canon_of_nan h] at hx
    subst hx
    rfl

theorem fbit_Floor (x : Nat) (hx : canon x = x) (w : World) : Calls Try.prog 54 #[.float .f64 x] w fun e w' => e = .returned (.float .f64 (fFloor x)) ∧ w = w' := by
  obtain ⟨y, hy⟩ : ∃ y, (if fnan x then x else FloatKind.f64.encode ((FloatKind.f64.decode x).integral .down)) = y := ⟨_, rfl⟩
  have hf := floor_run x hx
  unfold fFloor
  rw [hy] at hf ⊢
  clear hx hy
  have hF : ∀ w, Calls Try.prog 71 #[.float .f64 x] w fun e w' => e = .returned (.float .f64 y) ∧ w = w' := by
    intro w
    go_enter Try.func71, Try.ntmps71
    go_wp2
    go_ret
    exact ⟨rfl, rfl⟩
  have HF := Lib.hid hF
  clear hF hf
  go_enter Try.func54, Try.ntmps54
  go_wp2_with (first
    | (go_at_call 71; refine (HF.out _).mono ?_; rintro e w' ⟨rfl, rfl⟩)
    | (go_at_call 33; refine (fbit_Canon _ _).mono ?_; rintro e w' ⟨rfl, rfl⟩))
  go_ret
  exact ⟨rfl, rfl⟩

end Go.Proofs.Ytifpcjpmannddaa
