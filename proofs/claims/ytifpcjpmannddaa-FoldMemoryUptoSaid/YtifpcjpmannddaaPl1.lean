/- Floats as words: facts on NaNs, on the whole part, and on what an arithmetic operation gives whatever the tape says. -/
import Derived.Test.YtifpcjpmannddaaPl0
import Derived.Laws.FloatArith
import Derived.Deep.Draws
namespace Go.Proofs.Ytifpcjpmannddaa
open Go.RowKit Ieee

theorem fmt64 : FloatKind.f64.format = Ieee.double := rfl

theorem fnan_eq (x : Nat) : fnan x = (Ieee.double.read x).isNaN := by
  unfold fnan ford
  rw [fmt64]
  unfold Format.order
  generalize Ieee.double.read x = d
  cases d with
  | number s m i => simp [Datum.order, Datum.isNaN, compare, compareOfLessAndEq]
  | infinity s => cases s <;> simp [Datum.order, Datum.isNaN, compare, compareOfLessAndEq]
  | nan s t => simp [Datum.order, Datum.isNaN]

theorem ford_nan_left {x : Nat} (h : fnan x = true) (c : Nat) : ford x c = none := by
  rw [fnan_eq] at h
  unfold ford
  rw [fmt64]
  unfold Format.order
  revert h
  generalize Ieee.double.read x = d
  cases d <;> simp [Datum.order, Datum.isNaN]

theorem ford_nan_right {x : Nat} (h : fnan x = true) (c : Nat) : ford c x = none := by
  rw [fnan_eq] at h
  unfold ford
  rw [fmt64]
  unfold Format.order
  revert h
  generalize Ieee.double.read x = d
  generalize Ieee.double.read c = e
  cases d <;> cases e <;> simp [Datum.order, Datum.isNaN]

theorem fnan_quiet : fnan 9221120237041090561 = true := by decide +kernel

theorem fnan_canon (x : Nat) : fnan (canon x) = fnan x := by
  unfold canon
  cases h : fnan x
  · simp [h]
  · simp [fnan_quiet]

theorem canon_canon (x : Nat) : canon (canon x) = canon x := by
  cases h : fnan x
  · simp [canon, h]
  · simp [canon, h, fnan_quiet]

theorem canon_of_not {x : Nat} (h : fnan x = false) : canon x = x := by simp [canon, h]
theorem canon_of_nan {x : Nat} (h : fnan x = true) : canon x = 9221120237041090561 := by simp [canon, h]

theorem ford_canon_left (x c : Nat) : ford (canon x) c = ford x c := by
  cases h : fnan x
  · rw [canon_of_not h]
  · rw [ford_nan_left h, ford_nan_left (by rw [fnan_canon]; exact h)]
theorem ford_canon_right (x c : Nat) : ford c (canon x) = ford c x := by
  cases h : fnan x
  · rw [canon_of_not h]
  · rw [ford_nan_right h, ford_nan_right (by rw [fnan_canon]; exact h)]

theorem ford_congr {x y : Nat} (h : canon x = canon y) (c : Nat) : ford x c = ford y c := by
  rw [← ford_canon_left x, ← ford_canon_left y, h]

theorem canon_lt {x : Nat} (h : x < 18446744073709551616) : canon x < 18446744073709551616 := by
  unfold canon; split <;> omega

/-- An arithmetic operation, of a NaN the one that is told. -/
def fbin (op : BinOp) (x y : Nat) : Nat := (floatBits op .f64 x y).getD 9221120237041090561

theorem nan_word (v u : Nat) (_h2 : v < 2) (h1 : u < 2 ^ 52 - 1) : fnan (v * 2 ^ 63 + 9218868437227405312 + 1 + u) = true := by
  rw [fnan_eq]
  have e : (v * 2 ^ 63 + 9218868437227405312 + 1 + u) % Ieee.double.signWeight = 9218868437227405312 + 1 + u := by
    show (v * 2 ^ 63 + 9218868437227405312 + 1 + u) % 9223372036854775808 = _
    omega
  unfold Format.read
  simp only [e]
  have b1 : ¬ (9218868437227405312 + 1 + u < Ieee.double.binade) := by show ¬ (_ < 4503599627370496); omega
  have b2 : ¬ (9218868437227405312 + 1 + u < Ieee.double.infRung) := by show ¬ (_ < 9218868437227405312); omega
  have b3 : ¬ (9218868437227405312 + 1 + u = Ieee.double.infRung) := by show ¬ (_ = 9218868437227405312); omega
  rw [if_neg b1, if_neg b2, if_neg b3]
  rfl

theorem nan_of_cut (a b t : Nat) : fnan ((Question.nanBits .f64 a b).cut t) = true :=
  nan_word (t % 2) ((t / 2) % (2 ^ 52 - 1)) (Nat.mod_lt _ (by decide)) (Nat.mod_lt _ (by decide))

theorem arith_run {P : Program} (op : BinOp) (hop : op = .add ∨ op = .sub ∨ op = .mul ∨ op = .quo) (t : TypeId) (x y : Nat) (w : World) :
    ∃ r n, (binOp op t (.float .f64 x) (.float .f64 y)).run P w = .ok (.float .f64 r) (w.drewN n) ∧ canon r = canon (fbin op x y) := by
  cases h : floatBits op .f64 x y with
  | some r => exact ⟨r, 0, run_float_arith w op t .f64 x y r h, by simp [fbin, h]⟩
  | none =>
    refine ⟨(Question.nanBits .f64 x y).cut (w.tape w.drawn (.nanBits .f64 x y)), 1, ?_, ?_⟩
    · unfold floatBits at h
      rcases hop with rfl | rfl | rfl | rfl <;> simp only at h <;> simp [binOp, Op.floatArith, h, choose, Sem.run, Question.forced, World.drewN]
    · rw [canon_of_nan (nan_of_cut _ _ _)]
      simp [fbin, h, canon, fnan_quiet]

theorem int_lt_of {a b : Int} (h : ¬ (some (compare a b) = some Ordering.gt ∨ some (compare a b) = some Ordering.eq)) : a < b := by
  simp only [compare, compareOfLessAndEq] at h
  by_cases hl : a < b
  · exact hl
  · exfalso; apply h; by_cases he : a = b
    · right; simp [he]
    · left; simp [hl, he]
theorem int_gt_of {a b : Int} (h : ¬ (some (compare a b) = some Ordering.lt ∨ some (compare a b) = some Ordering.eq)) : b < a := by
  simp only [compare, compareOfLessAndEq] at h
  by_cases hl : a < b
  · exfalso; apply h; left; simp [hl]
  · by_cases he : a = b
    · exfalso; apply h; right; simp [he]
    · omega

/-- What float64 makes of whole numbers below 2^63 in size. -/
theorem whole_some {x : Nat} (h0 : fnan x = false) (h1 : ¬ (ford x 4890909195324358656 = some .gt ∨ ford x 4890909195324358656 = some .eq)) (h2 : ¬ (ford x 14114281232179134464 = some .lt ∨ ford x 14114281232179134464 = some .eq)) :
    ∃ n, floatToIntVal .f64 x .i64 = some n := by
  rw [fnan_eq] at h0
  unfold ford Format.order at h1 h2
  rw [fmt64] at h1 h2
  have c1 : Ieee.double.read 4890909195324358656 = .number false 4503599627370496 11 := by decide +kernel
  have c2 : Ieee.double.read 14114281232179134464 = .number true 4503599627370496 11 := by decide +kernel
  rw [c1] at h1; rw [c2] at h2
  unfold floatToIntVal FloatKind.decode
  rw [fmt64]
  revert h0 h1 h2
  generalize Ieee.double.read x = d
  intro h0 h1 h2
  cases d with
  | nan s t => simp [Datum.isNaN] at h0
  | infinity s => cases s <;> simp [Datum.order] at h1 h2
  | number s m i =>
    simp only [Datum.order] at h1 h2
    have hAB : (m <<< (i - min i 11).toNat) < (4503599627370496 <<< (11 - min i 11).toNat) := by
      cases s
      · have := int_lt_of h1
        simp only [signed, Bool.false_eq_true, if_false] at this
        exact Int.ofNat_lt.1 this
      · have := int_gt_of h2
        simp only [signed, if_true] at this
        exact Int.ofNat_lt.1 (Int.neg_lt_neg_iff.1 this)
    have key : Toward.zero.cut s (m <<< i.toNat) (-i).toNat < 2 ^ 63 := by
      unfold Toward.cut
      simp only [Bool.toNat_false, Nat.add_zero]
      rw [Nat.shiftLeft_eq] at hAB
      rw [Nat.shiftLeft_eq] at hAB
      by_cases hi : 0 ≤ i
      · obtain ⟨k, rfl⟩ := Int.eq_ofNat_of_zero_le hi
        have e0 : (-(k : Int)).toNat = 0 := by omega
        rw [e0, Int.toNat_natCast]
        simp only [Nat.zero_min, Nat.shiftLeft_zero, Nat.div_one]
        rw [Nat.shiftLeft_eq]
        by_cases hk : k ≤ 11
        · rw [Int.min_eq_left (by omega), show ((k : Int) - k).toNat = 0 by omega, show (11 - (k : Int)).toNat = 11 - k by omega, Nat.pow_zero, Nat.mul_one] at hAB
          calc m * 2 ^ k < (4503599627370496 * 2 ^ (11 - k)) * 2 ^ k := Nat.mul_lt_mul_of_pos_right hAB (Nat.two_pow_pos k)
            _ = 2 ^ 63 := by rw [Nat.mul_assoc, ← Nat.pow_add, show 11 - k + k = 11 by omega]
        · rw [Int.min_eq_right (by omega), show ((k : Int) - 11).toNat = k - 11 by omega, show ((11 : Int) - 11).toNat = 0 by omega, Nat.pow_zero, Nat.mul_one] at hAB
          calc m * 2 ^ k = (m * 2 ^ (k - 11)) * 2 ^ 11 := by rw [Nat.mul_assoc, ← Nat.pow_add, show k - 11 + 11 = k by omega]
            _ < 4503599627370496 * 2 ^ 11 := Nat.mul_lt_mul_of_pos_right hAB (by decide)
            _ = 2 ^ 63 := by decide
      · obtain ⟨d, hd⟩ : ∃ d : Nat, i = -(d : Int) := ⟨(-i).toNat, by omega⟩
        subst hd
        have hd0 : 0 < d := by omega
        rw [Int.min_eq_left (by omega), show (-(d : Int) - -(d : Int)).toNat = 0 by omega, show (11 - -(d : Int)).toNat = 11 + d by omega, Nat.pow_zero, Nat.mul_one] at hAB
        rw [show (-(d : Int)).toNat = 0 by omega, show (- -(d : Int)).toNat = d by omega, Nat.shiftLeft_zero, Nat.shiftLeft_eq, Nat.one_mul]
        have hB : 4503599627370496 * 2 ^ (11 + d) = 2 ^ 63 * 2 ^ d := by rw [Nat.pow_add, ← Nat.mul_assoc]
        rw [hB] at hAB
        rcases Nat.le_total d (m.log2 + 2) with hle | hle
        · rw [Nat.min_eq_left hle]
          exact (Nat.div_lt_iff_lt_mul (Nat.two_pow_pos d)).2 hAB
        · rw [Nat.min_eq_right hle]
          have hm : m < 2 ^ (m.log2 + 2) := Nat.lt_trans Nat.lt_log2_self (Nat.pow_lt_pow_right (by decide) (by omega))
          rw [Nat.div_eq_of_lt hm]
          decide
    simp only [Datum.toInt, Datum.integral]
    generalize Toward.zero.cut s (m <<< i.toNat) (-i).toNat = c at *
    have hc : c < 9223372036854775808 := key
    refine ⟨signed s c 0, if_pos ?_⟩
    show (-9223372036854775808 : Int) ≤ _ ∧ _ ≤ (9223372036854775807 : Int)
    cases s <;> simp [signed] <;> omega
end Go.Proofs.Ytifpcjpmannddaa
