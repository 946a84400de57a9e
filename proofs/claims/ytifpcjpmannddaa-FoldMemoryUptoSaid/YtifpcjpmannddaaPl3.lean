/- All floats in one row: the row is that of a whole number a float; least and greatest are associative and commutative. -/
import Derived.Test.YtifpcjpmannddaaPl1
namespace Go.Proofs.Ytifpcjpmannddaa
open Go.RowKit Ieee

/-- A rung's size, in units of the least place. -/
def mg (r : Nat) : Nat := if r < 4503599627370496 then r else (4503599627370496 + r % 4503599627370496) * 2 ^ (r / 4503599627370496 - 1)

theorem mg_lo (r : Nat) : 4503599627370496 * 2 ^ (r / 4503599627370496 - 1) ≤ mg r ∨ r < 4503599627370496 := by
  by_cases h : r < 4503599627370496
  · exact .inr h
  · left
    unfold mg
    rw [if_neg h]
    exact Nat.mul_le_mul_right _ (by omega)
theorem mg_hi (r : Nat) : mg r < 4503599627370496 * 2 ^ (r / 4503599627370496) := by
  unfold mg
  by_cases h : r < 4503599627370496
  · rw [if_pos h, Nat.div_eq_of_lt h]; omega
  · rw [if_neg h]
    obtain ⟨q, hq⟩ : ∃ q, r / 4503599627370496 = q + 1 := ⟨r / 4503599627370496 - 1, by have : 1 ≤ r / 4503599627370496 := (Nat.le_div_iff_mul_le (by omega)).2 (by omega); omega⟩
    rw [hq, Nat.add_sub_cancel, Nat.pow_succ]
    have h1 : 4503599627370496 + r % 4503599627370496 < 2 * 4503599627370496 := by have := Nat.mod_lt r (show 0 < 4503599627370496 by omega); omega
    have h2 : 0 < 2 ^ q := Nat.pow_pos (by omega)
    calc (4503599627370496 + r % 4503599627370496) * 2 ^ q < (2 * 4503599627370496) * 2 ^ q := Nat.mul_lt_mul_of_pos_right h1 h2
      _ = 4503599627370496 * (2 ^ q * 2) := by rw [Nat.mul_comm 2 4503599627370496, Nat.mul_assoc, Nat.mul_comm 2]

theorem mg_mono {r s : Nat} (h : r < s) : mg r < mg s := by
  have hq : r / 4503599627370496 ≤ s / 4503599627370496 := Nat.div_le_div_right (by omega)
  rcases Nat.lt_or_eq_of_le hq with hlt | heq
  · rcases mg_lo s with hs | hs
    · have h1 := mg_hi r
      have h2 : 2 ^ (r / 4503599627370496) ≤ 2 ^ (s / 4503599627370496 - 1) := Nat.pow_le_pow_right (by omega) (by omega)
      have h3 := Nat.mul_le_mul_left 4503599627370496 h2
      omega
    · have : s / 4503599627370496 = 0 := Nat.div_eq_of_lt hs
      omega
  · unfold mg
    by_cases hs : s < 4503599627370496
    · rw [if_pos hs, if_pos (by omega)]; exact h
    · have hr : ¬ r < 4503599627370496 := by
        intro hr
        rw [Nat.div_eq_of_lt hr] at heq
        have : 1 ≤ s / 4503599627370496 := (Nat.le_div_iff_mul_le (by omega)).2 (by omega)
        omega
      rw [if_neg hs, if_neg hr, heq]
      refine Nat.mul_lt_mul_of_pos_right ?_ (Nat.pow_pos (by omega))
      have e1 := Nat.div_add_mod r 4503599627370496
      have e2 := Nat.div_add_mod s 4503599627370496
      rw [heq] at e1
      omega
theorem mg_inj {r s : Nat} (h : mg r = mg s) : r = s := by
  rcases Nat.lt_trichotomy r s with h1 | h1 | h1
  · have := mg_mono h1; omega
  · exact h1
  · have := mg_mono h1; omega
theorem mg_zero : mg 0 = 0 := by decide

/-- The sign's bit. -/
def sg (x : Nat) : Bool := x / 9223372036854775808 % 2 == 1
def rung (x : Nat) : Nat := x % 9223372036854775808
/-- The float as a whole number of units of the least place; infinity one binade above. -/
def sval (x : Nat) : Int := if sg x then -(mg (rung x) : Int) else (mg (rung x) : Int)

theorem read_cases (x : Nat) : (rung x < 9218868437227405312 ∧ ∃ m a, Ieee.double.read x = .number (sg x) m (Ieee.double.leastPlace + (a : Nat)) ∧ mg (rung x) = m * 2 ^ a) ∨
    (rung x = 9218868437227405312 ∧ Ieee.double.read x = .infinity (sg x)) ∨ (9218868437227405312 < rung x ∧ (Ieee.double.read x).isNaN = true) := by
  have e1 : Ieee.double.signWeight = 9223372036854775808 := by decide
  have e2 : Ieee.double.binade = 4503599627370496 := by decide
  have e3 : Ieee.double.infRung = 9218868437227405312 := by decide
  unfold Format.read
  simp only [e1, e2, e3]
  have hr : x % 9223372036854775808 = rung x := rfl
  have hs : (x / 9223372036854775808 % 2 == 1) = sg x := rfl
  simp only [hr, hs]
  generalize rung x = r
  by_cases h1 : r < 4503599627370496
  · left
    refine ⟨by omega, r, 0, ?_, ?_⟩
    · rw [if_pos h1]; simp
    · unfold mg; rw [if_pos h1]; simp
  · by_cases h2 : r < 9218868437227405312
    · left
      refine ⟨h2, 4503599627370496 + r % 4503599627370496, r / 4503599627370496 - 1, ?_, ?_⟩
      · rw [if_neg h1, if_pos h2]
      · unfold mg; rw [if_neg h1]
    · by_cases h3 : r = 9218868437227405312
      · right; left
        exact ⟨h3, by rw [if_neg h1, if_neg h2, if_pos h3]⟩
      · right; right
        exact ⟨by omega, by rw [if_neg h1, if_neg h2, if_neg h3]; rfl⟩

theorem signed_scale (s : Bool) (m a c : Nat) (h : c ≤ a) : signed s m a = signed s m (a - c) * ((2 ^ c : Nat) : Int) := by
  unfold signed
  have e : m <<< a = m <<< (a - c) * 2 ^ c := by
    rw [Nat.shiftLeft_eq, Nat.shiftLeft_eq, Nat.mul_assoc, ← Nat.pow_add]
    congr 2
    omega
  cases s <;> simp [e, Int.neg_mul]

theorem compare_scale (x y : Int) (c : Nat) (h : 0 < c) : compare (x * (c : Int)) (y * (c : Int)) = compare x y := by
  have hc : (0 : Int) < (c : Int) := by omega
  rcases Int.lt_trichotomy x y with h1 | h1 | h1
  · rw [Int.compare_eq_lt.2 h1, Int.compare_eq_lt.2 (Int.mul_lt_mul_of_pos_right h1 hc)]
  · subst h1; simp
  · rw [Int.compare_eq_gt.2 h1, Int.compare_eq_gt.2 (Int.mul_lt_mul_of_pos_right h1 hc)]

theorem ford_sval {x y : Nat} (hx : fnan x = false) (hy : fnan y = false) : ford x y = some (compare (sval x) (sval y)) := by
  rw [fnan_eq] at hx hy
  unfold ford
  rw [fmt64]
  unfold Format.order sval
  have hinf : ∀ z : Nat, rung z < 9218868437227405312 → mg (rung z) < mg 9218868437227405312 := fun z hz => mg_mono hz
  rcases read_cases x with ⟨lx, m, a, ex, hm⟩ | ⟨lx, ex⟩ | ⟨_, ex⟩
  · rcases read_cases y with ⟨ly, n, b, ey, hn⟩ | ⟨ly, ey⟩ | ⟨_, ey⟩
    · rw [ex, ey]
      unfold Datum.order
      simp only
      congr 1
      rcases Nat.le_total a b with hab | hab
      · have hb : min (Ieee.double.leastPlace + (a : Int)) (Ieee.double.leastPlace + (b : Int)) = Ieee.double.leastPlace + (a : Int) := by omega
        rw [hb, show (Ieee.double.leastPlace + (a : Int) - (Ieee.double.leastPlace + (a : Int))).toNat = a - a by omega, show (Ieee.double.leastPlace + (b : Int) - (Ieee.double.leastPlace + (a : Int))).toNat = b - a by omega]
        rw [← compare_scale _ _ (2 ^ a) (Nat.pow_pos (by omega)), ← signed_scale _ _ _ _ (Nat.le_refl a), ← signed_scale _ _ _ _ hab]
        unfold signed
        rw [hm, hn, Nat.shiftLeft_eq, Nat.shiftLeft_eq]
      · have hb : min (Ieee.double.leastPlace + (a : Int)) (Ieee.double.leastPlace + (b : Int)) = Ieee.double.leastPlace + (b : Int) := by omega
        rw [hb, show (Ieee.double.leastPlace + (a : Int) - (Ieee.double.leastPlace + (b : Int))).toNat = a - b by omega, show (Ieee.double.leastPlace + (b : Int) - (Ieee.double.leastPlace + (b : Int))).toNat = b - b by omega]
        rw [← compare_scale _ _ (2 ^ b) (Nat.pow_pos (by omega)), ← signed_scale _ _ _ _ (Nat.le_refl b), ← signed_scale _ _ _ _ hab]
        unfold signed
        rw [hm, hn, Nat.shiftLeft_eq, Nat.shiftLeft_eq]
    · rw [ex, ey]
      have h1 := hinf x lx
      unfold Datum.order
      simp only
      rw [ly]
      congr 1
      cases sg y <;> cases sg x <;> simp <;> symm <;> first | (apply Int.compare_eq_lt.2; omega) | (apply Int.compare_eq_gt.2; omega)
    · rw [ey] at hy; cases hy
  · rcases read_cases y with ⟨ly, n, b, ey, hn⟩ | ⟨ly, ey⟩ | ⟨_, ey⟩
    · rw [ex, ey]
      have h1 := hinf y ly
      unfold Datum.order
      simp only
      rw [lx]
      congr 1
      cases sg y <;> cases sg x <;> simp <;> symm <;> first | (apply Int.compare_eq_lt.2; omega) | (apply Int.compare_eq_gt.2; omega)
    · rw [ex, ey]
      unfold Datum.order
      simp only
      rw [lx, ly]
      congr 1
      have hp : 0 < mg 9218868437227405312 := by have := mg_mono (show 0 < 9218868437227405312 by omega); omega
      cases sg y <;> cases sg x <;> simp <;> symm <;> first | (apply Int.compare_eq_lt.2; omega) | (apply Int.compare_eq_gt.2; omega) | (apply Int.compare_eq_eq.2; omega)
    · rw [ey] at hy; cases hy
  · rw [ex] at hx; cases hx

/-- A float's place in the row. -/
def rk (x : Nat) : Int := if fnan x then 18446744073709551616 else if sg x then -(rung x : Int) - 1 else (rung x : Int)

theorem fside_sg {x : Nat} (h : x < 18446744073709551616) : fside x = if sg x then 0 else 1 := by
  unfold fside fneg sg wrap64
  by_cases h1 : x < 9223372036854775808
  · have : x / 9223372036854775808 = 0 := Nat.div_eq_of_lt h1
    rw [this, if_neg]
    · rfl
    · simp; omega
  · have : x / 9223372036854775808 = 1 := by omega
    rw [this, if_pos]
    · rfl
    · simp; omega

theorem fcmp_sval {x y : Nat} (hx : fnan x = false) (hy : fnan y = false) : fcmp x y = icmp (sval x) (sval y) := by
  unfold fcmp icmp
  rw [ford_sval hx hy]
  rcases Int.lt_trichotomy (sval x) (sval y) with h | h | h
  · rw [Int.compare_eq_lt.2 h]; simp [h]
  · rw [h]; simp
  · rw [Int.compare_eq_gt.2 h, if_neg (show ¬ sval x < sval y by omega)]; simp [h]

theorem fOrder_rk {x y : Nat} (lx : x < 18446744073709551616) (ly : y < 18446744073709551616) : fOrder x y = icmp (rk x) (rk y) := by
  have rx : rung x < 9223372036854775808 := Nat.mod_lt _ (by omega)
  have ry : rung y < 9223372036854775808 := Nat.mod_lt _ (by omega)
  have sx := fside_sg lx
  have sy := fside_sg ly
  unfold fOrder rk
  cases hx : fnan x <;> cases hy : fnan y
  · have hc := fcmp_sval hx hy
    simp only [Bool.and_self, Bool.false_eq_true, if_false]
    rw [hc, sx, sy]
    have hm1 : ∀ r s : Nat, r < s → mg r < mg s := fun r s h => mg_mono h
    have hz := mg_zero
    unfold sval icmp
    rcases Nat.lt_trichotomy (rung x) (rung y) with h | h | h
    · have h1 := mg_mono h
      have h0 : 0 < mg (rung y) := by omega
      cases sg x <;> cases sg y <;> simp <;> (repeat' split) <;> omega
    · rw [h]
      by_cases h0 : rung y = 0
      · rw [h0, hz]; cases sg x <;> cases sg y <;> simp
      · have h1 := mg_mono (show 0 < rung y by omega)
        cases sg x <;> cases sg y <;> simp <;> (repeat' split) <;> omega
    · have h1 := mg_mono h
      have h0 : 0 < mg (rung x) := by omega
      cases sg x <;> cases sg y <;> simp <;> (repeat' split) <;> omega
  · simp [icmp]
    cases sg x <;> simp <;> (repeat' split) <;> omega
  · simp [icmp]
    cases sg y <;> simp <;> (repeat' split) <;> omega
  · simp [icmp]

theorem rk_inj {x y : Nat} (lx : x < 18446744073709551616) (ly : y < 18446744073709551616) (cx : canon x = x) (cy : canon y = y) (h : rk x = rk y) : x = y := by
  have rx : rung x < 9223372036854775808 := Nat.mod_lt _ (by omega)
  have ry : rung y < 9223372036854775808 := Nat.mod_lt _ (by omega)
  unfold rk at h
  cases hx : fnan x <;> cases hy : fnan y
  · rw [hx, hy] at h
    simp only [Bool.false_eq_true, if_false] at h
    have ex : x = (if sg x then 9223372036854775808 else 0) + rung x := by
      unfold sg rung
      by_cases h1 : x < 9223372036854775808
      · rw [Nat.div_eq_of_lt h1, Nat.mod_eq_of_lt h1]; simp
      · have : x / 9223372036854775808 = 1 := by omega
        rw [this]; simp; omega
    have ey : y = (if sg y then 9223372036854775808 else 0) + rung y := by
      unfold sg rung
      by_cases h1 : y < 9223372036854775808
      · rw [Nat.div_eq_of_lt h1, Nat.mod_eq_of_lt h1]; simp
      · have : y / 9223372036854775808 = 1 := by omega
        rw [this]; simp; omega
    cases hsx : sg x <;> cases hsy : sg y <;> rw [hsx, hsy] at h <;> rw [hsx] at ex <;> rw [hsy] at ey <;> simp at h ex ey <;> omega
  · rw [hx, hy] at h; simp at h; cases hsx : sg x <;> rw [hsx] at h <;> simp at h <;> omega
  · rw [hx, hy] at h; simp at h; cases hsx : sg y <;> rw [hsx] at h <;> simp at h <;> omega
  · rw [← cx, ← cy, canon_of_nan hx, canon_of_nan hy]

/-- A float in the one form. -/
def FOk (x : Nat) : Prop := x < 18446744073709551616 ∧ canon x = x
theorem canon_lt64 {x : Nat} (h : x < 18446744073709551616) : canon x < 18446744073709551616 := by
  unfold canon; split <;> omega
theorem FOk.canon {x : Nat} (h : x < 18446744073709551616) : FOk (canon x) := ⟨canon_lt64 h, canon_canon x⟩

theorem fLeast_rk {x y : Nat} (hx : FOk x) (hy : FOk y) : fLeast x y = if rk y < rk x then y else x := by
  unfold fLeast
  rw [fOrder_rk hx.1 hy.1]
  unfold icmp
  by_cases h : rk y < rk x
  · rw [if_neg (show ¬ rk x < rk y by omega), if_pos h, if_pos h, if_pos (by omega), hy.2]
  · rw [if_neg h]
    by_cases h2 : rk x < rk y
    · rw [if_pos h2, if_neg (by omega), hx.2, if_neg h]
    · rw [if_neg h2, if_neg (by omega), hx.2, if_neg h]
theorem fMost_rk {x y : Nat} (hx : FOk x) (hy : FOk y) : fMost x y = if rk x < rk y then y else x := by
  unfold fMost
  rw [fOrder_rk hx.1 hy.1]
  unfold icmp
  by_cases h : rk x < rk y
  · rw [if_pos h, if_pos h, if_pos (by omega), hy.2]
  · rw [if_neg h, if_neg h]
    by_cases h2 : rk y < rk x
    · rw [if_pos h2, if_neg (by omega), hx.2]
    · rw [if_neg h2, if_neg (by omega), hx.2]

theorem fLeast_ok {x y : Nat} (hx : FOk x) (hy : FOk y) : FOk (fLeast x y) := by rw [fLeast_rk hx hy]; split <;> assumption
theorem fMost_ok {x y : Nat} (hx : FOk x) (hy : FOk y) : FOk (fMost x y) := by rw [fMost_rk hx hy]; split <;> assumption

theorem fLeast_comm {x y : Nat} (hx : FOk x) (hy : FOk y) : fLeast x y = fLeast y x := by
  rw [fLeast_rk hx hy, fLeast_rk hy hx]
  by_cases h1 : rk y < rk x
  · rw [if_pos h1, if_neg (by omega)]
  · by_cases h2 : rk x < rk y
    · rw [if_neg h1, if_pos h2]
    · rw [if_neg h1, if_neg h2]
      exact rk_inj hx.1 hy.1 hx.2 hy.2 (by omega)
theorem fMost_comm {x y : Nat} (hx : FOk x) (hy : FOk y) : fMost x y = fMost y x := by
  rw [fMost_rk hx hy, fMost_rk hy hx]
  by_cases h1 : rk y < rk x
  · rw [if_neg (by omega), if_pos h1]
  · by_cases h2 : rk x < rk y
    · rw [if_pos h2, if_neg h1]
    · rw [if_neg h2, if_neg h1]
      exact rk_inj hx.1 hy.1 hx.2 hy.2 (by omega)
theorem fLeast_assoc {x y z : Nat} (hx : FOk x) (hy : FOk y) (hz : FOk z) : fLeast (fLeast x y) z = fLeast x (fLeast y z) := by
  rw [fLeast_rk (fLeast_ok hx hy) hz, fLeast_rk hx (fLeast_ok hy hz), fLeast_rk hx hy, fLeast_rk hy hz]
  (repeat' split) <;> first | rfl | (exfalso; omega) | skip
theorem fMost_assoc {x y z : Nat} (hx : FOk x) (hy : FOk y) (hz : FOk z) : fMost (fMost x y) z = fMost x (fMost y z) := by
  rw [fMost_rk (fMost_ok hx hy) hz, fMost_rk hx (fMost_ok hy hz), fMost_rk hx hy, fMost_rk hy hz]
  (repeat' split) <;> first | rfl | (exfalso; omega) | skip

end Go.Proofs.Ytifpcjpmannddaa
