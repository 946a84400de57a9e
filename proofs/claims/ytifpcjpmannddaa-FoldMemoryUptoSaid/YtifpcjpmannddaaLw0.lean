/- The laws' small functions: right, place, table. -/
import Derived.Test.YtifpcjpmannddaaAdd
namespace Go.Proofs.Ytifpcjpmannddaa
open Go.Proofs Go.RowKit
attribute [local go_sem] run_store_float

/-- t is M written out. -/
def Tab (M : Int → AV) (t : List PairV) (n : Nat) : Prop := ∃ ss, IsKeys M ss ∧ t = tabOf M ss ∧ (∀ x ∈ ss, (Lit.int .u64 x).wf = true) ∧ ss.length ≤ n

theorem isKeys_uniq {M : Int → AV} {ss ts : List Int} (h : IsKeys M ss) (k : IsKeys M ts) : ss = ts := by
  have hp : ss.Perm ts := (List.perm_ext_iff_of_nodup (h.1.imp fun {a b} h => by omega) (k.1.imp fun {a b} h => by omega)).2 fun x => by rw [h.2, k.2]
  exact List.Perm.eq_of_pairwise (le := fun a b => a < b) (fun a b _ _ h1 h2 => by omega) h.1 k.1 hp

theorem Tab.uniq {M : Int → AV} {t u : List PairV} {n m : Nat} (h : Tab M t n) (k : Tab M u m) : t = u := by
  obtain ⟨ss, h1, rfl, _⟩ := h
  obtain ⟨ts, k1, rfl, _⟩ := k
  rw [isKeys_uniq h1 k1]

theorem Tab.sound {M : Int → AV} {t : List PairV} {n : Nat} (h : Tab M t n) : Sound t := by
  obtain ⟨ss, h1, rfl, _⟩ := h
  refine ⟨fun p hp => ?_, ?_⟩
  · obtain ⟨x, hx, rfl⟩ := List.mem_map.1 hp
    exact (h1.2 x).1 hx
  · exact List.pairwise_map.2 h1.1
theorem Tab.wf {M : Int → AV} {t : List PairV} {n : Nat} (h : Tab M t n) : ∀ p ∈ t, (Lit.int .u64 p.key).wf = true := by
  obtain ⟨ss, h1, rfl, h2, _⟩ := h
  intro p hp
  obtain ⟨x, hx, rfl⟩ := List.mem_map.1 hp
  exact h2 x hx
theorem Tab.len {M : Int → AV} {t : List PairV} {n : Nat} (h : Tab M t n) : t.length ≤ n := by
  obtain ⟨ss, h1, rfl, h2, h3⟩ := h
  simpa [tabOf] using h3

theorem tab_of {w : World} {base n : Nat} {M : Int → AV} {ss : List Int} {v : Value} (h1 : IsKeys M ss) (h2 : ∀ x ∈ ss, (Lit.int .u64 x).wf = true) (h3 : ss.length ≤ n) (h4 : w.ownsRow base 47 3 v ss.length ((tabOf M ss).flatMap PairV.cells)) :
    ∃ t A cap, v = .slice A t.length cap ∧ Tab M t n ∧ RowOf PairV.cells 3 w w.heap.size A t := by
  have hl : (tabOf M ss).length = ss.length := by simp [tabOf]
  rw [← hl] at h4
  obtain ⟨A, cap, rfl, hr, _⟩ := RowOf.of_own (enc := PairV.cells) (l := tabOf M ss) (fun _ => rfl) h4
  exact ⟨_, A, cap, rfl, ⟨ss, h1, rfl, h2, h3⟩, hr⟩

/-- A job, by value. -/
abbrev jobV (A : Option Addr) (nl cap : Nat) (kind : Int) (A' : Option Addr) (nr cap' : Nat) (at_ : Int) : Value := .agg #[.slice A nl cap, .int .i64 kind, .slice A' nr cap', .int .i64 at_]

theorem law_right (l : List OpV) (A : Option Addr) (cap : Nat) (kind : Int) (A' : Option Addr) (nr cap' : Nat) (at_ : Int) (w : World) (hr : RowOf OpV.cells 3 w w.heap.size A l) (hl : l.length ≤ 140737488351232) :
    Calls Try.prog 8 #[jobV A l.length cap kind A' nr cap' at_] w fun e w' => e = .returned (.bool (decide (checkF l = 0) && known kind)) ∧ Below w.heap.size w w' := by
  have HR := Lib.hid hr
  clear hr
  have K0 := Lib.hid (Blk.new w 25 #[.slice A l.length cap, .int .i64 kind, .slice A' nr cap', .int .i64 at_])
  by_cases hc : checkF l = 0
  all_goals
    go_enter Try.func8, Try.ntmps8
    go_wp2_with (first
      | (go_at_call 22; refine (ops_Check l A cap _ ((HR.out.call (Nat.le_refl _) ((Below.refl _ _).alloc (Nat.le_refl _) _)).more (by simp)) hl).mono ?_; rintro e w1 ⟨rfl, hb1⟩; have k1 := Blk.call hb1 K0.out; have c0 := k1.cell 0; have c1 := k1.cell 1; simp at c0 c1)
      | (go_at_call 23; refine (agg_Known _ _).mono ?_; rintro e w' ⟨rfl, rfl⟩))
    go_ret
    exact ⟨by simp [hc], below_call hb1 ((Below.refl _ _).alloc (Nat.le_refl _) _)⟩

def placeF (at_ : Int) (n : Nat) : Nat := ((at_ % 18446744073709551616) % ((n : Int) + 1)).toNat
theorem placeF_le (at_ : Int) (n : Nat) : placeF at_ n ≤ n := by
  unfold placeF
  have h1 := Int.emod_lt_of_pos (at_ % 18446744073709551616) (show 0 < (n : Int) + 1 by omega)
  have h2 := Int.emod_nonneg (at_ % 18446744073709551616) (show (n : Int) + 1 ≠ 0 by omega)
  omega

theorem law_place (A : Option Addr) (nl cap : Nat) (kind : Int) (A' : Option Addr) (nr cap' : Nat) (at_ : Int) (w : World) (hl : nr ≤ 140737488351232) :
    Calls Try.prog 10 #[jobV A nl cap kind A' nr cap' at_] w fun e w' => e = .returned (.int .i64 (placeF at_ nr)) ∧ Below w.heap.size w w' := by
  have h1 := Int.emod_lt_of_pos (at_ % 18446744073709551616) (show 0 < (nr : Int) + 1 by omega)
  have h2 := Int.emod_nonneg (at_ % 18446744073709551616) (show (nr : Int) + 1 ≠ 0 by omega)
  have hp : ((placeF at_ nr : Nat) : Int) = (at_ % 18446744073709551616) % ((nr : Int) + 1) := by unfold placeF; omega
  go_enter Try.func10, Try.ntmps10
  go_wp2
  go_ret
  refine ⟨?_, (Below.refl _ _).alloc (Nat.le_refl _) _⟩
  have e1 : IntKind.u64.wrap at_ = at_ % 18446744073709551616 := rfl
  have e2 : wrap64 ((IntKind.u64.wrap at_).tmod ((nr : Int) + 1)) = ((placeF at_ nr : Nat) : Int) := by
    rw [e1, Int.tmod_eq_emod_of_nonneg (Int.emod_nonneg _ (by omega)), ← hp]
    have := placeF_le at_ nr
    unfold wrap64
    omega
  rw [← e2]
  rfl

theorem law_table (l : List OpV) (A : Option Addr) (cap : Nat) (kind : Int) (A' : Option Addr) (nr cap' : Nat) (at_ : Int) (recs : List RecV) (A2 : Option Addr) (cap2 : Nat) (w : World) (hr : RowOf OpV.cells 3 w w.heap.size A l) (hr' : RowOf RecV.cells 2 w w.heap.size A2 recs)
    (hc : checkF l = 0) (ho : ∀ o ∈ l, o.n ≤ 9223372036854775807) (hk : ∀ r ∈ recs, r.Ok) (hl : recs.length ≤ 1099511627776) (hkn : known kind = true) :
    Calls Try.prog 11 #[jobV A l.length cap kind A' nr cap' at_, .slice A2 recs.length cap2] w fun e w' => ∃ t At ct, e = .returned (.tuple #[.slice At t.length ct, .int .i64 (batchF kind l recs).2, .bool true]) ∧
      Tab (batchF kind l recs).1 t recs.length ∧ RowOf PairV.cells 3 w' w'.heap.size At t ∧ Below w.heap.size w w' := by
  have ba : Below w.heap.size w (w.alloc (.cells #[.slice A l.length cap, .int .i64 kind, .slice A' nr cap', .int .i64 at_] 25)) := (Below.refl _ _).alloc (Nat.le_refl _) _
  have hB := fold_Batch l A cap kind recs A2 cap2 _ ((hr.below ba).more (by simp)) ((hr'.below ba).more (by simp)) hc ho hk hl hkn
  have HB := Lib.hid hB
  have BA := Lib.hid ba
  clear hB ba hr hr' hc ho hk hkn
  go_enter Try.func11, Try.ntmps11
  go_wp2_with (first
    | (go_at_call 9; refine HB.out.mono ?_; rintro e w1 ⟨ss, v, rfl, h1, h2, h3, h4, hb1⟩; obtain ⟨t, At, ct, rfl, ht, hrow⟩ := tab_of h1 h2 h3 h4; have HT := Lib.hid ht; have HRW := Lib.hid hrow; have hsd := fold_Sound t At ct w1 hrow (by have := ht.len; omega); rw [decide_eq_true ht.sound] at hsd; have HS := Lib.hid hsd; clear ht hrow hsd h1 h2 h4)
    | (go_at_call 21; refine HS.out.mono ?_; rintro e w2 ⟨rfl, hb2⟩))
  refine bodyPost_ret (v := .tuple #[.slice At t.length ct, .int .i64 (batchF kind l recs).2, .bool true]) (by simp [results, Try.results11, go_sem]) rfl ⟨t, At, ct, rfl, HT.out, ?_, below_call hb2 (below_call hb1 BA.out)⟩
  exact (HRW.out.below hb2).more hb2.size

end Go.Proofs.Ytifpcjpmannddaa
