/- fold.Keys; the laws' keys. -/
import Derived.Test.YtifpcjpmannddaaMp2
import Derived.Deep.OwnRows
namespace Go.Proofs.Ytifpcjpmannddaa
open Go.Proofs Go.RowKit

def keyAt (t : List PairV) (i : Nat) : Int := (t.map (·.key)).getD i 0

set_option maxRecDepth 100000 in
set_option maxHeartbeats 4000000 in
theorem fold_Keys (t : List PairV) (A : Option Addr) (cap : Nat) (w : World) (hr : RowOf PairV.cells 3 w w.heap.size A t) (hl : t.length ≤ 17592186044416) :
    Calls Try.prog 19 #[.slice A t.length cap] w fun e w' => e = .returned (.slice (some ⟨w.heap.size, 0, none⟩) t.length t.length) ∧ w'.rowIs w.heap.size 38 t.length (fun i => .int .u64 (keyAt t i)) ∧ Below w.heap.size w w' := by
  have HR := Lib.hid hr
  clear hr
  have hmk := run_make_row' (P := Try.prog) 52 38 (.int .u64 0) 8 Try.underlying52 (by kernel_rfl) rfl .i64 .i64 t.length (by omega) (by omega)
  go_enter Try.func19, Try.ntmps19
  go_wp2
  clear hmk
  go_loopw [11] (fun i wr => ∃ k : Nat, k ≤ t.length ∧ i = .int .i64 k ∧ wr.rowIs w.heap.size 38 t.length (fun i => .int .u64 (if i < k then keyAt t i else 0)) ∧ Below w.heap.size w wr) (fun i _ => t.length - (intOf i).toNat)
  case atStart => exact ⟨0, Nat.zero_le _, rfl, (World.rowIs_made w _ _ _).congr (fun i hi => by simp), (Below.refl _ _).alloc (Nat.le_refl _) _⟩
  case round =>
    obtain ⟨k, hk, rfl, hrow, hb⟩ := hrel
    have hzr := hb.size
    by_cases hlt : k < t.length
    · obtain ⟨g, off, ⟨ky, ⟨h, n⟩⟩, rfl, hgl, hx, hc0, hc⟩ := (HR.out.below hb).at_ hlt
      have c0 := hc0 _ rfl
      have c1 := hc 1 _ rfl
      have c2 := hc 2 _ rfl
      have HX := Lib.hid hx
      have hrc := hrow.cell hlt
      have hrf := hrow.frozen
      have hrl := hrow.lt
      have HW := Lib.hid hrow
      have hki : (k : Int) < (t.length : Int) := by omega
      have hk0 : (0 : Int) ≤ (k : Int) := by omega
      clear hc hc0 hx hrow
      go_wp2
      go_roundw
      case rel =>
        refine ⟨k + 1, by omega, by go_num, (((HW.out.set k _).alloc _).congr fun i hi => ?_), (hb.setCell (by simp) _).alloc (by simp; omega) _⟩
        by_cases hik : i = k
        · subst hik
          have : keyAt t i = ky := by
            unfold keyAt
            rw [List.getD_eq_getElem?_getD, List.getElem?_map, HX.out]
            rfl
          simp [this]
        · by_cases h2 : i < k
          · have : i < k + 1 := by omega
            simp [hik, h2, this]
          · have : ¬ i < k + 1 := by omega
            simp [hik, h2, this]
      case measure => simp [intOf]; omega
    · have hkl : k = t.length := by omega
      subst hkl
      go_wp2
      go_ret
      exact ⟨rfl, hrow.congr fun i hi => by simp [hi], hb⟩

set_option maxRecDepth 100000 in
set_option maxHeartbeats 4000000 in
theorem law_keys (t u : List Int) (A B : Option Addr) (cap cap' : Nat) (w : World) (hr : RowOf (fun x => [Value.int .u64 x]) 1 w w.heap.size A t) (hs : RowOf (fun x => [Value.int .u64 x]) 1 w w.heap.size B u) (hl : t.length ≤ 140737488351232) :
    Calls Try.prog 20 #[.slice A t.length cap, .slice B u.length cap'] w fun e w' => e = .returned (.bool (decide (t = u))) ∧ Below w.heap.size w w' := by
  have HR := Lib.hid hr
  have HS := Lib.hid hs
  clear hr hs
  by_cases hn : t.length = u.length
  · go_enter Try.func20, Try.ntmps20
    have hnI : (t.length : Int) = (u.length : Int) := by omega
    have HN := Lib.hid hn
    clear hn
    go_wp2
    clear hnI
    go_loopw [5] (fun i wr => ∃ k m : Nat, k ≤ t.length ∧ i = .int .i64 k ∧ t.take k = u.take k ∧ wr = w.drewN m) (fun i _ => t.length - (intOf i).toNat)
    case atStart => exact ⟨0, 0, Nat.zero_le _, rfl, rfl, rfl⟩
    case round =>
      obtain ⟨k, m, hk, rfl, he, rfl⟩ := hrel
      have HE := Lib.hid he
      clear he
      by_cases hlt : k < t.length
      · obtain ⟨g, off, ky, rfl, hgl, hx, hc0, _⟩ := HR.out.at_ hlt
        obtain ⟨g', off', ky', rfl, hgl', hx', hc0', _⟩ := HS.out.at_ (HN.out ▸ hlt)
        have c0 := hc0 _ rfl
        have d0 := hc0' _ rfl
        rw [Nat.mul_one] at c0 d0
        have HX := Lib.hid hx
        have HX' := Lib.hid hx'
        clear hx hc0 hx' hc0'
        have hltu : k < u.length := by have := HN.out; omega
        by_cases he : ky = ky'
        · subst he
          go_wp2
          go_quiet (fail)
          go_wp2
          go_roundw
          case rel => exact ⟨k + 1, _, by omega, by go_num, by rw [List.take_add_one, List.take_add_one, HX.out, HX'.out, HE.out], rfl⟩
          case measure => simp [intOf]; omega
        · have hbad : decide (t = u) = false := decide_eq_false fun e => he (by have := HX.out; rw [e, HX'.out] at this; simp at this; exact this.symm)
          go_wp2
          go_quiet (fail)
          go_wp2
          go_ret
          exact ⟨by rw [hbad]; rfl, by ((repeat' (first | exact Below.refl _ _ | assumption | refine below_drewN ?_ _ | refine Below.drew ?_ | refine Below.setCell ?_ ?_ _ | refine Below.alloc ?_ ?_ _ | (refine Below.trans ?_ (Below.mono (by assumption) ?_)))) <;> (first | (simp; done) | (simp; omega) | omega))⟩
      · have hok : decide (t = u) = true := decide_eq_true (by have := HE.out; have hn := HN.out; rwa [List.take_of_length_le (by omega), List.take_of_length_le (by omega)] at this)
        go_wp2
        go_ret
        exact ⟨by rw [hok]; rfl, by ((repeat' (first | exact Below.refl _ _ | assumption | refine below_drewN ?_ _ | refine Below.drew ?_ | refine Below.setCell ?_ ?_ _ | refine Below.alloc ?_ ?_ _ | (refine Below.trans ?_ (Below.mono (by assumption) ?_)))) <;> (first | (simp; done) | (simp; omega) | omega))⟩
  · have hbad : decide (t = u) = false := decide_eq_false fun e => hn (by rw [e])
    have hnI : ¬ (t.length : Int) = (u.length : Int) := by omega
    go_enter Try.func20, Try.ntmps20
    go_wp2
    go_ret
    exact ⟨by rw [hbad]; rfl, by ((repeat' (first | exact Below.refl _ _ | assumption | refine below_drewN ?_ _ | refine Below.drew ?_ | refine Below.setCell ?_ ?_ _ | refine Below.alloc ?_ ?_ _ | (refine Below.trans ?_ (Below.mono (by assumption) ?_)))) <;> (first | (simp; done) | (simp; omega) | omega))⟩

end Go.Proofs.Ytifpcjpmannddaa
