/- The walks over tables: fold.Sound, fold.Find; the laws' same, keys, pair. -/
import Derived.Test.YtifpcjpmannddaaMp1
namespace Go.Proofs.Ytifpcjpmannddaa
open Go.Proofs Go.RowKit

/-- A table is sound. -/
def Sound (t : List PairV) : Prop := (∀ p ∈ t, p.val.has = true) ∧ t.Pairwise (fun p q => p.key < q.key)
instance (t : List PairV) : Decidable (Sound t) := inferInstanceAs (Decidable (_ ∧ _))

theorem sound_snoc {l : List PairV} {p : PairV} (h : Sound l) (hp : p.val.has = true) (hq : ∀ q, l[l.length - 1]? = some q → q.key < p.key) : Sound (l ++ [p]) := by
  refine ⟨fun x hx => ?_, List.pairwise_append.2 ⟨h.2, by simp, fun a ha b hb => ?_⟩⟩
  · rcases List.mem_append.1 hx with hx | hx
    · exact h.1 x hx
    · simp at hx; subst hx; exact hp
  · simp at hb; subst hb
    obtain ⟨i, hi, rfl⟩ := List.mem_iff_getElem.1 ha
    have hlast : l[l.length - 1]? = some l[l.length - 1] := List.getElem?_eq_getElem (by omega)
    have h1 := hq _ hlast
    by_cases he : i = l.length - 1
    · subst he; exact h1
    · have := List.pairwise_iff_getElem.1 h.2 i (l.length - 1) hi (by omega) (by omega)
      omega

theorem sound_take {t : List PairV} {k : Nat} {p : PairV} (h : Sound (t.take k)) (hk : t[k]? = some p) (hp : p.val.has = true) (hq : ∀ q, 0 < k → t[k - 1]? = some q → q.key < p.key) : Sound (t.take (k + 1)) := by
  rw [List.take_add_one, hk]
  have hkl := (List.getElem?_eq_some_iff.1 hk).1
  refine sound_snoc h hp fun q hq' => ?_
  rw [List.length_take, Nat.min_eq_left (by omega)] at hq'
  by_cases h0 : 0 < k
  · rw [List.getElem?_take, if_pos (by omega)] at hq'
    exact hq q h0 hq'
  · have : k = 0 := by omega
    subst this; simp at hq'

theorem unsound_has {t : List PairV} {k : Nat} {p : PairV} (hk : t[k]? = some p) (hp : p.val.has = false) : ¬ Sound t := fun h => by
  have := h.1 p (List.mem_of_getElem? hk)
  rw [hp] at this; cases this
theorem unsound_key {t : List PairV} {k : Nat} {p q : PairV} (hk : t[k + 1]? = some p) (hq : t[k]? = some q) (hle : p.key ≤ q.key) : ¬ Sound t := fun h => by
  obtain ⟨h1, e1⟩ := List.getElem?_eq_some_iff.1 hk
  obtain ⟨h2, e2⟩ := List.getElem?_eq_some_iff.1 hq
  have := List.pairwise_iff_getElem.1 h.2 k (k + 1) h2 h1 (by omega)
  rw [e1, e2] at this
  omega

set_option maxRecDepth 100000 in
set_option maxHeartbeats 4000000 in
theorem fold_Sound (t : List PairV) (A : Option Addr) (cap : Nat) (w : World) (hr : RowOf PairV.cells 3 w w.heap.size A t) (hl : t.length ≤ 140737488351232) :
    Calls Try.prog 21 #[.slice A t.length cap] w fun e w' => e = .returned (.bool (decide (Sound t))) ∧ Below w.heap.size w w' := by
  have HR := Lib.hid hr
  clear hr
  go_enter Try.func21, Try.ntmps21
  go_wp2
  go_loopw [7] (fun i wr => ∃ k : Nat, k ≤ t.length ∧ i = .int .i64 k ∧ Sound (t.take k) ∧ Below w.heap.size w wr) (fun i _ => t.length - (intOf i).toNat)
  case atStart => exact ⟨0, Nat.zero_le _, rfl, by simp [Sound], Below.refl _ _⟩
  case round =>
    obtain ⟨k, hk, rfl, hs, hb⟩ := hrel
    have hzr := hb.size
    by_cases hlt : k < t.length
    · obtain ⟨g, off, ⟨key, ⟨h, n⟩⟩, hA, hgl, hx, hc0, hc⟩ := (HR.out.below hb).at_ hlt
      have c0 := hc0 _ rfl
      have c1 := hc 1 _ rfl
      have c2 := hc 2 _ rfl
      have HX := Lib.hid hx
      have HS := Lib.hid hs
      have HA := Lib.hid hA
      clear hc hc0 hx hs
      subst hA
      cases h with
      | false =>
        have hbad : decide (Sound t) = false := decide_eq_false (unsound_has HX.out rfl)
        go_wp2
        go_quiet (fail)
        go_wp2
        go_ret
        exact ⟨by rw [hbad]; rfl, below_drewN (hb.alloc hb.size _) _⟩
      | true =>
        by_cases hk0 : k = 0
        · subst hk0
          simp only [Nat.zero_mul, Nat.add_zero] at c0 c1 c2
          go_wp2
          go_quiet (fail)
          go_wp2
          go_roundw
          case rel => exact ⟨0 + 1, by omega, by go_num, sound_take HS.out HX.out rfl (fun _ h0 => absurd h0 (by omega)), below_drewN (hb.alloc hb.size _) _⟩
          case measure => simp [intOf]; omega
        · obtain ⟨j, hj⟩ : ∃ j, k = j + 1 := ⟨k - 1, by omega⟩
          obtain ⟨g', off', ⟨key', ⟨h', n'⟩⟩, hA', _, hx', hc0', _⟩ := (HR.out.below hb).at_ (show j < t.length by omega)
          injection hA' with hA'
          injection hA' with e1 e2
          subst e1 e2
          have hw : wrap64 ((k : Int) - 1) = (j : Int) := by unfold wrap64; omega
          have hw2 : IntKind.i64.wrap ((k : Int) - 1) = (j : Int) := by rw [IntKind.wrap_i64]; omega
          have hgr : g < wr.heap.size := by omega
          have hkp : 0 < k := by omega
          have hkp' : (0 : Int) < (k : Int) := by omega
          have hj0 : (0 : Int) ≤ (j : Int) := by omega
          have hj1 : (j : Int) < (t.length : Int) := by omega
          have d0 := hc0' _ rfl
          have HX' := Lib.hid hx'
          clear hc0' hx'
          have HJ := Lib.hid hj
          clear hj
          by_cases hle : key ≤ key'
          · have hbad : decide (Sound t) = false := decide_eq_false (unsound_key (HJ.out ▸ HX.out) HX'.out hle)
            go_wp2
            go_quiet (fail)
            go_wp2
            go_ret
            exact ⟨by rw [hbad]; rfl, below_drewN (hb.alloc hb.size _) _⟩
          · go_wp2
            go_quiet (fail)
            go_wp2
            go_roundw
            case rel => exact ⟨k + 1, by omega, by go_num, sound_take HS.out HX.out rfl (fun q _ hq => by rw [show k - 1 = j by have := HJ.out; omega, HX'.out] at hq; injection hq with hq; subst hq; simp; omega), below_drewN (hb.alloc hb.size _) _⟩
            case measure => simp [intOf]; omega
    · have hok : decide (Sound t) = true := by
        rw [List.take_of_length_le (by omega)] at hs
        exact decide_eq_true hs
      go_wp2
      go_ret
      exact ⟨by rw [hok]; rfl, hb⟩

/-- A key's value. -/
def findF (t : List PairV) (k : Int) : AV := match t.find? (fun p => p.key == k) with
  | some p => p.val
  | none => AV.zero

set_option maxRecDepth 100000 in
set_option maxHeartbeats 4000000 in
theorem fold_Find (t : List PairV) (A : Option Addr) (cap : Nat) (key : Int) (w : World) (hr : RowOf PairV.cells 3 w w.heap.size A t) (hl : t.length ≤ 140737488351232) :
    Calls Try.prog 17 #[.slice A t.length cap, .int .u64 key] w fun e w' => e = .returned (findF t key).v ∧ Below w.heap.size w w' := by
  have HR := Lib.hid hr
  clear hr
  have K0 := Lib.hid (Blk.new w 45 #[.bool false, .int .u64 0])
  go_enter Try.func17, Try.ntmps17
  go_wp2
  go_loopw [9] (fun i wr => ∃ k : Nat, k ≤ t.length ∧ i = .int .i64 k ∧ findF t key = findF (t.drop k) key ∧ Blk wr w.heap.size 45 #[.bool false, .int .u64 0] ∧ Below w.heap.size w wr) (fun i _ => t.length - (intOf i).toNat)
  case atStart => exact ⟨0, Nat.zero_le _, rfl, rfl, K0.out, (Below.refl _ _).alloc (Nat.le_refl _) _⟩
  case round =>
    obtain ⟨k, hk, rfl, hs, kb, hb⟩ := hrel
    have hzr := hb.size
    have hzk := kb.lt
    have f0 := fun i => kb.frozen i
    have b0 := kb.cell 0
    have b1 := kb.cell 1
    simp at b0 b1
    have KB := Lib.hid kb
    have HS := Lib.hid hs
    clear kb hs
    by_cases hlt : k < t.length
    · obtain ⟨g, off, ⟨ky, ⟨h, n⟩⟩, rfl, hgl, hx, hc0, hc⟩ := (HR.out.below hb).at_ hlt
      have c0 := hc0 _ rfl
      have c1 := hc 1 _ rfl
      have c2 := hc 2 _ rfl
      have hdr : t.drop k = ⟨ky, ⟨h, n⟩⟩ :: t.drop (k + 1) := by
        rw [List.drop_eq_getElem_cons hlt]
        rw [List.getElem?_eq_getElem hlt] at hx
        injection hx with hx
        rw [hx]
      have HD := Lib.hid hdr
      clear hc hc0 hx hdr
      by_cases he : ky = key
      · have hf : findF t key = ⟨h, n⟩ := by rw [HS.out, HD.out]; simp [findF, he]
        have HF := Lib.hid hf
        clear hf
        go_wp2
        refine bodyPost_ret (v := .agg #[.bool h, .int .u64 n]) (by simp [results, Try.results17, go_sem, b0, b1, hzk]) rfl ⟨by rw [HF.out], ?_⟩
        exact ((hb.setCell (by simp) _).setCell (by simp) _).alloc (by simp; omega) _
      · have hf : findF t key = findF (t.drop (k + 1)) key := by rw [HS.out, HD.out]; simp [findF, he]
        have HF := Lib.hid hf
        clear hf
        go_wp2
        go_roundw
        case rel => exact ⟨k + 1, by omega, by go_num, HF.out, KB.out.alloc _, hb.alloc hb.size _⟩
        case measure => simp [intOf]; omega
    · have hf : findF t key = AV.zero := by rw [HS.out, List.drop_of_length_le (by omega)]; rfl
      have HF := Lib.hid hf
      clear hf
      go_wp2
      refine bodyPost_ret (v := .agg #[.bool false, .int .u64 0]) (by simp [results, Try.results17, go_sem, b0, b1]) rfl ⟨by rw [HF.out]; rfl, ?_⟩
      exact (hb.setCell (by simp) _).setCell (by simp) _

theorem law_pair (k n : Int) (w : World) : Calls Try.prog 18 #[.int .u64 k, .int .u64 n] w fun e w' => e = .returned (⟨k, ⟨true, n⟩⟩ : PairV).v ∧ Below w.heap.size w w' := by
  go_enter Try.func18, Try.ntmps18
  go_wp2
  refine bodyPost_ret (v := .agg #[.int .u64 k, .bool true, .int .u64 n]) (by simp [results, Try.results18, go_sem]) rfl ⟨rfl, (Below.refl _ _).alloc (Nat.le_refl _) _⟩

theorem eq38 (w : World) (d : Nat) (n n' : Int) : (Op.equalIn (d + 1) 38 (.int .u64 n) (.int .u64 n')).run Try.prog w = .ok (decide (n = n')) w := by
  simp [Op.equalIn, run_underlying Try.underlying38]
  by_cases e : n = n' <;> simp [e]
theorem eq4 (w : World) (d : Nat) (n n' : Bool) : (Op.equalIn (d + 1) 4 (.bool n) (.bool n')).run Try.prog w = .ok (decide (n = n')) w := by
  simp [Op.equalIn, run_underlying Try.underlying4]
  by_cases e : n = n' <;> simp [e]
theorem part4_0 (w : World) (a b : Value) : (part 4 #[a, b] 0).run Try.prog w = .ok a w := by simp [part, Try.isAgg4, Try.sizeOf4]
theorem part38_1 (w : World) (a b : Value) : (part 38 #[a, b] 1).run Try.prog w = .ok b w := by simp [part, Try.isAgg38, Try.sizeOf38]
theorem part38_0 (w : World) (a b c : Value) : (part 38 #[a, b, c] 0).run Try.prog w = .ok a w := by simp [part, Try.isAgg38, Try.sizeOf38]
theorem part45_1 (w : World) (a b c : Value) : (part 45 #[a, b, c] 1).run Try.prog w = .ok (.agg #[b, c]) w := by simp [part, Try.isAgg45, Try.sizeOf45]
theorem eq45 (w : World) (d : Nat) (n n' : Int) (h h' : Bool) : (Op.equalIn (d + 2) 45 (.agg #[.bool h, .int .u64 n]) (.agg #[.bool h', .int .u64 n'])).run Try.prog w = .ok (decide (h = h') && decide (n = n')) w := by
  by_cases e : h = h' <;> by_cases e' : n = n' <;>
    simp [Op.equalIn.eq_def (d + 2), run_underlying Try.underlying45, part4_0, part38_1, eq38, eq4, e, e']
theorem eq47 (w : World) (d : Nat) (k n k' n' : Int) (h h' : Bool) : (Op.equalIn (d + 3) 47 (.agg #[.int .u64 k, .bool h, .int .u64 n]) (.agg #[.int .u64 k', .bool h', .int .u64 n'])).run Try.prog w = .ok (decide (k = k') && (decide (h = h') && decide (n = n'))) w := by
  by_cases e : k = k' <;> by_cases e' : h = h' <;> by_cases e'' : n = n' <;>
    simp [Op.equalIn.eq_def (d + 3), run_underlying Try.underlying47, part38_0, part45_1, eq38, eq45, e, e', e'']
theorem pair_neq (w : World) (k n k' n' : Int) (h h' : Bool) :
    (binOp .neq 47 (.agg #[.int .u64 k, .bool h, .int .u64 n]) (.agg #[.int .u64 k', .bool h', .int .u64 n'])).run Try.prog w = .ok (.bool (!(decide (k = k') && (decide (h = h') && decide (n = n'))))) w := by
  have hw : ∀ w, (Op.equal 47 (.agg #[.int .u64 k, .bool h, .int .u64 n]) (.agg #[.int .u64 k', .bool h', .int .u64 n'])).run Try.prog w = .ok (decide (k = k') && (decide (h = h') && decide (n = n'))) w := fun w => eq47 w 9997 k n k' n' h h'
  simp only [binOp]
  simp [hw]

set_option maxRecDepth 100000 in
set_option maxHeartbeats 4000000 in
theorem law_same (t u : List PairV) (A B : Option Addr) (cap cap' : Nat) (w : World) (hr : RowOf PairV.cells 3 w w.heap.size A t) (hs : RowOf PairV.cells 3 w w.heap.size B u) (hl : t.length ≤ 140737488351232) :
    Calls Try.prog 13 #[.slice A t.length cap, .slice B u.length cap'] w fun e w' => e = .returned (.bool (decide (t = u))) ∧ Below w.heap.size w w' := by
  have HR := Lib.hid hr
  have HS := Lib.hid hs
  clear hr hs
  by_cases hn : t.length = u.length
  · go_enter Try.func13, Try.ntmps13
    have hnI : (t.length : Int) = (u.length : Int) := by omega
    have HN := Lib.hid hn
    clear hn
    go_wp2
    clear hnI
    go_loopw [5] (fun i wr => ∃ k m : Nat, k ≤ t.length ∧ i = .int .i64 k ∧ t.take k = u.take k ∧ wr = w.drewN m) (fun i _ => t.length - (intOf i).toNat)
    case atStart => exact ⟨0, 0, Nat.zero_le _, rfl, rfl, rfl⟩
    case round =>
      obtain ⟨k, m, hk, rfl, he, rfl⟩ := hrel
      have HE := Lib.hid he
      clear he
      by_cases hlt : k < t.length
      · obtain ⟨g, off, ⟨ky, ⟨h, n⟩⟩, rfl, hgl, hx, hc0, hc⟩ := HR.out.at_ hlt
        obtain ⟨g', off', ⟨ky', ⟨h', n'⟩⟩, rfl, hgl', hx', hc0', hc'⟩ := HS.out.at_ (HN.out ▸ hlt)
        have c0 := hc0 _ rfl
        have c1 := hc 1 _ rfl
        have c2 := hc 2 _ rfl
        have d0 := hc0' _ rfl
        have d1 := hc' 1 _ rfl
        have d2 := hc' 2 _ rfl
        have HX := Lib.hid hx
        have HX' := Lib.hid hx'
        clear hc hc0 hx hc' hc0' hx'
        have hltu : k < u.length := by have := HN.out; omega
        have hpn := fun w => pair_neq w ky n ky' n' h h'
        by_cases he : ky = ky' ∧ h = h' ∧ n = n'
        · obtain ⟨rfl, rfl, rfl⟩ := he
          go_wp2
          go_quiet (fail)
          go_wp2
          go_roundw
          case rel => exact ⟨k + 1, _, by omega, by go_num, by rw [List.take_add_one, List.take_add_one, HX.out, HX'.out, HE.out], rfl⟩
          case measure => simp [intOf]; omega
        · have hf : (decide (ky = ky') && (decide (h = h') && decide (n = n'))) = false := by simpa using he
          have hbad : decide (t = u) = false := decide_eq_false fun e => he (by have := HX.out; rw [e, HX'.out] at this; simp at this; exact ⟨this.1.symm, this.2.1.symm, this.2.2.symm⟩)
          rw [hf] at hpn
          go_wp2
          go_quiet (fail)
          go_wp2
          go_ret
          exact ⟨by rw [hbad]; rfl, by ((repeat' (first | exact Below.refl _ _ | assumption | refine below_drewN ?_ _ | refine Below.drew ?_ | refine Below.setCell ?_ ?_ _ | refine Below.alloc ?_ ?_ _ | (refine Below.trans ?_ (Below.mono (by assumption) ?_)))) <;> (first | (simp; done) | (simp; omega) | omega))⟩
      · have hok : decide (t = u) = true := decide_eq_true (by have := HE.out; have hn := HN.out; rwa [List.take_of_length_le (by omega), List.take_of_length_le (by omega)] at this)
        go_wp2
        go_ret
        exact ⟨by rw [hok]; rfl, by ((repeat' (first | exact Below.refl _ _ | assumption | refine below_drewN ?_ _ | refine Below.drew ?_ | refine Below.setCell ?_ ?_ _ | refine Below.alloc ?_ ?_ _ | (refine Below.trans ?_ (Below.mono (by assumption) ?_)))) <;> (first | (simp; done) | (simp; omega) | omega))⟩
  · have hbad : decide (t = u) = false := decide_eq_false fun e => hn (by rw [e])
    have hnI : ¬ (t.length : Int) = (u.length : Int) := by omega
    go_enter Try.func13, Try.ntmps13
    go_wp2
    go_ret
    exact ⟨by rw [hbad]; rfl, by ((repeat' (first | exact Below.refl _ _ | assumption | refine below_drewN ?_ _ | refine Below.drew ?_ | refine Below.setCell ?_ ?_ _ | refine Below.alloc ?_ ?_ _ | (refine Below.trans ?_ (Below.mono (by assumption) ?_)))) <;> (first | (simp; done) | (simp; omega) | omega))⟩

end Go.Proofs.Ytifpcjpmannddaa
