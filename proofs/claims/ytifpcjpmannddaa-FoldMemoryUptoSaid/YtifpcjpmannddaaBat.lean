/- The walk of fold.Batch. -/
import Derived.Test.YtifpcjpmannddaaMp3
import Derived.Deep.RegionHeld
import Derived.Deep.DrawnRows
namespace Go.Proofs.Ytifpcjpmannddaa
open Go.Proofs Go.RowKit
attribute [local go_sem ↓] Go.wp_at_zero Go.wp_at_succ
attribute [local go_sem] run_store_float

theorem known_iff {kind : Int} : known kind = true ↔ 1 ≤ kind ∧ kind ≤ 4 := by simp [known]
theorem aggOf_has {kind : Int} (h : known kind = true) (x : Nat) : (aggOf kind x).has = true := by
  have := known_iff.1 h
  unfold aggOf
  split
  · rfl
  · split
    · rfl
    · split
      · rfl
      · omega
theorem aggFit_has {kind : Int} (h : known kind = true) (v : AV) : (aggFit kind v).has = v.has := by
  unfold aggFit
  split
  · rename_i hc
    rcases hc with hc | hc
    · rw [h] at hc; cases hc
    · rw [hc]; rfl
  · rename_i hc
    split
    · rw [aggOf_has h]
      cases hv : v.has
      · exact absurd (Or.inr hv) hc
      · rfl
    · rfl
theorem aggMerge_has {kind : Int} (h : known kind = true) (a b : AV) : (aggMerge kind a b).has = (a.has || b.has) := by
  unfold aggMerge
  have ha := aggFit_has h a
  have hb := aggFit_has h b
  split
  · rename_i e; rw [ha] at e; rw [e, hb]; rfl
  · rename_i e
    have e' : a.has = true := by rw [ha] at e; simpa using e
    rw [e', Bool.true_or]
    split
    · rw [ha, e']
    · split
      · exact aggOf_has h _
      · split
        · exact aggOf_has h _
        · rfl

def batchStep (kind : Int) (l : List OpV) (s : (Int → AV) × Nat) (r : RecV) : (Int → AV) × Nat := match runF l r with
  | .kept r' => (setM s.1 r'.key (aggMerge kind (s.1 r'.key) (aggOf kind r'.val)), s.2)
  | .dropped => s
  | .trapped => (s.1, s.2 + 1)
/-- What records make behind a pipeline: a value a key, and how many were trapped. -/
def batchF (kind : Int) (l : List OpV) (recs : List RecV) : (Int → AV) × Nat := recs.foldl (batchStep kind l) (fun _ => AV.zero, 0)

theorem batchF_take {kind : Int} {l : List OpV} {recs : List RecV} {k : Nat} {r : RecV} (h : recs[k]? = some r) : batchF kind l (recs.take (k + 1)) = batchStep kind l (batchF kind l (recs.take k)) r := by
  unfold batchF
  rw [List.take_add_one, h, List.foldl_append]
  rfl

theorem throughF_ok : ∀ (l : List OpV) (r r' : RecV), (∀ o ∈ l, o.Ok) → r.Ok → throughF l r = .kept r' → r'.Ok
  | [], r, r', _, hr, h => by simp only [throughF, Fate.kept.injEq] at h; exact h ▸ hr
  | o :: os, r, r', ho, hr, h => by
    unfold throughF at h
    split at h
    · cases h
    · cases h
    · rename_i r1 ha
      exact throughF_ok os r1 r' (fun x hx => ho x (by simp [hx])) (applyF_ok (ho o (by simp)) hr ha) h

theorem blkS {w : World} {g : Nat} {t : TypeId} {a b : Value} (h : Blk w g t #[a, b]) : w.cell? ⟨g, 0, none⟩ = some a ∧ w.cell? ⟨g, 1, none⟩ = some b ∧ Blk w g t #[a, b] := ⟨h.cell 0, h.cell 1, h⟩
theorem blkOf {w : World} {g : Nat} {t : TypeId} {a b : Value} (h : w.cell? ⟨g, 0, none⟩ = some a ∧ w.cell? ⟨g, 1, none⟩ = some b ∧ Blk w g t #[a, b]) : Blk w g t #[a, b] := h.2.2

set_option maxRecDepth 100000 in
set_option maxHeartbeats 8000000 in
theorem fold_Batch (l : List OpV) (A : Option Addr) (cap : Nat) (kind : Int) (recs : List RecV) (A' : Option Addr) (cap' : Nat) (w : World) (hr : RowOf OpV.cells 3 w w.heap.size A l) (hr' : RowOf RecV.cells 2 w w.heap.size A' recs)
    (hc : checkF l = 0) (ho : ∀ o ∈ l, o.n ≤ 9223372036854775807) (hk : ∀ r ∈ recs, r.Ok) (hl : recs.length ≤ 1099511627776) (hkn : known kind = true) :
    Calls Try.prog 9 #[.slice A l.length cap, .int .i64 kind, .slice A' recs.length cap'] w fun e w' =>
      ∃ ss v, e = .returned (.tuple #[v, .int .i64 (batchF kind l recs).2, .int .i64 0]) ∧ IsKeys (batchF kind l recs).1 ss ∧ (∀ x ∈ ss, (Lit.int .u64 x).wf = true) ∧ ss.length ≤ recs.length ∧
        w'.ownsRow w.heap.size 47 3 v ss.length ((tabOf (batchF kind l recs).1 ss).flatMap PairV.cells) ∧ Below w.heap.size w w' := by
  obtain ⟨h8, hst⟩ := checkF_ok hc
  have hC := fun w hr => ops_Check l A cap w hr (by omega)
  rw [hc] at hC
  have HC := Lib.hid hC
  have HR := Lib.hid hr
  have HR' := Lib.hid hr'
  have HO := Lib.hid ho
  have HK := Lib.hid hk
  have HN := Lib.hid hkn
  have HCK := Lib.hid hc
  have HST := Lib.hid hst
  have hKn := fun w => agg_Known kind w
  rw [hkn] at hKn
  have HKN := Lib.hid hKn
  clear hr hr' hc ho hk hkn hC hKn h8 hst
  have hmm := @run_makeMap Try.prog
  go_enter Try.func9, Try.ntmps9
  go_wp2_with (first
    | (go_at_call 22; refine (HC.out _ HR.out).mono ?_; rintro e w1 ⟨rfl, hb1⟩)
    | (go_at_call 23; refine (HKN.out _).mono ?_; rintro e w' ⟨rfl, rfl⟩))
  have B1 := Lib.hid hb1
  have hz1 := hb1.size
  clear hb1
  go_loopw [11, 27] (fun tr i wr => ∃ k : Nat, k ≤ recs.length ∧ i = .int .i64 k ∧ tr = .int .i64 (batchF kind l (recs.take k)).2 ∧ (batchF kind l (recs.take k)).2 ≤ k ∧ MapIs wr w1.heap.size k (batchF kind l (recs.take k)).1 ∧ Below w.heap.size w wr) (fun _ i _ => recs.length - (intOf i).toNat)
  case atStart => exact ⟨0, Nat.zero_le _, rfl, rfl, Nat.le_refl _, MapIs.made w1, B1.out.alloc hz1 _⟩
  case round =>
    obtain ⟨k, hk, rfl, rfl, htr, hm, hb⟩ := hrel
    have hzr := hb.size
    by_cases hlt : k < recs.length
    · obtain ⟨g, off, ⟨key, v⟩, rfl, hgl, hx, hc0, hc⟩ := (HR'.out.below hb).at_ hlt
      have c0 := hc0 _ rfl
      have c1 := hc 1 _ rfl
      have hbt := batchF_take (kind := kind) (l := l) hx
      have hok := HK.out _ (List.mem_of_getElem? hx)
      have HM := Lib.hid hm
      have HB := Lib.hid hb
      clear hc hc0 hm
      have hrun : ∀ (F : Fate), runF l ⟨key, v⟩ = F → ∀ (k' : Int) (v' : Nat) (n : Int), F.rec_.key = k' → F.rec_.val = v' → F.num = n → ∀ w, RowOf OpV.cells 3 w w.heap.size A l →
          Calls Try.prog 14 #[.slice A l.length cap, .agg #[.int .u64 key, .float .f64 v]] w fun e w' => e = .returned (.tuple #[.agg #[.int .u64 k', .float .f64 v'], .int .i64 n]) ∧ Below w.heap.size w w' := by
        rintro F hF _ _ _ rfl rfl rfl w hr
        exact ops_Run l A cap key v w hr HCK.out HO.out hok.1 hok.2 F hF
      have HRUN := Lib.hid hrun
      clear hrun
      cases hF : runF l ⟨key, v⟩ with
      | kept r' =>
        obtain ⟨k', v'⟩ := r'
        have hok' : RecV.Ok ⟨k', v'⟩ := throughF_ok l ⟨key, canon v⟩ _ (fun o h => ⟨HO.out o h, HST.out o h⟩) (show RecV.Ok ⟨key, canon v⟩ from hok) (by unfold runF at hF; exact hF)
        have hwf := u64_wf hok'.1 hok'.2
        have hkm : k < 9223372036854775807 := by omega
        have hbt' : batchF kind l (recs.take (k + 1)) = (setM (batchF kind l (recs.take k)).1 k' (aggMerge kind ((batchF kind l (recs.take k)).1 k') (aggOf kind v')), (batchF kind l (recs.take k)).2) := by rw [hbt]; simp only [batchStep, hF]
        have HBT := Lib.hid hbt'
        have HX := Lib.hid hx
        clear hbt hbt' hx
        generalize hM : (batchF kind l (recs.take k)).1 = M at *
        generalize hn : (batchF kind l (recs.take k)).2 = n at *
        have HF := Lib.hid hF
        clear hF
        go_wp2_with (first
          | (go_at_call 14; refine (HRUN.out _ HF.out k' v' 1 rfl rfl rfl _ ((HR.out.below (HB.out.alloc hzr _)).more (by simp; omega))).mono ?_; rintro e w2 ⟨rfl, hb2⟩))
        have hz2 : w1.heap.size < w2.heap.size := by have := hb2.size; have := HM.out.lt; simp at *; omega
        have kb := Blk.new w2 41 #[.int .u64 k', .float .f64 v']
        have hm0 : MapIs (w2.alloc (.cells #[.int .u64 k', .float .f64 v'] 41)).drew w1.heap.size k M := ((HM.out.alloc _).call hb2).alloc _
        have hl0 := hm0.lookup hwf
        have HB2 := Lib.hid hb2
        have HM0 := Lib.hid hm0
        have HKB := Lib.hid kb
        clear hb2 hm0 kb
        go_region_held (fun w' => w'.cell? ⟨w2.heap.size, 0, none⟩ = some (.int .u64 k') ∧ w'.cell? ⟨w2.heap.size, 1, none⟩ = some (.float .f64 v') ∧ Blk w' w2.heap.size 41 #[.int .u64 k', .float .f64 v'])
          (first
            | assumption
            | exact blkS HKB.out.drew
            | exact blkS (Blk.call HbM.out (blkOf (by assumption)))
            | exact blkS (Blk.call HbO.out (blkOf (by assumption)))
            | exact blkS (Blk.grown (blkOf (by assumption)) (HmM.out.update hkm hwf _ _).2.2 (by intro h; injection h; omega)))
          (first
            | (go_at_call 16; refine (agg_Of _ _ _).mono ?_; rintro e wO ⟨rfl, hbO⟩; have hmO := HM0.out.call hbO; have hlO := hmO.lookup hwf; have HbO := Lib.hid hbO; have HmO := Lib.hid hmO; clear hbO hmO)
            | (go_at_call 15; refine (agg_Merge _ _ _ _ _ _).mono ?_; rintro e wM ⟨rfl, hbM⟩; have hmM := HmO.out.call hbM; have huM := fun h n => (hmM.update hkm hwf h n).1; have HbM := Lib.hid hbM; have HmM := Lib.hid hmM; clear hbM hmM))
        all_goals
          go_wp2
          go_roundw
          case rel =>
            have b2 := below_call HB2.out (HB.out.alloc hzr _)
            have b3 := below_call HbM.out (below_call HbO.out (b2.alloc b2.size (.cells #[.int .u64 k', .float .f64 v'] 41)).drew)
            have hu := HmM.out.update hkm hwf (aggMerge kind (M k') (aggOf kind v')).has (aggMerge kind (M k') (aggOf kind v')).bits
            refine ⟨k + 1, by omega, by go_num, by rw [HBT.out], by rw [HBT.out]; simp; omega, ?_, b3.grown hu.2.2 b3.size (fun j hj => by injection hj; omega)⟩
            rw [HBT.out]
            exact hu.2.1 (by rw [aggMerge_has HN.out, aggOf_has HN.out, Bool.or_true])
          case measure => simp [intOf]; omega
      | dropped =>
        have hbt' : batchF kind l (recs.take (k + 1)) = batchF kind l (recs.take k) := by rw [hbt]; simp only [batchStep, hF]
        have HBT := Lib.hid hbt'
        clear hbt hbt' hx
        generalize hM : (batchF kind l (recs.take k)).1 = M at *
        generalize hn : (batchF kind l (recs.take k)).2 = n at *
        have HF := Lib.hid hF
        have HMn := Lib.hid hM
        have HNn := Lib.hid hn
        clear hF hM hn
        go_wp2_with (first
          | (go_at_call 14; refine (HRUN.out _ HF.out 0 0 2 rfl rfl rfl _ ((HR.out.below (HB.out.alloc hzr _)).more (by simp; omega))).mono ?_; rintro e w2 ⟨rfl, hb2⟩))
        go_roundw
        case rel =>
          have b2 := below_call hb2 (HB.out.alloc hzr _)
          refine ⟨k + 1, by omega, by go_num, by rw [HBT.out, HNn.out], by rw [HBT.out, HNn.out]; omega, ?_, b2.alloc b2.size _⟩
          rw [HBT.out, HMn.out]
          exact (((HM.out.alloc _).call hb2).alloc _).mono (by omega)
        case measure => simp [intOf]; omega
      | trapped =>
        have hbt' : batchF kind l (recs.take (k + 1)) = ((batchF kind l (recs.take k)).1, (batchF kind l (recs.take k)).2 + 1) := by rw [hbt]; simp only [batchStep, hF]
        have HBT := Lib.hid hbt'
        clear hbt hbt' hx
        generalize hM : (batchF kind l (recs.take k)).1 = M at *
        generalize hn : (batchF kind l (recs.take k)).2 = n at *
        have HF := Lib.hid hF
        have HMn := Lib.hid hM
        have HNn := Lib.hid hn
        clear hF hM hn
        go_wp2_with (first
          | (go_at_call 14; refine (HRUN.out _ HF.out 0 0 3 rfl rfl rfl _ ((HR.out.below (HB.out.alloc hzr _)).more (by simp; omega))).mono ?_; rintro e w2 ⟨rfl, hb2⟩))
        go_roundw
        case rel =>
          have b2 := below_call hb2 (HB.out.alloc hzr _)
          refine ⟨k + 1, by omega, by go_num, by rw [HBT.out]; go_num, by rw [HBT.out]; simp; omega, ?_, b2.alloc b2.size _⟩
          rw [HBT.out]
          exact (((HM.out.alloc _).call hb2).alloc _).mono (by omega)
        case measure => simp [intOf]; omega
    · have hkl : k = recs.length := by omega
      subst hkl
      rw [List.take_length] at *
      have HM := Lib.hid hm
      have HB := Lib.hid hb
      clear hm
      generalize hM : (batchF kind l recs).1 = M at *
      generalize hn : (batchF kind l recs).2 = n at *
      go_wp2_with (first
        | (go_at_call 24; refine (fold_table HM.out (by omega)).mono ?_; rintro e w2 ⟨ss, v, rfl, h1, h2, h3, h4, h5⟩))
      exact bodyPost_ret (v := .tuple #[v, .int .i64 n, .int .i64 0]) (by simp [results, Try.results9, go_sem]) rfl ⟨ss, v, by rw [hn], by rw [hM]; exact h1, h2, h3, by rw [hM]; exact own_base h4 hzr, below_call h5 HB.out⟩

end Go.Proofs.Ytifpcjpmannddaa
