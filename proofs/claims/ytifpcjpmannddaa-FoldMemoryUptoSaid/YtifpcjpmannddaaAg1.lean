/- The walks of agg.Fit and agg.Merge. -/
import Derived.Test.YtifpcjpmannddaaAg0
import Derived.Test.YtifpcjpmannddaaWd
import Derived.Deep.RegionWith
import Derived.Deep.DeepCutAuto
import Derived.Deep.Cut
namespace Go.Proofs.Ytifpcjpmannddaa
open Go.Proofs Go.RowKit

def aggFit (kind : Int) (v : AV) : AV := if known kind = false ∨ v.has = false then AV.zero else if kind = 3 ∨ kind = 4 then aggOf kind v.bits.toNat else v

theorem agg_Fit (kind : Int) (h : Bool) (n : Int) (w : World) : Calls Try.prog 26 #[.int .i64 kind, .agg #[.bool h, .int .u64 n]] w fun e w' => e = .returned (aggFit kind ⟨h, n⟩).v ∧ Below w.heap.size w w' := by
  have hg := fromBits_run
  cases hk : known kind
  · have hr : aggFit kind ⟨h, n⟩ = AV.zero := by simp [aggFit, hk]
    have hc := agg_Known kind
    rw [hk] at hc
    rw [hr]
    have HC := Lib.hid hc
    clear hr hk hc
    go_enter Try.func26, Try.ntmps26
    go_wp2_with (go_at_call 23; refine (HC.out _).mono ?_; rintro e w1 ⟨rfl, rfl⟩)
    refine bodyPost_ret (v := .agg #[.bool false, .int .u64 0]) (by simp [results, Try.results26, go_sem]) rfl ⟨rfl, ?_⟩
    exact ((Below.refl _ _).alloc (Nat.le_refl _) _).alloc (by simp) _
  · cases h
    · have hr : aggFit kind ⟨false, n⟩ = AV.zero := by simp [aggFit]
      have hc := agg_Known kind
      rw [hk] at hc
      rw [hr]
      have HC := Lib.hid hc
      clear hr hk hc
      go_enter Try.func26, Try.ntmps26
      go_wp2_with (go_at_call 23; refine (HC.out _).mono ?_; rintro e w1 ⟨rfl, rfl⟩)
      refine bodyPost_ret (v := .agg #[.bool false, .int .u64 0]) (by simp [results, Try.results26, go_sem]) rfl ⟨rfl, ?_⟩
      exact ((Below.refl _ _).alloc (Nat.le_refl _) _).alloc (by simp) _
    · have hc := agg_Known kind
      rw [hk] at hc
      have HC := Lib.hid hc
      by_cases h3 : kind = 3 ∨ kind = 4
      · have hr : aggFit kind ⟨true, n⟩ = aggOf kind n.toNat := by simp [aggFit, hk, h3]
        rw [hr]
        clear hr hk hc
        rcases h3 with rfl | rfl
        all_goals
          go_enter Try.func26, Try.ntmps26
          go_wp2_with (first
            | (go_at_call 23; refine (HC.out _).mono ?_; rintro e w1 ⟨rfl, rfl⟩)
            | (go_at_call 16; refine (agg_Of _ _ _).mono ?_; rintro e w1 ⟨rfl, hb⟩; obtain ⟨hb1, hb2⟩ := bcell hb; have hz := hb.size)
            | (go_at_call 27; go_in))
          refine bodyPost_ret (v := (aggOf _ n.toNat).v) (by simp [results, Try.results26, go_sem, hb1]) rfl ⟨rfl, ?_⟩
          exact (((((Below.refl _ _).alloc (Nat.le_refl _) _).alloc (by simp) _).trans (hb.mono (by simp; omega))).setCell (by simp) _).setCell (by simp) _
      · have hr : aggFit kind ⟨true, n⟩ = ⟨true, n⟩ := by simp [aggFit, hk, h3]
        rw [hr]
        have h4 : (kind == 3) = false := by simp; omega
        have h5 : (kind == 4) = false := by simp; omega
        clear hr hk hc h3
        go_enter Try.func26, Try.ntmps26
        go_wp2_with (first
          | (go_at_call 23; refine (HC.out _).mono ?_; rintro e w1 ⟨rfl, rfl⟩))
        refine bodyPost_ret (v := .agg #[.bool true, .int .u64 n]) (by simp [results, Try.results26, go_sem]) rfl ⟨rfl, ?_⟩
        exact ((Below.refl _ _).alloc (Nat.le_refl _) _).alloc (by simp) _

def aggMerge (kind : Int) (a b : AV) : AV :=
  if (aggFit kind a).has = false then aggFit kind b
  else if (aggFit kind b).has = false then aggFit kind a
  else if kind = 3 then aggOf kind (fLeast (aggFit kind a).bits.toNat (aggFit kind b).bits.toNat)
  else if kind = 4 then aggOf kind (fMost (aggFit kind a).bits.toNat (aggFit kind b).bits.toNat)
  else ⟨true, IntKind.u64.wrap ((aggFit kind a).bits + (aggFit kind b).bits)⟩

theorem below_call {w W w1 : World} (hb : Below W.heap.size W w1) (b : Below w.heap.size w W) : Below w.heap.size w w1 := b.trans (hb.mono b.size)

theorem Blk.call {W w1 : World} {g : Nat} {T : TypeId} {cs : Array Value} (hb : Below W.heap.size W w1) (k : Blk W g T cs) : Blk w1 g T cs := k.below hb k.lt

theorem three_new (w : World) (T : TypeId) (c0 c1 c2 : Array Value) : Blk (((w.alloc (.cells c0 T)).alloc (.cells c1 T)).alloc (.cells c2 T)) w.heap.size T c0 ∧
    Blk (((w.alloc (.cells c0 T)).alloc (.cells c1 T)).alloc (.cells c2 T)) (w.heap.size + 1) T c1 ∧ Blk (((w.alloc (.cells c0 T)).alloc (.cells c1 T)).alloc (.cells c2 T)) (w.heap.size + 2) T c2 := by
  refine ⟨((Blk.new w T c0).alloc _).alloc _, ?_, ?_⟩
  · have := (Blk.new (w.alloc (.cells c0 T)) T c1).alloc (.cells c2 T)
    simpa using this
  · have := Blk.new ((w.alloc (.cells c0 T)).alloc (.cells c1 T)) T c2
    simpa using this

theorem agg_some_below (n : Int) (w : World) : Calls Try.prog 30 #[.int .u64 n] w fun e w' => e = .returned (.agg #[.bool true, .int .u64 n]) ∧ Below w.heap.size w w' :=
  (agg_some n w).mono fun _ _ ⟨he, hw⟩ => ⟨he, hw ▸ (Below.refl _ _).alloc (Nat.le_refl _) _⟩

set_option maxHeartbeats 4000000 in
theorem agg_Merge (kind : Int) (ha : Bool) (na : Int) (hb : Bool) (nb : Int) (w : World) :
    Calls Try.prog 15 #[.int .i64 kind, .agg #[.bool ha, .int .u64 na], .agg #[.bool hb, .int .u64 nb]] w fun e w' => e = .returned (aggMerge kind ⟨ha, na⟩ ⟨hb, nb⟩).v ∧ Below w.heap.size w w' := by
  have hg := fromBits_run
  obtain ⟨R, hR⟩ : ∃ R, aggMerge kind ⟨ha, na⟩ ⟨hb, nb⟩ = R := ⟨_, rfl⟩
  have hR' := hR
  unfold aggMerge at hR'
  rw [hR]
  have HR := Lib.hid hR'
  clear hR hR'
  go_enter Try.func15, Try.ntmps15
  go_upto_region 1 with (fail)
  go_cut [] (fun wc => Blk wc w.heap.size 45 #[.bool (aggFit kind ⟨ha, na⟩).has, .int .u64 (aggFit kind ⟨ha, na⟩).bits] ∧ Blk wc (w.heap.size + 1) 45 #[.bool (aggFit kind ⟨hb, nb⟩).has, .int .u64 (aggFit kind ⟨hb, nb⟩).bits] ∧ Blk wc (w.heap.size + 2) 45 #[.bool false, .int .u64 0] ∧ Below w.heap.size w wc)
  case first =>
    have b0 : Below w.heap.size w (((w.alloc (.cells #[.bool ha, .int .u64 na] 45)).alloc (.cells #[.bool hb, .int .u64 nb] 45)).alloc (.cells #[.bool false, .int .u64 0] 45)) := (((Below.refl _ _).alloc (Nat.le_refl _) _).alloc (by simp) _).alloc (by simp; omega) _
    obtain ⟨k0, k1, k2⟩ := three_new w 45 #[.bool ha, .int .u64 na] #[.bool hb, .int .u64 nb] #[.bool false, .int .u64 0]
    go_region_with (go_at_call 26; refine (agg_Fit _ _ _ _).mono ?_; rintro e w1 ⟨rfl, hb1⟩; obtain ⟨hc1, hf1⟩ := bcell hb1; have hz1 : w.heap.size + 1 + 1 < w1.heap.size := (by have := hb1.size; (try simp at this); omega); have hz2 : w.heap.size < w1.heap.size := (by omega); have hz3 : w.heap.size + 1 < w1.heap.size := (by omega); have b0 : Below w.heap.size w w1 := (by first | exact below_call hb1 b0 | exact below_call hb1 b0.drew); have k0 : Blk w1 w.heap.size 45 #[.bool ha, .int .u64 na] := (Blk.call hb1 k0); have k1 : Blk w1 (w.heap.size + 1) 45 #[.bool hb, .int .u64 nb] := (Blk.call hb1 k1); have k2 : Blk w1 (w.heap.size + 2) 45 #[.bool false, .int .u64 0] := (Blk.call hb1 k2))
    all_goals
      go_wp2_with fail
      go_meet
      refine ⟨((((k0.set_ 0 _).set_ 1 _).far (by simp) _).far (by simp) _), ((((k1.far (by simp) _).far (by simp) _).set_ 0 _).set_ 1 _), ((((k2.far (by simp) _).far (by simp) _).far (by simp) _).far (by simp) _), ?_⟩
      exact (((b0.setCell (by simp) _).setCell (by simp) _).setCell (by simp) _).setCell (by simp) _
  case rest =>
    obtain ⟨k0, k1, k2, b0⟩ := hcut
    have c00 := k0.cell 0
    have c01 := k0.cell 1
    have c10 := k1.cell 0
    have c11 := k1.cell 1
    have c20 := k2.cell 0
    have c21 := k2.cell 1
    have f0 := fun i => k0.frozen i
    have f1 := fun i => k1.frozen i
    have f2 := fun i => k2.frozen i
    obtain ⟨Ah, hAh⟩ : ∃ x, (aggFit kind ⟨ha, na⟩).has = x := ⟨_, rfl⟩
    obtain ⟨An, hAn⟩ : ∃ x, (aggFit kind ⟨ha, na⟩).bits = x := ⟨_, rfl⟩
    obtain ⟨Bh, hBh⟩ : ∃ x, (aggFit kind ⟨hb, nb⟩).has = x := ⟨_, rfl⟩
    obtain ⟨Bn, hBn⟩ : ∃ x, (aggFit kind ⟨hb, nb⟩).bits = x := ⟨_, rfl⟩
    rw [hAh] at c00
    rw [hAn] at c01
    rw [hBh] at c10
    rw [hBn] at c11
    simp at c00 c01 c10 c11 c20 c21
    have HH := Lib.hid (And.intro hAh (And.intro hAn (And.intro hBh hBn)))
    clear hAh hAn hBh hBn k0 k1
    have hv : ∀ (x : AV), R = x → Ending.returned (.agg #[.bool x.has, .int .u64 x.bits]) = Ending.returned R.v := fun x hx => by rw [hx]
    have HV := Lib.hid hv
    clear hv
    have hz := k2.lt
    have hz' : w.heap.size + 1 + 1 < wc.heap.size := hz
    have b1 : ∀ (n : Nat) (u v : Value), Below w.heap.size w (((wc.drewN n).setCell ⟨w.heap.size + 1 + 1, 0, none⟩ u).setCell ⟨w.heap.size + 1 + 1, 1, none⟩ v) := fun n u v => ((below_drewN b0 n).setCell (by simp; omega) _).setCell (by simp; omega) _
    have B1 := Lib.hid b1
    clear b1
    cases Ah
    · go_wp2_with fail
      go_quiet (fail)
      go_wp2
      refine bodyPost_ret (v := .agg #[.bool Bh, .int .u64 Bn]) (by simp [results, Try.results15, go_sem, c20, c21]) rfl ⟨?_, B1.out _ _ _⟩
      refine HV.out ⟨Bh, Bn⟩ ?_
      obtain ⟨h1, h2, h3, h4⟩ := HH.out
      rw [← HR.out, h1, if_pos rfl, ← h3, ← h4]
    · cases Bh
      · go_wp2_with fail
        go_quiet (fail)
        go_wp2
        refine bodyPost_ret (v := .agg #[.bool true, .int .u64 An]) (by simp [results, Try.results15, go_sem, c20, c21]) rfl ⟨?_, B1.out _ _ _⟩
        refine HV.out ⟨true, An⟩ ?_
        obtain ⟨h1, h2, h3, h4⟩ := HH.out
        rw [← HR.out, h1, if_neg (by simp), h3, if_pos rfl, ← h1, ← h2]
      · by_cases h34 : kind = 3 ∨ kind = 4
        · rcases h34 with rfl | rfl
          · go_wp2_with fail
            go_quiet (fail)
            go_wp2_with (first
              | (go_at_call 28; refine (fbit_Least _ _ _).mono ?_; rintro e w1 ⟨rfl, hb1⟩; have k2 := Blk.call hb1 k2; have b0 := (below_call hb1 (below_drewN b0 _)))
              | (go_at_call 16; refine (agg_Of _ _ _).mono ?_; rintro e w2 ⟨rfl, hb2⟩; have k3 := Blk.call hb2 k2; have b2 := (below_call hb2 b0); have c20 := k3.cell 0; have c21 := k3.cell 1; have f2 := fun i => k3.frozen i; simp at c20 c21))
            refine bodyPost_ret (v := (aggOf 3 (fLeast An.toNat Bn.toNat)).v) (by simp [results, Try.results15, go_sem, c20, c21]) rfl ⟨?_, (b2.setCell (by simp; omega) _).setCell (by simp; omega) _⟩
            refine HV.out _ ?_
            obtain ⟨h1, h2, h3, h4⟩ := HH.out
            rw [← HR.out, h1, if_neg (by simp), h3, if_neg (by simp), ← h2, ← h4]
            simp
          · go_wp2_with fail
            go_quiet (fail)
            go_wp2_with (first
              | (go_at_call 29; refine (fbit_Most _ _ _).mono ?_; rintro e w1 ⟨rfl, hb1⟩; have k2 := Blk.call hb1 k2; have b0 := (below_call hb1 (below_drewN b0 _)))
              | (go_at_call 16; refine (agg_Of _ _ _).mono ?_; rintro e w2 ⟨rfl, hb2⟩; have k3 := Blk.call hb2 k2; have b2 := (below_call hb2 b0); have c20 := k3.cell 0; have c21 := k3.cell 1; have f2 := fun i => k3.frozen i; simp at c20 c21))
            refine bodyPost_ret (v := (aggOf 4 (fMost An.toNat Bn.toNat)).v) (by simp [results, Try.results15, go_sem, c20, c21]) rfl ⟨?_, (b2.setCell (by simp; omega) _).setCell (by simp; omega) _⟩
            refine HV.out _ ?_
            obtain ⟨h1, h2, h3, h4⟩ := HH.out
            rw [← HR.out, h1, if_neg (by simp), h3, if_neg (by simp), ← h2, ← h4]
            simp
        · have h5 : (kind == 3) = false := by simp; omega
          have h6 : (kind == 4) = false := by simp; omega
          go_wp2_with fail
          go_quiet (fail)
          go_wp2_with (go_at_call 30; refine (agg_some_below _ _).mono ?_; rintro e w1 ⟨rfl, hb1⟩; have k3 := Blk.call hb1 k2; have b2 := (below_call hb1 (below_drewN b0 _)); have c20 := k3.cell 0; have c21 := k3.cell 1; have f2 := fun i => k3.frozen i; simp at c20 c21)
          refine bodyPost_ret (v := .agg #[.bool true, .int .u64 (IntKind.u64.wrap (An + Bn))]) (by simp [results, Try.results15, go_sem, c20, c21]) rfl ⟨?_, (b2.setCell (by simp; omega) _).setCell (by simp; omega) _⟩
          refine HV.out ⟨true, _⟩ ?_
          obtain ⟨h1, h2, h3, h4⟩ := HH.out
          rw [← HR.out, h1, if_neg (by simp), h3, if_neg (by simp), ← h2, ← h4, if_neg (by omega), if_neg (by omega)]
          rfl

end Go.Proofs.Ytifpcjpmannddaa
