/- The walk of ops.Run. -/
import Derived.Test.YtifpcjpmannddaaOp3
namespace Go.Proofs.Ytifpcjpmannddaa
open Go.Proofs Go.RowKit
attribute [local go_sem] run_store_float

/-- What a pipeline makes of a record, and what becomes of it. -/
def runF (l : List OpV) (r : RecV) : Fate := throughF l ⟨r.key, canon r.val⟩

theorem checkF_ok {l : List OpV} (h : checkF l = 0) : l.length ≤ 8 ∧ ∀ o ∈ l, isStep o = true := by
  unfold checkF at h
  by_cases h8 : 8 < l.length
  · rw [if_pos h8] at h; omega
  · rw [if_neg h8] at h
    by_cases ha : l.all isStep = true
    · exact ⟨by omega, List.all_eq_true.1 ha⟩
    · rw [if_neg ha] at h; omega

theorem ops_Run (l : List OpV) (A : Option Addr) (cap : Nat) (key : Int) (v : Nat) (w : World) (hr : RowOf OpV.cells 3 w w.heap.size A l) (hc : checkF l = 0) (ho : ∀ o ∈ l, o.n ≤ 9223372036854775807) (hk : 0 ≤ key) (hk' : key ≤ 18446744073709551615)
    (F : Fate) (hF : runF l ⟨key, v⟩ = F) :
    Calls Try.prog 14 #[.slice A l.length cap, .agg #[.int .u64 key, .float .f64 v]] w fun e w' =>
      e = .returned (.tuple #[.agg #[.int .u64 F.rec_.key, .float .f64 F.rec_.val], .int .i64 F.num]) ∧ Below w.heap.size w w' := by
  obtain ⟨h8, hst⟩ := checkF_ok hc
  have hC := fun w hr => ops_Check l A cap w hr (by omega)
  rw [hc] at hC
  have hT := fun w hr => ops_through l A cap ⟨key, v⟩ w hr h8 (fun o h => ⟨ho o h, hst o h⟩) ⟨hk, hk'⟩ F hF
  have HC := Lib.hid hC
  have HT := Lib.hid hT
  have HR := Lib.hid hr
  clear hC hT hr hc ho hF h8 hst
  obtain ⟨a, b⟩ : Blk ((w.alloc (.cells #[.int .u64 key, .float .f64 v] 41)).alloc (.cells #[.int .u64 0, .float .f64 0] 41)) w.heap.size 41 #[.int .u64 key, .float .f64 v] ∧
      Blk ((w.alloc (.cells #[.int .u64 key, .float .f64 v] 41)).alloc (.cells #[.int .u64 0, .float .f64 0] 41)) (w.heap.size + 1) 41 #[.int .u64 0, .float .f64 0] := by
    refine ⟨(Blk.new _ _ _).alloc _, ?_⟩
    have := Blk.new (w.alloc (.cells #[.int .u64 key, .float .f64 v] 41)) 41 #[.int .u64 0, .float .f64 0]
    simpa using this
  have b0 : Below w.heap.size w ((w.alloc (.cells #[.int .u64 key, .float .f64 v] 41)).alloc (.cells #[.int .u64 0, .float .f64 0] 41)) := ((Below.refl _ _).alloc (Nat.le_refl _) _).alloc (by simp) _
  have KA := Lib.hid (And.intro a (And.intro b b0))
  clear a b b0
  go_enter Try.func14, Try.ntmps14
  go_wp2_with (first
    | (go_at_call 22; refine (HC.out _ ((HR.out.below KA.out.2.2).more (by simp; omega))).mono ?_; rintro e w1 ⟨rfl, hb1⟩; have k0 := Blk.call hb1 KA.out.1; have k1 := Blk.call hb1 KA.out.2.1; have b1 := below_call hb1 KA.out.2.2; have HK := Lib.hid (And.intro k0 (And.intro k1 b1)); have c00 := k0.cell 0; have c01 := k0.cell 1; simp at c00 c01; clear k0 k1 b1 hb1)
    | (go_at_call 25; refine (HT.out _ ((HR.out.below HK.out.2.2).more (HK.out.2.2.size))).mono ?_; rintro e w2 ⟨rfl, hb2⟩; have k1 := Blk.call hb2 HK.out.2.1; have b2 := below_call hb2 HK.out.2.2; have HK2 := Lib.hid (And.intro k1 b2); have c10 := k1.cell 0; have c11 := k1.cell 1; have f1 := fun i => k1.frozen i; simp at c10 c11; clear k1 b2 hb2))
  refine bodyPost_ret (v := .tuple #[.agg #[.int .u64 F.rec_.key, .float .f64 F.rec_.val], .int .i64 F.num]) (by simp [results, Try.results14, go_sem, c10, c11]) rfl ⟨rfl, ?_⟩
  exact (HK2.out.2.setCell (by simp) _).setCell (by simp) _

end Go.Proofs.Ytifpcjpmannddaa
