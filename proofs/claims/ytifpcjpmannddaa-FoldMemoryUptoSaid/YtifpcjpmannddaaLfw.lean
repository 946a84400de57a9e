/- The walk of FoldParts where the job's pipeline or kind is none; all cases together. -/
import Derived.Test.YtifpcjpmannddaaLfp
namespace Go.Proofs.Ytifpcjpmannddaa
open Go.Proofs Go.RowKit
attribute [local go_sem ↓] Go.wp_at_zero Go.wp_at_succ
attribute [local go_sem] run_store_float

theorem batch_wrong (l : List OpV) (A : Option Addr) (cap : Nat) (kind : Int) (v : Value) (hll : l.length ≤ 140737488351232) (hw : (decide (checkF l = 0) && known kind) = false) :
    ∃ E : Int, (E = 30 ∨ E = 1) ∧ ∀ w, RowOf OpV.cells 3 w w.heap.size A l → Calls Try.prog 9 #[.slice A l.length cap, .int .i64 kind, v] w fun e w' => e = .returned (.tuple #[.slice none 0 0, .int .i64 0, .int .i64 E]) ∧ Below w.heap.size w w' := by
  by_cases hc : checkF l = 0
  · have hk : known kind = false := by simpa [hc] using hw
    exact ⟨1, .inr rfl, fun w hr => fold_Batch_kind l A cap kind v w hr hll hc hk⟩
  · exact ⟨30, .inl rfl, fun w hr => fold_Batch_ops l A cap kind v w hr hll hc⟩

set_option maxRecDepth 100000 in
set_option maxHeartbeats 8000000 in
theorem law_FoldParts_wrong (l : List OpV) (A : Option Addr) (cap : Nat) (kind : Int) (nr : Nat) (A' : Option Addr) (cap' : Nat) (at_ : Int) (w : World) (hr : RowOf OpV.cells 3 w w.heap.size A l)
    (hll : l.length ≤ 140737488351232) (hw : (decide (checkF l = 0) && known kind) = false) :
    Calls Try.prog 3 #[jobV A l.length cap kind A' nr cap' at_] w fun e w' => e = .returned (.bool true) ∧ Below w.heap.size w w' := by
  obtain ⟨E, hE, hB⟩ := batch_wrong l A cap kind (.slice A' nr cap') hll hw
  have hR := fun w hr => law_right l A cap kind A' nr cap' at_ w hr hll
  rw [hw] at hR
  have HRT := Lib.hid hR
  have HB := Lib.hid hB
  have ba : Below w.heap.size w (w.alloc (.cells #[.slice A l.length cap, .int .i64 kind, .slice A' nr cap', .int .i64 at_] 25)) := (Below.refl _ _).alloc (Nat.le_refl _) _
  have HL := Lib.hid (hr.nx ba)
  have C := Lib.hid ba
  have K := Lib.hid (Blk.new w 25 #[.slice A l.length cap, .int .i64 kind, .slice A' nr cap', .int .i64 at_])
  clear hR hB hr hw ba
  rcases hE with rfl | rfl
  all_goals
    go_enter Try.func3, Try.ntmps3
    go_wp2_with (first
      | (go_at_call 7; refine (law_awake _).mono ?_; rintro e wn ⟨rfl, hb⟩; have C := Lib.hid (below_call hb C.out); have K := Lib.hid (Blk.call hb K.out); obtain ⟨c0, c1, c2, c3, _⟩ := blkQ K.out; have HL := Lib.hid (HL.out.nx hb); clear hb)
      | (go_at_call 8; refine (HRT.out _ HL.out).mono ?_; rintro e wn ⟨rfl, hb⟩; have C := Lib.hid (below_call hb C.out); have K := Lib.hid (Blk.call hb K.out); obtain ⟨c0, c1, c2, c3, _⟩ := blkQ K.out; have HL := Lib.hid (HL.out.nx hb); clear hb)
      | (go_at_call 9; refine (HB.out _ HL.out).mono ?_; rintro e wn ⟨rfl, hb⟩; have C := Lib.hid (below_call hb C.out); clear hb))
    go_ret
    exact ⟨rfl, C.out⟩

theorem law_FoldParts (l : List OpV) (A : Option Addr) (cap : Nat) (kind : Int) (recs : List RecV) (A' : Option Addr) (cap' : Nat) (at_ : Int) (w : World) (hr : RowOf OpV.cells 3 w w.heap.size A l) (hr' : RowOf RecV.cells 2 w w.heap.size A' recs)
    (ho : ∀ o ∈ l, o.n ≤ 9223372036854775807) (hk : RecsOk recs) (hl : recs.length ≤ 68719476736) (hll : l.length ≤ 140737488351232) (hcap : recs.length ≤ cap') (hcm : cap' ≤ 9223372036854775807) :
    Calls Try.prog 3 #[jobV A l.length cap kind A' recs.length cap' at_] w fun e w' => e = .returned (.bool true) ∧ Below w.heap.size w w' := by
  cases h : (decide (checkF l = 0) && known kind)
  · exact law_FoldParts_wrong l A cap kind recs.length A' cap' at_ w hr hll h
  · simp only [Bool.and_eq_true, decide_eq_true_eq] at h
    exact law_FoldParts_right l A cap kind recs A' cap' at_ w hr hr' h.1 ho hk hl hll hcap hcm h.2

end Go.Proofs.Ytifpcjpmannddaa
