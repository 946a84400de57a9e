/- The laws' awake. -/
import Derived.Test.YtifpcjpmannddaaLw0
namespace Go.Proofs.Ytifpcjpmannddaa
open Go.Proofs Go.RowKit
attribute [local go_sem ↓] Go.wp_at_zero Go.wp_at_succ
attribute [local go_sem] run_store_float

theorem rowOf_blk {α : Type} {enc : α → List Value} {size : Nat} {w : World} {g : Nat} {t : TypeId} {cs : Array Value} (k : Blk w g t cs) {l : List α} (hs : ∀ x, (enc x).length = size) (h : cs.toList = l.flatMap enc) : RowOf enc size w w.heap.size (some ⟨g, 0, none⟩) l :=
  fun _ => ⟨g, 0, rfl, k.lt, fun i x hi j u hu => by
    have h1 := flat_at hs l i x hi j u hu
    rw [← h] at h1
    rw [k.cell, Nat.zero_add]
    simpa using h1⟩

def awOps : List OpV := [⟨9, 0, 0⟩]
def awRecs : List RecV := [⟨5, 4607182418800017408⟩, ⟨2, 4613937818241073152⟩, ⟨5, 0⟩]
def awT : List PairV := [⟨2, ⟨true, 1⟩⟩, ⟨5, ⟨true, 2⟩⟩]
def awU : List PairV := [⟨2, ⟨true, 2⟩⟩, ⟨5, ⟨true, 4⟩⟩]

theorem aw_batch : batchF 1 awOps awRecs = (setM (setM (setM (fun _ => AV.zero) 5 ⟨true, 1⟩) 2 ⟨true, 1⟩) 5 ⟨true, 2⟩, 0) := by
  have h1 : runF awOps ⟨5, 4607182418800017408⟩ = .kept ⟨5, 4607182418800017408⟩ := by kernel_rfl
  have h2 : runF awOps ⟨2, 4613937818241073152⟩ = .kept ⟨2, 4613937818241073152⟩ := by kernel_rfl
  have h3 : runF awOps ⟨5, 0⟩ = .kept ⟨5, 0⟩ := by kernel_rfl
  simp only [batchF, awRecs, List.foldl_cons, List.foldl_nil, batchStep, h1, h2, h3]
  congr 1
theorem aw_tab : Tab (batchF 1 awOps awRecs).1 awT 3 := by
  rw [aw_batch]
  refine ⟨[2, 5], ⟨by simp, fun x => ?_⟩, by simp [tabOf, awT, setM], fun x hx => ?_, by simp⟩
  · simp only [setM]
    by_cases h5 : x = 5
    · simp [h5]
    · by_cases h2 : x = 2
      · simp [h2]
      · simp [h5, h2, AV.zero]
  · simp at hx
    rcases hx with rfl | rfl <;> exact u64_wf (by omega) (by omega)
theorem aw_add : addF 1 awT awT = setM (setM (setM (setM (fun _ => AV.zero) 2 ⟨true, 1⟩) 5 ⟨true, 2⟩) 2 ⟨true, 2⟩) 5 ⟨true, 4⟩ := by
  simp only [addF, awT, List.cons_append, List.nil_append, List.foldl_cons, List.foldl_nil, addStep]
  congr 1
theorem aw_tab2 : Tab (addF 1 awT awT) awU 4 := by
  rw [aw_add]
  refine ⟨[2, 5], ⟨by simp, fun x => ?_⟩, by simp [tabOf, awU, setM], fun x hx => ?_, by simp⟩
  · simp only [setM]
    by_cases h5 : x = 5
    · simp [h5]
    · by_cases h2 : x = 2
      · simp [h2]
      · simp [h5, h2, AV.zero]
  · simp at hx
    rcases hx with rfl | rfl <;> exact u64_wf (by omega) (by omega)

theorem RowOf.up {α : Type} {enc : α → List Value} {size B : Nat} {w w' : World} {A : Option Addr} {l : List α} (h : RowOf enc size w B A l) (hb : Below B w w') (hB : B ≤ w'.heap.size) : RowOf enc size w' w'.heap.size A l := (h.below hb).more hB

theorem aw_call1 (w : World) : Calls Try.prog 9 #[.slice (some ⟨w.heap.size, 0, none⟩) 1 1, .int .i64 1, .slice (some ⟨w.heap.size + 1, 0, none⟩) 3 3]
    ((w.alloc (.cells #[.int .i64 9, .int .i64 0, .float .f64 0] 57)).alloc (.cells #[.int .u64 5, .float .f64 4607182418800017408, .int .u64 2, .float .f64 4613937818241073152, .int .u64 5, .float .f64 0] 41)) fun e w' =>
      ∃ b off cap, e = .returned (.tuple #[.slice (some ⟨b, off, none⟩) 2 cap, .int .i64 0, .int .i64 0]) ∧ RowOf PairV.cells 3 w' w'.heap.size (some ⟨b, off, none⟩) awT ∧ Below w.heap.size w w' := by
  have k0 := Blk.new w 57 #[.int .i64 9, .int .i64 0, .float .f64 0]
  have k1 := Blk.new (w.alloc (.cells #[.int .i64 9, .int .i64 0, .float .f64 0] 57)) 41 #[.int .u64 5, .float .f64 4607182418800017408, .int .u64 2, .float .f64 4613937818241073152, .int .u64 5, .float .f64 0]
  have b1 : Below w.heap.size w ((w.alloc (.cells #[.int .i64 9, .int .i64 0, .float .f64 0] 57)).alloc (.cells #[.int .u64 5, .float .f64 4607182418800017408, .int .u64 2, .float .f64 4613937818241073152, .int .u64 5, .float .f64 0] 41)) := ((Below.refl _ _).alloc (Nat.le_refl _) _).alloc (by simp) _
  have r0 := rowOf_blk (k0.alloc (.cells #[.int .u64 5, .float .f64 4607182418800017408, .int .u64 2, .float .f64 4613937818241073152, .int .u64 5, .float .f64 0] 41)) (enc := OpV.cells) (size := 3) (l := awOps) (fun _ => rfl) rfl
  have r1 := rowOf_blk k1 (enc := RecV.cells) (size := 2) (l := awRecs) (fun _ => rfl) rfl
  have h := fold_Batch awOps _ 1 1 awRecs _ 3 _ r0 r1 (by decide) (by decide) (by simp [awRecs, RecV.Ok]) (by decide) (by decide)
  have hs : (w.alloc (.cells #[.int .i64 9, .int .i64 0, .float .f64 0] 57)).heap.size = w.heap.size + 1 := by simp
  rw [hs] at h
  refine h.mono ?_
  rintro e w' ⟨ss, v, rfl, h1, h2, h3, h4, h5⟩
  obtain ⟨t, A, cap, rfl, ht, hr⟩ := tab_of h1 h2 h3 h4
  obtain rfl := ht.uniq aw_tab
  obtain ⟨b, off, rfl, _⟩ := hr (by decide)
  exact ⟨b, off, cap, by rw [aw_batch]; rfl, hr, below_call h5 b1⟩

theorem aw_call2 (b off cap : Nat) (w : World) (hr : RowOf PairV.cells 3 w w.heap.size (some ⟨b, off, none⟩) awT) : Calls Try.prog 12 #[.int .i64 1, .slice (some ⟨b, off, none⟩) 2 cap, .slice (some ⟨b, off, none⟩) 2 cap] w fun e w' =>
      ∃ A cap, e = .returned (.tuple #[.slice A 2 cap, .int .i64 0]) ∧ RowOf PairV.cells 3 w' w'.heap.size A awU ∧ Below w.heap.size w w' := by
  have h := fold_Add 1 awT awT _ _ cap cap w hr hr aw_tab.sound aw_tab.sound aw_tab.wf aw_tab.wf (by decide) (by decide) (by decide)
  refine h.mono ?_
  rintro e w' ⟨ss, v, rfl, h1, h2, h3, h4, h5⟩
  obtain ⟨t, A, cap, rfl, ht, hr⟩ := tab_of h1 h2 h3 h4
  obtain rfl := ht.uniq aw_tab2
  exact ⟨A, cap, rfl, hr, h5⟩

theorem same_true (t : List PairV) (n : Nat) (A B : Option Addr) (cap cap' : Nat) (w : World) (hn : t.length = n) (hr : RowOf PairV.cells 3 w w.heap.size A t) (hs : RowOf PairV.cells 3 w w.heap.size B t) (hl : n ≤ 140737488351232) :
    Calls Try.prog 13 #[.slice A n cap, .slice B n cap'] w fun e w' => e = .returned (.bool true) ∧ Below w.heap.size w w' := by
  subst hn
  have := law_same t t A B cap cap' w hr hs hl
  rwa [decide_eq_true rfl] at this

theorem val_eql (w : World) (n n' : Int) (h h' : Bool) : (binOp .eql 45 (.agg #[.bool h, .int .u64 n]) (.agg #[.bool h', .int .u64 n'])).run Try.prog w = .ok (.bool (decide (h = h') && decide (n = n'))) w := by
  have hw : ∀ w, (Op.equal 45 (.agg #[.bool h, .int .u64 n]) (.agg #[.bool h', .int .u64 n'])).run Try.prog w = .ok (decide (h = h') && decide (n = n')) w := fun w => eq45 w 9998 n n' h h'
  simp only [binOp]
  simp [hw]
theorem val_neq (w : World) (n n' : Int) (h h' : Bool) : (binOp .neq 45 (.agg #[.bool h, .int .u64 n]) (.agg #[.bool h', .int .u64 n'])).run Try.prog w = .ok (.bool (!(decide (h = h') && decide (n = n')))) w := by
  have hw : ∀ w, (Op.equal 45 (.agg #[.bool h, .int .u64 n]) (.agg #[.bool h', .int .u64 n'])).run Try.prog w = .ok (decide (h = h') && decide (n = n')) w := fun w => eq45 w 9998 n n' h h'
  simp only [binOp]
  simp [hw]

theorem rowOf_keys {w : World} {g : Nat} {t : List PairV} (h : w.rowIs g 38 t.length (fun i => .int .u64 (keyAt t i))) : RowOf (fun x => [Value.int .u64 x]) 1 w w.heap.size (some ⟨g, 0, none⟩) (t.map (·.key)) :=
  fun _ => ⟨g, 0, rfl, h.lt, fun k x hk j u hu => by
    have hkl : k < t.length := by have := (List.getElem?_eq_some_iff.1 hk).1; simpa using this
    have hc := h.cell hkl
    have hkx : keyAt t k = x := by unfold keyAt; rw [List.getD_eq_getElem?_getD, hk]; rfl
    rw [hkx] at hc
    have hj : j = 0 := by
      rcases j with _ | j
      · rfl
      · simp at hu
    subst hj
    simp at hu
    subst hu
    simpa using hc⟩

theorem keys_true (t : List Int) (n m : Nat) (A B : Option Addr) (cap cap' : Nat) (w : World) (hn : t.length = n) (hm : t.length = m) (hr : RowOf (fun x => [Value.int .u64 x]) 1 w w.heap.size A t) (hs : RowOf (fun x => [Value.int .u64 x]) 1 w w.heap.size B t) (hl : n ≤ 140737488351232) :
    Calls Try.prog 20 #[.slice A n cap, .slice B m cap'] w fun e w' => e = .returned (.bool true) ∧ Below w.heap.size w w' := by
  subst hn
  subst hm
  have := law_keys t t A B cap cap' w hr hs hl
  rwa [decide_eq_true rfl] at this

theorem aw_cells {w : World} {B b off : Nat} (hr : RowOf PairV.cells 3 w B (some ⟨b, off, none⟩) awT) : w.cell? ⟨b, off + 3 + 1, none⟩ = some (.bool true) ∧ w.cell? ⟨b, off + 3 + 1 + 1, none⟩ = some (.int .u64 2) := by
  obtain ⟨b', off', x, e, _, hx, _, hc⟩ := hr.at_ (show 1 < awT.length by decide)
  injection e with e
  injection e with e1 e2
  subst e1 e2
  simp [awT] at hx
  subst hx
  have h1 := hc 1 _ rfl
  have h2 := hc 2 _ rfl
  exact ⟨by simpa using h1, by simpa using h2⟩

set_option maxRecDepth 100000 in
set_option maxHeartbeats 8000000 in
theorem law_awake (w : World) : Calls Try.prog 7 #[] w fun e w' => e = .returned (.bool true) ∧ Below w.heap.size w w' := by
  go_enter Try.func7, Try.ntmps7
  go_wp2_with (first
    | (go_at_call 9; refine (aw_call1 w).mono ?_; rintro e w1 ⟨b, off, cap, rfl, hr, hb1⟩; have HT1 := Lib.hid hr; have B1 := Lib.hid hb1; clear hr hb1)
    | (go_at_call 12; refine (aw_call2 b off cap w1 HT1.out).mono ?_; rintro e w2 ⟨A2, cap2, rfl, hr2, hb2⟩; have HT := Lib.hid (HT1.out.up hb2 hb2.size); have HU := Lib.hid hr2; have B := Lib.hid (below_call hb2 B1.out); clear hr2 hb2))
  have hveq := fun w => val_eql w 2 2 true true
  have C := Lib.hid (Below.refl w2.heap.size w2)
  obtain ⟨d1, d2⟩ := aw_cells HT.out
  go_region_with (first
    | (go_at_call 18; refine (law_pair _ _ _).mono ?_; rintro e w3 ⟨rfl, hb3⟩; have C := Lib.hid (below_call hb3 (by first | exact C.out | exact C.out.drew | exact C.out.alloc C.out.size _ | exact (C.out.drew).alloc C.out.size _ | exact (C.out.alloc C.out.size _).drew)); obtain ⟨d1, d2⟩ := aw_cells (HT.out.below C.out); clear hb3)
    | (go_at_call_of 13 A2; refine (same_true awU 2 _ _ _ _ _ rfl ?_ ?_ (by decide)).mono ?_; exact HU.out.up (by first | exact C.out | exact C.out.drew | exact C.out.alloc C.out.size _ | exact (C.out.drew).alloc C.out.size _ | exact (C.out.alloc C.out.size _).drew) (by first | exact C.out.size | (have := C.out.size; simp; omega)); exact rowOf_blk (Blk.new _ _ _) (fun _ => rfl) rfl; rintro e w3 ⟨rfl, hb3⟩; have C := Lib.hid (below_call hb3 (by first | exact C.out | exact C.out.drew | exact C.out.alloc C.out.size _ | exact (C.out.drew).alloc C.out.size _ | exact (C.out.alloc C.out.size _).drew)); obtain ⟨d1, d2⟩ := aw_cells (HT.out.below C.out); clear hb3)
    | (go_at_call 13; refine (same_true awT 2 _ _ _ _ _ rfl ?_ ?_ (by decide)).mono ?_; exact HT.out.up (by first | exact C.out | exact C.out.drew | exact C.out.alloc C.out.size _ | exact (C.out.drew).alloc C.out.size _ | exact (C.out.alloc C.out.size _).drew) (by first | exact C.out.size | (have := C.out.size; simp; omega)); exact rowOf_blk (Blk.new _ _ _) (fun _ => rfl) rfl; rintro e w3 ⟨rfl, hb3⟩; have C := Lib.hid (below_call hb3 (by first | exact C.out | exact C.out.drew | exact C.out.alloc C.out.size _ | exact (C.out.drew).alloc C.out.size _ | exact (C.out.alloc C.out.size _).drew)); obtain ⟨d1, d2⟩ := aw_cells (HT.out.below C.out); clear hb3)
    | (go_at_call 21; refine (fold_Sound awT _ _ _ ?_ (by decide)).mono ?_; exact HT.out.up (by first | exact C.out | exact C.out.drew | exact C.out.alloc C.out.size _ | exact (C.out.drew).alloc C.out.size _ | exact (C.out.alloc C.out.size _).drew) (by first | exact C.out.size | (have := C.out.size; simp; omega)); rintro e w3 ⟨rfl, hb3⟩; have C := Lib.hid (below_call hb3 (by first | exact C.out | exact C.out.drew | exact C.out.alloc C.out.size _ | exact (C.out.drew).alloc C.out.size _ | exact (C.out.alloc C.out.size _).drew)); obtain ⟨d1, d2⟩ := aw_cells (HT.out.below C.out); clear hb3)
    | (go_at_call 17; refine (fold_Find awT _ _ 5 _ ?_ (by decide)).mono ?_; exact HT.out.up (by first | exact C.out | exact C.out.drew | exact C.out.alloc C.out.size _ | exact (C.out.drew).alloc C.out.size _ | exact (C.out.alloc C.out.size _).drew) (by first | exact C.out.size | (have := C.out.size; simp; omega)); rintro e w3 ⟨rfl, hb3⟩; have C := Lib.hid (below_call hb3 (by first | exact C.out | exact C.out.drew | exact C.out.alloc C.out.size _ | exact (C.out.drew).alloc C.out.size _ | exact (C.out.alloc C.out.size _).drew)); obtain ⟨d1, d2⟩ := aw_cells (HT.out.below C.out); clear hb3)
    | (go_at_call 19; refine (fold_Keys awT _ _ _ ?_ (by decide)).mono ?_; exact HT.out.up (by first | exact C.out | exact C.out.drew | exact C.out.alloc C.out.size _ | exact (C.out.drew).alloc C.out.size _ | exact (C.out.alloc C.out.size _).drew) (by first | exact C.out.size | (have := C.out.size; simp; omega)); rintro e w3 ⟨rfl, hrow3, hb3⟩; have C := Lib.hid (below_call hb3 (by first | exact C.out | exact C.out.drew | exact C.out.alloc C.out.size _ | exact (C.out.drew).alloc C.out.size _ | exact (C.out.alloc C.out.size _).drew)); have hR : RowOf (fun x => [Value.int .u64 x]) 1 _ _ _ [2, 5] := rowOf_keys hrow3; have HR3 := Lib.hid hR; clear hR; have HBK := Lib.hid hb3; obtain ⟨d1, d2⟩ := aw_cells (HT.out.below C.out); clear hb3 hrow3)
    | (go_at_call 20; refine (keys_true [2, 5] _ 2 _ _ _ _ _ rfl rfl ?_ ?_ (by decide)).mono ?_; (first | exact HR3.out | simpa using HR3.out | exact HR3.out.up ((Below.refl _ _).alloc (Nat.le_refl _) _) (by simp)); (first | exact rowOf_blk (Blk.new _ _ _) (fun _ => rfl) rfl | exact rowOf_blk (Blk.call HBK.out (Blk.new _ _ _)) (fun _ => rfl) rfl); rintro e w3 ⟨rfl, hb3⟩; have C := Lib.hid (below_call hb3 (by first | exact C.out | exact C.out.drew | exact C.out.alloc C.out.size _ | exact (C.out.drew).alloc C.out.size _ | exact (C.out.alloc C.out.size _).drew)); clear hb3))
  all_goals (go_wp2; go_ret; exact ⟨rfl, B.out.trans (C.out.mono B.out.size)⟩)

end Go.Proofs.Ytifpcjpmannddaa
