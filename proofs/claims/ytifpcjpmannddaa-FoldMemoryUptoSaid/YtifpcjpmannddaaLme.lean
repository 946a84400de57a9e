/- The walk of FoldMemory. -/
import Derived.Test.YtifpcjpmannddaaMem
import Derived.Laws.OwnMore
import Derived.Laws.MakeOwn
import Derived.Deep.RegionHeld
namespace Go.Proofs.Ytifpcjpmannddaa
open Go.Proofs Go.RowKit
attribute [local go_sem ↓] Go.wp_at_zero Go.wp_at_succ
attribute [local go_sem] run_store_float

theorem pair_info : ∃ i : TypeInfo, Try.prog.info? 47 = some i ∧ i.zero = some (.agg #[.int .u64 0, .bool false, .int .u64 0]) ∧ i.size = 3 ∧ i.bytes = 24 := by
  have hi : (Try.prog.info? 47).map (fun i => (i.zero, i.size, i.bytes)) = some (some (.agg #[.int .u64 0, .bool false, .int .u64 0]), 3, 24) := by kernel_rfl
  obtain ⟨i0, hi, hz0⟩ := Option.map_eq_some_iff.1 hi
  simp only [Prod.mk.injEq] at hz0
  exact ⟨i0, hi, hz0.1, hz0.2.1, hz0.2.2⟩
theorem u64_info : ∃ i : TypeInfo, Try.prog.info? 38 = some i ∧ i.zero = some (.int .u64 0) ∧ i.size = 1 ∧ i.bytes = 8 := by
  have hi : (Try.prog.info? 38).map (fun i => (i.zero, i.size, i.bytes)) = some (some (.int .u64 0), 1, 8) := by kernel_rfl
  obtain ⟨i0, hi, hz0⟩ := Option.map_eq_some_iff.1 hi
  simp only [Prod.mk.injEq] at hz0
  exact ⟨i0, hi, hz0.1, hz0.2.1, hz0.2.2⟩

theorem make_pairs (n : Nat) (hn : n ≤ 2097152) : ∃ CS : Array Value, CS.size = (n + 4) * 3 ∧ ∀ w, (Instr.makeSlice 28 (.int .i64 0) (.int .i64 ((n : Int) + 4))).run Try.prog w = .ok (.slice (some ⟨w.heap.size, 0, none⟩) 0 (n + 4)) (w.alloc (.cells CS 47)) := by
  obtain ⟨i0, hi0, hi1, hi2, hi3⟩ := pair_info
  refine ⟨madeCells (Value.agg #[.int .u64 0, .bool false, .int .u64 0]).cells ((n + 4) * 3), size_madeCells _ _, fun w => ?_⟩
  have h := run_make (P := Try.prog) w 28 47 i0 _ Try.underlying28 hi0 hi1 .i64 .i64 0 ((n : Int) + 4) (by omega) (by omega) (by rw [hi3]; omega) (by omega)
  rw [h, hi2, show ((n : Int) + 4).toNat = n + 4 by omega]
  rfl

theorem one_pairs (l : List PairV) : ∀ u ∈ l.flatMap PairV.cells, u.oneCell' = true := by
  intro u hu
  obtain ⟨p, _, hp⟩ := List.mem_flatMap.1 hu
  simp [PairV.cells] at hp
  rcases hp with rfl | rfl | rfl <;> rfl
def encU1 (x : Int) : List Value := [.int .u64 x]
theorem one_keys (l : List Int) : ∀ u ∈ l.flatMap encU1, u.oneCell' = true := by
  intro u hu
  obtain ⟨p, _, hp⟩ := List.mem_flatMap.1 hu
  simp [encU1] at hp
  subst hp; rfl

theorem reads_blkn {w : World} {g n : Nat} {t : TypeId} {cs : Array Value} {size : Nat} (k : Blk w g t cs) (h : cs.size = n * size) : Reads w (g + 1) size (some ⟨g, 0, none⟩) n cs.toList :=
  ⟨by simp [h], fun _ => ⟨_, rfl, Nat.lt_succ_self _, fun j u hu => by
    have := k.cell j
    rw [addr_add, Nat.zero_add, this]
    simpa using hu⟩⟩

theorem own_form {w : World} {base : Nat} {e : TypeId} {size n : Nat} {v : Value} {xs : List Value} (h : w.ownsRow base e size v n xs) (hn : 0 < n) : ∃ g cap, v = .slice (some ⟨g, 0, none⟩) n cap ∧ base ≤ g ∧ g < w.heap.size ∧ n ≤ cap ∧ cap ≤ maxLen := by
  rcases h.2 with ⟨_, h0⟩ | ⟨g, cap, cur, hv, hb, hg, h1, h2, _⟩
  · omega
  · exact ⟨g, cap, hv, hb, (Array.getElem?_eq_some_iff.1 hg).1, h1, h2⟩

theorem reads_keys_new {w w' : World} {lo n : Nat} {A : Option Addr} {ks : List Int} {o : Obj} (h : RowBt encU1 1 w lo w.heap.size A ks) (hb : Below w.heap.size w w') (hn : ks.length = n) : Reads (w'.alloc o) w'.heap.size 1 A n (ks.flatMap encU1) := by
  subst hn
  exact reads_row (fun _ => rfl) (by decide) (((h.call (Nat.le_refl _) hb).row hb.size).below ((Below.refl _ _).alloc (Nat.le_refl _) _))

theorem own_at {w : World} {base : Nat} {e : TypeId} {size n cap g : Nat} {xs : List Value} (h : w.ownsRow base e size (.slice (some ⟨g, 0, none⟩) n cap) n xs) {j : Nat} (hj : j < n * size) : ∃ y, w.cell? ⟨g, j, none⟩ = some y := by
  have h1 := h.cellAt j hj
  rw [List.getElem?_eq_getElem (by rw [h.1]; exact hj)] at h1
  exact ⟨_, h1⟩

/-- The spare room's pairs. -/
def lits : List PairV := [⟨71, ⟨true, 1⟩⟩, ⟨72, ⟨true, 2⟩⟩, ⟨73, ⟨true, 3⟩⟩, ⟨74, ⟨true, 4⟩⟩]

theorem same_lits (A : Option Addr) (c : Nat) (w : World) (hr : RowOf PairV.cells 3 w w.heap.size A lits) :
    Calls Try.prog 13 #[.slice A 4 c, .slice (some ⟨w.heap.size, 0, none⟩) 4 4] (w.alloc (.cells #[.int .u64 71, .bool true, .int .u64 1, .int .u64 72, .bool true, .int .u64 2, .int .u64 73, .bool true, .int .u64 3, .int .u64 74, .bool true, .int .u64 4] 47))
      fun e w' => e = .returned (.bool true) ∧ Below w.heap.size w w' := by
  have hb : Below w.heap.size w (w.alloc (.cells #[.int .u64 71, .bool true, .int .u64 1, .int .u64 72, .bool true, .int .u64 2, .int .u64 73, .bool true, .int .u64 3, .int .u64 74, .bool true, .int .u64 4] 47)) := (Below.refl _ _).alloc (Nat.le_refl _) _
  exact (same_eq lits lits A (some ⟨w.heap.size, 0, none⟩) c 4 _ rfl (hr.nx hb) (rowOf_blk (Blk.new _ _ _) (fun _ => rfl) rfl) (by decide)).mono fun e w' ⟨h1, h2⟩ => ⟨h1, below_call h2 hb⟩

/-- Where the two rows that are written lie. -/
def Apart3 (v vk : Value) (lo hi g N : Nat) : Prop := (∀ b, v.ownBlock = some b → (lo ≤ b ∧ b < hi) ∨ N ≤ b) ∧ (∀ b, vk.ownBlock = some b → b = g ∨ N ≤ b) ∧ (∀ b, v.ownBlock = some b → vk.ownBlock ≠ some b)
section
variable {v v' vk vk' : Value} {lo hi g N B : Nat}
theorem Apart3.k (h : Apart3 v vk lo hi g N) : vk.ownBlock = none ∨ vk.ownBlock ≠ v.ownBlock := by
  cases hv : v.ownBlock with
  | none =>
    cases hk : vk.ownBlock with
    | none => exact .inl rfl
    | some b => exact .inr (by simp)
  | some b => exact .inr (h.2.2 b hv)
theorem Apart3.t (h : Apart3 v vk lo hi g N) : v.ownBlock = none ∨ v.ownBlock ≠ vk.ownBlock := by
  cases hv : v.ownBlock with
  | none => exact .inl rfl
  | some b => exact .inr (fun e => h.2.2 b hv e.symm)
theorem Apart3.left (h : Apart3 v vk lo hi g N) (ha : v'.ownBlock = v.ownBlock ∨ v'.ownBlock = some B) (hB : N ≤ B) (hk : ∀ b, vk.ownBlock = some b → b < B) : Apart3 v' vk lo hi g N := by
  rcases ha with ha | ha
  · unfold Apart3; rw [ha]; exact h
  · refine ⟨fun b hb => ?_, h.2.1, fun b hb e => ?_⟩
    · rw [ha] at hb; injection hb with hb; omega
    · rw [ha] at hb; injection hb with hb; have := hk b e; omega
theorem Apart3.right (h : Apart3 v vk lo hi g N) (ha : vk'.ownBlock = vk.ownBlock ∨ vk'.ownBlock = some B) (hB : N ≤ B) (hk : ∀ b, v.ownBlock = some b → b < B) : Apart3 v vk' lo hi g N := by
  rcases ha with ha | ha
  · unfold Apart3; rw [ha]; exact h
  · refine ⟨h.1, fun b hb => ?_, fun b hb e => ?_⟩
    · rw [ha] at hb; injection hb with hb; omega
    · rw [ha] at e; injection e with e; have := hk b hb; omega
end

theorem rowIs_own {w : World} {g : Nat} {t : List PairV} (h : w.rowIs g 38 t.length (fun i => .int .u64 (keyAt t i))) (hl : t.length ≤ maxLen) : w.ownsRow g 38 1 (.slice (some ⟨g, 0, none⟩) t.length t.length) t.length ((t.map (·.key)).flatMap encU1) := by
  obtain ⟨c, hc, hs, hf⟩ := h
  refine ⟨by rw [flat_length (enc := encU1) (size := 1) (fun _ => rfl)]; simp, .inr ⟨g, t.length, c, rfl, Nat.le_refl _, hc, Nat.le_refl _, hl, by omega, ?_⟩⟩
  refine List.ext_getElem? fun j => ?_
  rw [List.getElem?_take]
  split
  · rename_i hj
    rw [Nat.mul_one] at hj
    have h1 := hf j hj
    have hx : (t.map (·.key))[j]? = some (keyAt t j) := by
      rw [List.getElem?_map, List.getElem?_eq_getElem hj]
      simp [keyAt, hj]
    have h2 := flat_at (enc := encU1) (n := 1) (fun _ => rfl) (t.map (·.key)) j _ hx 0 _ rfl
    rw [Nat.mul_one, Nat.add_zero] at h2
    rw [h2]
    simpa using h1
  · rename_i hj
    rw [List.getElem?_eq_none]
    rw [flat_length (enc := encU1) (size := 1) (fun _ => rfl)]
    simp at hj ⊢
    omega

set_option maxRecDepth 100000 in
set_option maxHeartbeats 6000000 in
theorem law_FoldMemory (kind : Int) (a b : List PairV) (A B : Option Addr) (ca cb : Nat) (w : World) (ha : RowOf PairV.cells 3 w w.heap.size A a) (hb : RowOf PairV.cells 3 w w.heap.size B b)
    (wa : ∀ p ∈ a, (Lit.int .u64 p.key).wf = true) (wb : ∀ p ∈ b, (Lit.int .u64 p.key).wf = true) (la : a.length ≤ 1048576) (lb : b.length ≤ 1048576) :
    Calls Try.prog 6 #[.int .i64 kind, .slice A a.length ca, .slice B b.length cb] w fun e w' => e = .returned (.bool true) ∧ Below w.heap.size w w' := by
  obtain ⟨i0, hi0, hi1, hi2, hi3⟩ := pair_info
  obtain ⟨j0, hj0, hj1, hj2, hj3⟩ := u64_info
  obtain ⟨CS, hCS, hmk⟩ := make_pairs a.length (by omega)
  have RA := Lib.hid ha
  have RB := Lib.hid hb
  have WA := Lib.hid wa
  have WB := Lib.hid wb
  have HCS := Lib.hid hCS
  clear ha hb wa wb hCS
  go_enter Try.func6, Try.ntmps6
  go_wp2_with fail
  refine (law_awake _).mono ?_
  rintro e w1 ⟨rfl, hb⟩
  have C := Lib.hid hb
  have RA := Lib.hid (RA.out.nx hb)
  have RB := Lib.hid (RB.out.nx hb)
  have hz1 := hb.size
  clear hb
  have bm : Below w1.heap.size w1 (w1.alloc (.cells CS 47)) := (Below.refl _ _).alloc (Nat.le_refl _) _
  have D := Lib.hid bm
  clear bm
  have HO0 := Lib.hid (World.ownsRow_made (base := w1.heap.size) (e := 47) (size := 3) w1 CS (a.length + 4) (Nat.le_refl _) (by unfold maxLen; omega) HCS.out)
  go_wp2_with (first
    | (at_builtin; refine wpList_append_any _ rfl _ _ 28 rfl w1.heap.size 47 i0 (.agg #[.int .u64 0, .bool false, .int .u64 0]) 3 24 Try.underlying28 hi0 hi1 hi2 hi3 rfl (by decide) _ 0 _ rfl HO0.out w1.heap.size A a.length ca (a.flatMap PairV.cells) rfl (reads_row (fun _ => rfl) (by decide) (RA.out.below D.out)) (one_pairs a) (by unfold maxLen; omega) (by omega) (by simp) ?_; intro v1 w2 hown1 hgr1 hat1))
  simp only [Nat.zero_add, List.nil_append] at hown1
  have D := Lib.hid (D.out.grown hgr1 (by simp) (fun j hj => by cases hj; exact Nat.le_refl _))
  have HO1 := Lib.hid hown1
  clear hown1 hgr1 hat1
  have hz2 : w1.heap.size ≤ w2.heap.size := D.out.size
  clear hmk
  go_wp2_with (first
    | (go_at_call 18; refine (law_pair _ _ _).mono ?_; rintro e wp ⟨rfl, hbp⟩; have D := Lib.hid (below_call hbp D.out); have HO1 := Lib.hid (own_nx HO1.out hbp); clear hbp)
    | (at_builtin; refine wpList_append_any _ rfl _ _ 28 rfl w1.heap.size 47 i0 (.agg #[.int .u64 0, .bool false, .int .u64 0]) 3 24 Try.underlying28 hi0 hi1 hi2 hi3 rfl (by decide) _ a.length _ rfl (HO1.out.alloc _) (wp.heap.size + 1) _ 4 4 (lits.flatMap PairV.cells) rfl (reads_blkn (n := 4) (Blk.new wp 47 (lits.flatMap PairV.cells).toArray) rfl) (one_pairs lits) (by unfold maxLen; omega) (by omega) (by have := D.out.size; simp; omega) ?_; intro v2 w3 hown2 hgr2 hat2; obtain ⟨g, cm, rfl, hg1, hg2, hgc, hgm⟩ := own_form hown2 (by omega); have hgI : (a.length : Int) ≤ (cm : Int) := (by omega); have hgM : (cm : Int) ≤ 9223372036854775807 := (by unfold maxLen at hgm; omega)))
  have D := Lib.hid ((D.out.alloc D.out.size _).grown hgr2 (by have := D.out.size; simp; omega) (fun j hj => ownsRow_base HO1.out hj))
  have hown2' : w3.ownsRow w1.heap.size 47 3 (.slice (some ⟨g, 0, none⟩) (a ++ lits).length cm) (a ++ lits).length ((a ++ lits).flatMap PairV.cells) := by
    rw [List.flatMap_append, List.length_append]
    exact hown2
  obtain ⟨A', cap', hA', hRM⟩ := RowBt.of_own (enc := PairV.cells) (l := a ++ lits) (fun _ => rfl) hown2'
  obtain rfl : A' = some ⟨g, 0, none⟩ := by injection hA' with h; exact h.symm
  have hRX := hRM.take a.length
  rw [List.take_left] at hRX
  have hR4 := hRM.drop a.length
  rw [List.drop_left, Nat.zero_add] at hR4
  have RX := Lib.hid hRX
  have R4 := Lib.hid hR4
  have hz3 : w1.heap.size ≤ w3.heap.size := D.out.size
  clear hown2 hown2' hgr2 hat2 hA' hRM hRX hR4 HO1 HO0
  refine (fold_Add_any kind a b (some ⟨g, 0, none⟩) B cm cb _ (RX.out.row (Nat.le_refl _)) ((RB.out.below D.out).more D.out.size) WA.out WB.out (by omega) (by omega)).mono ?_
  rintro e w6 ⟨t, At, ct, rfl, hit, hownt, hb6⟩
  have D := Lib.hid (below_call hb6 D.out)
  have RX := Lib.hid (RX.out.call (Nat.le_refl _) hb6)
  have R4 := Lib.hid (R4.out.call (Nat.le_refl _) hb6)
  have hz6 : w3.heap.size ≤ w6.heap.size := hb6.size
  have OT := Lib.hid hownt
  have H6 := Lib.hid (fun hn => own_form hownt hn)
  have H7 := Lib.hid hownt.lt
  have IT := Lib.hid hit
  clear hb6 hownt hit
  go_wp2_with fail
  refine (fold_Add_any kind a b (some ⟨g, 0, none⟩) B cm cb _ (RX.out.row hz6) ((RB.out.below D.out).more D.out.size) WA.out WB.out (by omega) (by omega)).mono ?_
  rintro e w7 ⟨u, Au, cu, rfl, hiu, hownu, hb7⟩
  obtain rfl : u = t := hiu.uniq IT.out
  have D := Lib.hid (below_call hb7 D.out)
  have RX := Lib.hid (RX.out.call hz6 hb7)
  have R4 := Lib.hid (R4.out.call hz6 hb7)
  have OT := Lib.hid (own_nx OT.out hb7)
  obtain ⟨Au', _, hAu, hRU⟩ := RowBt.of_own (enc := PairV.cells) (l := u) (fun _ => rfl) hownu
  obtain rfl : Au = Au' := by injection hAu with h
  have RU := Lib.hid hRU
  have hz7 : w6.heap.size ≤ w7.heap.size := hb7.size
  have htl := IT.out.len
  clear hb7 hownu hiu hAu hRU
  go_wp2_with fail
  refine (fold_Keys a (some ⟨g, 0, none⟩) cm w7 (RX.out.row (by omega)) (by omega)).mono ?_
  rintro e w8 ⟨rfl, hk8, hb8⟩
  have D := Lib.hid (below_call hb8 D.out)
  have RX := Lib.hid (RX.out.call (by omega) hb8)
  have R4 := Lib.hid (R4.out.call (by omega) hb8)
  have OT := Lib.hid (own_nx OT.out hb8)
  have RU := Lib.hid (RU.out.call (Nat.le_refl _) hb8)
  have OK := Lib.hid (rowIs_own hk8 (by unfold maxLen; omega))
  have hz8 : w7.heap.size < w8.heap.size := hk8.lt
  clear hb8 hk8
  go_wp2_with fail
  refine (fold_Keys a (some ⟨g, 0, none⟩) cm w8 (RX.out.row (by omega)) (by omega)).mono ?_
  rintro e w9 ⟨rfl, hk9, hb9⟩
  have D := Lib.hid (below_call hb9 D.out)
  have RX := Lib.hid (RX.out.call (by omega) hb9)
  have R4 := Lib.hid (R4.out.call (by omega) hb9)
  have OT := Lib.hid (own_nx OT.out hb9)
  have RU := Lib.hid (RU.out.call (by omega) hb9)
  have OK := Lib.hid (own_nx OK.out hb9)
  have RL := Lib.hid ((rowOf_keys hk9 : RowOf encU1 1 w9 w9.heap.size (some ⟨w8.heap.size, 0, none⟩) (a.map (·.key))))
  have hRL : RowBt encU1 1 w9 w8.heap.size w9.heap.size (some ⟨w8.heap.size, 0, none⟩) (a.map (·.key)) := fun hn => by
    obtain ⟨b, off, e, h1, h2⟩ := RL.out hn
    refine ⟨b, off, e, ?_, h1, h2⟩
    injection e with e
    injection e with e
    omega
  have RL := Lib.hid hRL
  clear hRL
  have hz9 : w8.heap.size < w9.heap.size := hk9.lt
  clear hb9 hk9
  go_wp2_with (first
    | (at_builtin; refine wpList_append_any _ rfl _ _ 28 rfl w9.heap.size 47 i0 (.agg #[.int .u64 0, .bool false, .int .u64 0]) 3 24 Try.underlying28 hi0 hi1 hi2 hi3 rfl (by decide) _ 0 _ rfl (World.ownsRow_lit (base := w9.heap.size) (size := 3) w9 #[] 0 (Nat.le_refl _) (by decide) rfl) w9.heap.size Au u.length cu (u.flatMap PairV.cells) rfl (reads_row (fun _ => rfl) (by decide) ((RU.out.row (by omega)).below ((Below.refl _ _).alloc (Nat.le_refl _) _))) (one_pairs u) (by unfold maxLen; omega) (by omega) (by simp) ?_; intro v3 w10 hown3 hgr3 hat3; obtain ⟨Aw, cw, rfl, hRW⟩ := RowBt.of_own (enc := PairV.cells) (l := u) (fun _ => rfl) (by simpa using hown3); have RW := Lib.hid hRW; have hb10 : Below w9.heap.size w9 w10 := (((Below.refl _ _).alloc (Nat.le_refl _) _).grown hgr3 (by simp) (fun j hj => by cases hj; exact Nat.le_refl _)); have H10 := Lib.hid hb10; clear hown3 hgr3 hat3 hRW hb10)
    | (at_builtin; refine wpList_append_any _ rfl _ _ 52 rfl w10.heap.size 38 j0 (.int .u64 0) 1 8 Try.underlying52 hj0 hj1 hj2 hj3 rfl (by decide) _ 0 _ rfl (World.ownsRow_lit (base := w10.heap.size) (size := 1) w10 #[] 0 (Nat.le_refl _) (by decide) rfl) w10.heap.size (some ⟨w8.heap.size, 0, none⟩) a.length a.length ((a.map (·.key)).flatMap encU1) rfl (reads_keys_new RL.out H10.out (List.length_map _)) (one_keys _) (by unfold maxLen; omega) (by omega) (by simp) ?_; intro v4 w11 hown4 hgr4 hat4))
  obtain ⟨An, cn, hv4, hRN⟩ := RowBt.of_own (enc := encU1) (l := a.map (·.key)) (e := 38) (v := v4) (fun _ => rfl) (by simpa using hown4)
  rw [List.length_map] at hv4
  subst hv4
  have RN := Lib.hid hRN
  have hb11 : Below w10.heap.size w10 w11 := (((Below.refl _ _).alloc (Nat.le_refl _) _).grown hgr4 (by simp) (fun j hj => by cases hj; exact Nat.le_refl _))
  have hb10 := H10.out
  have hz10 := hb10.size
  have hz11 := hb11.size
  have D := Lib.hid (below_call hb10 D.out)
  have RX := Lib.hid (RX.out.call (by omega) hb10)
  have R4 := Lib.hid (R4.out.call (by omega) hb10)
  have OT := Lib.hid (own_nx OT.out hb10)
  have RU := Lib.hid (RU.out.call (by omega) hb10)
  have OK := Lib.hid (own_nx OK.out hb10)
  have RL := Lib.hid (RL.out.call (by omega) hb10)
  have D := Lib.hid (below_call hb11 D.out)
  have RX := Lib.hid (RX.out.call (by omega) hb11)
  have R4 := Lib.hid (R4.out.call (by omega) hb11)
  have OT := Lib.hid (own_nx OT.out hb11)
  have RU := Lib.hid (RU.out.call (by omega) hb11)
  have OK := Lib.hid (own_nx OK.out hb11)
  have RL := Lib.hid (RL.out.call (by omega) hb11)
  have RW := Lib.hid (RW.out.call (Nat.le_refl _) hb11)
  clear hown4 hgr4 hat4 hRN hb10 hb11 H10
  go_loopw [17] (fun i wr => ∃ k : Nat, k ≤ u.length ∧ i = .int .i64 k ∧ (∃ xs, wr.ownsRow w3.heap.size 47 3 (.slice At u.length ct) u.length xs) ∧ (∃ ys, wr.ownsRow w7.heap.size 38 1 (.slice (some ⟨w7.heap.size, 0, none⟩) a.length a.length) a.length ys) ∧ Aside w11 w3.heap.size w6.heap.size w7.heap.size wr ∧ Below w1.heap.size w1 wr) (fun i _ => u.length - (intOf i).toNat)
  case atStart => exact ⟨0, Nat.zero_le _, rfl, ⟨_, OT.out⟩, ⟨_, OK.out⟩, Aside.refl _ _ _ _, D.out⟩
  case round =>
    obtain ⟨k, hk, rfl, ⟨xs, hot⟩, ⟨ys, hok⟩, has, hd⟩ := hrel
    have HOT := Lib.hid hot
    have HOK := Lib.hid hok
    have HAS := Lib.hid has
    have HD := Lib.hid hd
    clear hot hok has hd
    by_cases hlt : k < u.length
    · obtain ⟨gt, capt, hAt, hlo, hhi, _⟩ := H6.out (by omega)
      obtain rfl : At = some ⟨gt, 0, none⟩ := by injection hAt
      clear hAt
      have hkI : (k : Int) < (u.length : Int) := by omega
      have hk0 : (0 : Int) ≤ (k : Int) := by omega
      go_wp2_with (first
        | (go_at_call 18; refine (law_pair _ _ _).mono ?_; rintro e wp2 ⟨rfl, hbp⟩; have HOT := Lib.hid (own_nx HOT.out hbp); have HOK := Lib.hid (own_nx HOK.out hbp); have HAS := Lib.hid (HAS.out.call hbp); have HD := Lib.hid (below_call hbp HD.out); clear hbp; obtain ⟨y0, hy0⟩ := own_at HOT.out (show k * 3 < u.length * 3 by omega); obtain ⟨y1, hy1⟩ := own_at HOT.out (show k * 3 + 1 < u.length * 3 by omega); obtain ⟨y2, hy2⟩ := own_at HOT.out (show k * 3 + 2 < u.length * 3 by omega); have hfz := fun j => HOT.out.frozenAt j))
      go_roundw
      case rel =>
        have k1 := HOT.out.stored (k * 3) (.int .u64 99)
        have k2 := k1.1.stored (k * 3 + 1) (.bool true)
        have k3 := k2.1.stored (k * 3 + 2) (.int .u64 9)
        have hne : (Value.slice (some ⟨w7.heap.size, 0, none⟩) a.length a.length).ownBlock = none ∨ (Value.slice (some ⟨w7.heap.size, 0, none⟩) a.length a.length).ownBlock ≠ some gt := .inr (fun e => by injection e with e; have e : w7.heap.size = gt := e; omega)
        exact ⟨k + 1, by omega, by go_num, ⟨_, k3.1⟩, ⟨_, ((HOK.out.kept k1.2 hne).kept k2.2 hne).kept k3.2 hne⟩, ((HAS.out.set (.inl ⟨hlo, hhi⟩) _).set (.inl ⟨hlo, hhi⟩) _).set (.inl ⟨hlo, hhi⟩) _, ((HD.out.setCell (by simp; omega) _).setCell (by simp; omega) _).setCell (by simp; omega) _⟩
      case measure => simp [intOf]; omega
    · obtain ⟨wo, rfl⟩ : ∃ wo : World, wo = wr := ⟨_, rfl⟩
      go_wp2_with fail
      go_loopw [18] (fun i wr => ∃ k : Nat, k ≤ a.length ∧ i = .int .i64 k ∧ (∃ xs, wr.ownsRow w3.heap.size 47 3 (.slice At u.length ct) u.length xs) ∧ (∃ ys, wr.ownsRow w7.heap.size 38 1 (.slice (some ⟨w7.heap.size, 0, none⟩) a.length a.length) a.length ys) ∧ Aside w11 w3.heap.size w6.heap.size w7.heap.size wr ∧ Below w1.heap.size w1 wr) (fun i _ => a.length - (intOf i).toNat)
      case atStart => exact ⟨0, Nat.zero_le _, rfl, ⟨_, HOT.out⟩, ⟨_, HOK.out⟩, HAS.out, HD.out⟩
      case round =>
        clear HOT HOK HAS HD
        obtain ⟨m, hm, rfl, ⟨xs, hot⟩, ⟨ys, hok⟩, has, hd⟩ := hrel
        have HOT := Lib.hid hot
        have HOK := Lib.hid hok
        have HAS := Lib.hid has
        have HD := Lib.hid hd
        clear hot hok has hd
        by_cases hlm : m < a.length
        · have hmI : (m : Int) < (a.length : Int) := by omega
          have hm0 : (0 : Int) ≤ (m : Int) := by omega
          obtain ⟨y0, hy0⟩ := own_at HOK.out (show m < a.length * 1 by omega)
          have hfz := fun j => HOK.out.frozenAt j
          go_wp2
          go_roundw
          case rel =>
            have k1 := HOK.out.stored m (.int .u64 98)
            have hne : (Value.slice At u.length ct).ownBlock = none ∨ (Value.slice At u.length ct).ownBlock ≠ some w7.heap.size := .inr (fun e => by have := H7.out _ e; omega)
            exact ⟨m + 1, by omega, by go_num, ⟨_, HOT.out.kept k1.2 hne⟩, ⟨_, k1.1⟩, HAS.out.set (.inr (.inl rfl)) _, HD.out.setCell (by simp; omega) _⟩
          case measure => simp [intOf]; omega
        · obtain ⟨wo, rfl⟩ : ∃ wo : World, wo = wr := ⟨_, rfl⟩
          have hap : Apart3 (.slice At u.length ct) (.slice (some ⟨w7.heap.size, 0, none⟩) a.length a.length) w3.heap.size w6.heap.size w7.heap.size w11.heap.size :=
            ⟨fun b hb => .inl (H7.out b hb), fun b hb => .inl (by injection hb with hb; exact hb.symm), fun b hb e => by have := H7.out b hb; injection e with e; have e : w7.heap.size = b := e; omega⟩
          have HAP := Lib.hid hap
          clear hap
          go_wp2_with fail
          go_loopw [9, 13, 19] (fun v vk i wr => ∃ j : Nat, j ≤ 9 ∧ i = .int .i64 j ∧ (∃ xs, wr.ownsRow w3.heap.size 47 3 v (u.length + j) xs) ∧ (∃ ys, wr.ownsRow w7.heap.size 38 1 vk (a.length + j) ys) ∧ Aside w11 w3.heap.size w6.heap.size w7.heap.size wr ∧ Below w1.heap.size w1 wr ∧ Apart3 v vk w3.heap.size w6.heap.size w7.heap.size w11.heap.size) (fun _ _ i _ => 9 - (intOf i).toNat)
          case atStart => exact ⟨0, Nat.zero_le _, rfl, ⟨_, HOT.out⟩, ⟨_, HOK.out⟩, HAS.out, HD.out, HAP.out⟩
          case round =>
            clear HOT HOK HAS HD HAP
            obtain ⟨j, hj, rfl, ⟨xs, hot⟩, ⟨ys, hok⟩, has, hd, hap⟩ := hrel
            have HOT := Lib.hid hot
            have HOK := Lib.hid hok
            have HAS := Lib.hid has
            have HD := Lib.hid hd
            have HAP := Lib.hid hap
            clear hot hok has hd hap
            by_cases hlj : j < 9
            · have hjI : (j : Int) < 9 := by omega
              go_wp2_with (first
                | (go_at_call 18; refine (law_pair _ _ _).mono ?_; rintro e wp2 ⟨rfl, hbp⟩; have HOT := Lib.hid (own_nx HOT.out hbp); have HOK := Lib.hid (own_nx HOK.out hbp); have HAS := Lib.hid (HAS.out.call hbp); have HD := Lib.hid (below_call hbp HD.out); clear hbp)
                | (at_builtin; refine wpList_append_any _ rfl _ _ 28 rfl w3.heap.size 47 i0 (.agg #[.int .u64 0, .bool false, .int .u64 0]) 3 24 Try.underlying28 hi0 hi1 hi2 hi3 rfl (by decide) _ (u.length + j) _ rfl (HOT.out.alloc _) (wp2.heap.size + 1) _ 1 1 [.int .u64 97, .bool true, .int .u64 7] rfl (reads_blkn (n := 1) (Blk.new wp2 47 #[.int .u64 97, .bool true, .int .u64 7]) rfl) (fun x hx => by simp at hx; rcases hx with rfl | rfl | rfl <;> rfl) (by unfold maxLen; omega) (by omega) (by have := HAS.out.1; simp; omega) ?_; intro v' w12 hot' hgr hat; have hs1 := HAS.out.1; have HOK2 := Lib.hid ((HOK.out.alloc _).kept hgr HAP.out.k); have HOT2 := Lib.hid hot'; have HAS2 := Lib.hid ((HAS.out.alloc _).grown hgr hgr.size (fun b hb => by have := HAP.out.1 b hb; omega)); have HD2 := Lib.hid ((HD.out.alloc HD.out.size _).grown hgr (by have := HD.out.size; simp; omega) (fun b hb => by have := (HOT.out.lt b hb).1; omega)); have HAP2 := Lib.hid (HAP.out.left hat (by simp; omega) (fun b hb => by have := (HOK.out.lt b hb).2; simp; omega)); clear hot' hgr hat hs1)
                | (at_builtin; refine wpList_append_any _ rfl _ _ 52 rfl w7.heap.size 38 j0 (.int .u64 0) 1 8 Try.underlying52 hj0 hj1 hj2 hj3 rfl (by decide) _ (a.length + j) _ rfl (HOK2.out.alloc _) (w12.heap.size + 1) _ 1 1 [.int .u64 96] rfl (reads_blkn (n := 1) (Blk.new w12 38 #[.int .u64 96]) rfl) (fun x hx => by simp at hx; subst hx; rfl) (by unfold maxLen; omega) (by omega) (by have := HAS2.out.1; simp; omega) ?_; intro vk' w13 hok' hgr hat))
              go_roundw
              case rel =>
                have hs2 := HAS2.out.1
                exact ⟨j + 1, by omega, by go_num, ⟨_, (HOT2.out.alloc _).kept hgr HAP2.out.t⟩, ⟨_, hok'⟩, (HAS2.out.alloc _).grown hgr hgr.size (fun b hb => by have := HAP2.out.2.1 b hb; omega), (HD2.out.alloc HD2.out.size _).grown hgr (by have := HD2.out.size; simp; omega) (fun b hb => by have := (HOK2.out.lt b hb).1; omega), HAP2.out.right hat (by simp; omega) (fun b hb => by have := (HOT2.out.lt b hb).2; simp; omega)⟩
              case measure => simp [intOf]; omega
            · obtain rfl : j = 9 := by omega
              obtain ⟨gv, cv, rfl, _⟩ := own_form HOT.out (by omega)
              obtain ⟨gk, ck, rfl, _⟩ := own_form HOK.out (by omega)
              have hs1 := HAS.out.1
              have RX := Lib.hid ((RX.out.aside HAS.out (by omega) (by omega) (by omega)).row (B := wr.heap.size) (by omega))
              have R4 := Lib.hid ((R4.out.aside HAS.out (by omega) (by omega) (by omega)).row (B := wr.heap.size) (by omega))
              have RU := Lib.hid ((RU.out.aside HAS.out (by omega) (by omega) (by omega)).row (B := wr.heap.size) (by omega))
              have RL := Lib.hid ((RL.out.aside HAS.out (by omega) (by omega) (by omega)).row (B := wr.heap.size) (by omega))
              have RW := Lib.hid ((RW.out.aside HAS.out (by omega) (by omega) (by omega)).row (B := wr.heap.size) (by omega))
              have RN := Lib.hid ((RN.out.aside HAS.out (by omega) (by omega) (by omega)).row (B := wr.heap.size) (by omega))
              have RA := Lib.hid ((RA.out.below HD.out).more HD.out.size)
              have hKC := fun w h1 h2 => law_keys (a.map (·.key)) (a.map (·.key)) (some ⟨w8.heap.size, 0, none⟩) An a.length cn w h1 h2 (by rw [List.length_map]; omega)
              rw [List.length_map, decide_eq_true rfl] at hKC
              have HKC := Lib.hid hKC
              clear hKC
              have KB : Below wr.heap.size wr wr := Below.refl _ _
              have hcI : (a.length : Int) ≤ ((a.length : Int) + 4) := by omega
              have hcN : ¬ cm = a.length := by omega
              have CF := Lib.hid (below_call HD.out C.out)
              clear hs1 HOT HOK HAS HD HAP
              have hw1 : IntKind.i64.wrap ((u.length : Int) + 9) = (u.length : Int) + 9 := by rw [IntKind.wrap_i64]; omega
              have hw2 : IntKind.i64.wrap ((a.length : Int) + 9) = (a.length : Int) + 9 := by rw [IntKind.wrap_i64]; omega
              go_wp2
              go_region_held (fun _ => True) (trivial) (first
                | (go_at_call 18; refine (law_pair _ _ _).mono ?_; rintro e wx ⟨rfl, hbx⟩; have KB := below_call hbx (by first | exact KB | exact KB.drew); have hzx := KB.size; clear hbx)
                | (go_at_call_of 13 Aw; refine (same_eq u u Au Aw cu cw _ rfl ?_ ?_ (by omega)).mono ?_; exact RU.out.nx (by ((repeat' (first | exact Below.refl _ _ | assumption | refine below_drewN ?_ _ | refine Below.drew ?_ | refine Below.setCell ?_ ?_ _ | refine Below.alloc ?_ ?_ _ | (refine Below.trans ?_ (Below.mono (by assumption) ?_)))) <;> (first | (simp; done) | (simp; omega) | omega))); exact RW.out.nx (by ((repeat' (first | exact Below.refl _ _ | assumption | refine below_drewN ?_ _ | refine Below.drew ?_ | refine Below.setCell ?_ ?_ _ | refine Below.alloc ?_ ?_ _ | (refine Below.trans ?_ (Below.mono (by assumption) ?_)))) <;> (first | (simp; done) | (simp; omega) | omega))); rintro e wx ⟨rfl, hbx⟩; have KB := below_call hbx (by first | exact KB | exact KB.drew); have hzx := KB.size; clear hbx)
                | (go_at_call 20; refine (HKC.out _ ?_ ?_).mono ?_; exact RL.out.nx (by ((repeat' (first | exact Below.refl _ _ | assumption | refine below_drewN ?_ _ | refine Below.drew ?_ | refine Below.setCell ?_ ?_ _ | refine Below.alloc ?_ ?_ _ | (refine Below.trans ?_ (Below.mono (by assumption) ?_)))) <;> (first | (simp; done) | (simp; omega) | omega))); exact RN.out.nx (by ((repeat' (first | exact Below.refl _ _ | assumption | refine below_drewN ?_ _ | refine Below.drew ?_ | refine Below.setCell ?_ ?_ _ | refine Below.alloc ?_ ?_ _ | (refine Below.trans ?_ (Below.mono (by assumption) ?_)))) <;> (first | (simp; done) | (simp; omega) | omega))); rintro e wx ⟨rfl, hbx⟩; have KB := below_call hbx (by first | exact KB | exact KB.drew); have hzx := KB.size; clear hbx)
                | (go_at_call_of 13 A; refine (same_eq a a (some ⟨g, 0, none⟩) A cm ca _ rfl ?_ ?_ (by omega)).mono ?_; exact RX.out.nx (by ((repeat' (first | exact Below.refl _ _ | assumption | refine below_drewN ?_ _ | refine Below.drew ?_ | refine Below.setCell ?_ ?_ _ | refine Below.alloc ?_ ?_ _ | (refine Below.trans ?_ (Below.mono (by assumption) ?_)))) <;> (first | (simp; done) | (simp; omega) | omega))); exact RA.out.nx (by ((repeat' (first | exact Below.refl _ _ | assumption | refine below_drewN ?_ _ | refine Below.drew ?_ | refine Below.setCell ?_ ?_ _ | refine Below.alloc ?_ ?_ _ | (refine Below.trans ?_ (Below.mono (by assumption) ?_)))) <;> (first | (simp; done) | (simp; omega) | omega))); rintro e wx ⟨rfl, hbx⟩; have KB := below_call hbx (by first | exact KB | exact KB.drew); have hzx := KB.size; clear hbx)
                | (go_at_call 13; ((with_reducible refine (same_lits (some ⟨g, a.length * 3, none⟩) (cm - a.length) wx ?_).mono ?_); exact R4.out.nx KB; rintro e wy ⟨rfl, hbx⟩; have KB := below_call hbx KB; have hzx := KB.size; clear hbx)))
              all_goals
                go_wp2
                go_ret
                exact ⟨rfl, below_call KB CF.out⟩

end Go.Proofs.Ytifpcjpmannddaa
