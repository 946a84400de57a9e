/- The walks of the package ops: a step of a record. -/
import Derived.Test.YtifpcjpmannddaaOp1
namespace Go.Proofs.Ytifpcjpmannddaa
open Go.Proofs Go.RowKit
attribute [local go_sem] run_store_float

/-- The key that a step gives. -/
def keyF (o : OpV) (r : RecV) : Int :=
  if o.kind = 11 then r.key % o.n
  else if o.kind = 12 then r.key % 4611686018427387904 * 4 + oside (canon r.val)
  else r.key

/-- A step of a record: none: it traps; false: it is dropped. -/
def applyF (o : OpV) (r : RecV) : Option (RecV × Bool) := (turnF o (canon r.val)).map fun y => (⟨keyF o r, canon y.1⟩, y.2)

def ApplyIs (r : Option (RecV × Bool)) (w : World) (e : Ending) (w' : World) : Prop :=
  Below w.heap.size w w' ∧ match r with
  | some (y, b) => e = .returned (.tuple #[.agg #[.int .u64 y.key, .float .f64 y.val], .bool b])
  | none => ∃ u v, e = .panicked [{ v := .iface u v, recovered := false }]

theorem turn_some {k n : Int} {ox x y : Nat} {b : Bool} (hx : canon x = x) (h : turnF ⟨k, n, ox⟩ x = some (y, b)) (w : World) :
    Calls Try.prog 44 #[.agg #[.int .i64 k, .int .i64 n, .float .f64 ox], .float .f64 x] w fun e w' => Below w.heap.size w w' ∧ ∃ z, e = .returned (.tuple #[.float .f64 z, .bool b]) ∧ canon z = canon y := by
  have := ops_turn k n ox x hx w
  rw [h] at this
  exact this
theorem turn_none {k n : Int} {ox x : Nat} (hx : canon x = x) (h : turnF ⟨k, n, ox⟩ x = none) (w : World) :
    Calls Try.prog 44 #[.agg #[.int .i64 k, .int .i64 n, .float .f64 ox], .float .f64 x] w fun e w' => Below w.heap.size w w' ∧ ∃ u v, e = .panicked [{ v := .iface u v, recovered := false }] := by
  have := ops_turn k n ox x hx w
  rw [h] at this
  exact this

theorem oside_le (x : Nat) : 0 ≤ oside x ∧ oside x ≤ 3 := by unfold oside; repeat (first | (split <;> try omega)); all_goals omega

theorem three_new' (w : World) (T0 T1 T2 : TypeId) (c0 c1 c2 : Array Value) : Blk (((w.alloc (.cells c0 T0)).alloc (.cells c1 T1)).alloc (.cells c2 T2)) (w.heap.size + 1) T1 c1 ∧ Blk (((w.alloc (.cells c0 T0)).alloc (.cells c1 T1)).alloc (.cells c2 T2)) (w.heap.size + 2) T2 c2 ∧
    Below w.heap.size w (((w.alloc (.cells c0 T0)).alloc (.cells c1 T1)).alloc (.cells c2 T2)) := by
  refine ⟨?_, ?_, (((Below.refl _ _).alloc (Nat.le_refl _) _).alloc (by simp) _).alloc (by simp; omega) _⟩
  · have := (Blk.new (w.alloc (.cells c0 T0)) T1 c1).alloc (.cells c2 T2)
    simpa using this
  · have := Blk.new ((w.alloc (.cells c0 T0)).alloc (.cells c1 T1)) T2 c2
    simpa using this

set_option maxHeartbeats 2000000 in
theorem apply_11 (n : Int) (ox : Nat) (key : Int) (v : Nat) (hn : 1 ≤ n) (hn' : n ≤ 9223372036854775807) (hk : 0 ≤ key) (hk' : key ≤ 18446744073709551615) (w : World) :
    Calls Try.prog 38 #[.agg #[.int .i64 11, .int .i64 n, .float .f64 ox], .agg #[.int .u64 key, .float .f64 v]] w (ApplyIs (applyF ⟨11, n, ox⟩ ⟨key, v⟩) w) := by
  have hK : keyF ⟨11, n, ox⟩ ⟨key, v⟩ = key % n := by simp [keyF]
  obtain ⟨k1, k2, b0⟩ := three_new' w 57 41 41 #[.int .i64 11, .int .i64 n, .float .f64 ox] #[.int .u64 (key % n), .float .f64 v] #[.int .u64 0, .float .f64 0]
  have K1 := Lib.hid k1
  have K2 := Lib.hid k2
  have B0 := Lib.hid b0
  clear k1 k2 b0
  cases ht : turnF ⟨11, n, ox⟩ (canon v) with
  | none =>
    have hr : applyF ⟨11, n, ox⟩ ⟨key, v⟩ = none := by simp [applyF, ht]
    rw [hr]
    have HT := Lib.hid (turn_none (canon_canon v) ht)
    clear ht hr hK
    go_enter Try.func38, Try.ntmps38
    go_wp2_with (first
      | (go_at_call 33; refine (fbit_Canon _ _).mono ?_; rintro e w' ⟨rfl, rfl⟩)
      | (go_at_call 44; refine (HT.out _).mono ?_; rintro e w1 ⟨hb1, u, pv, rfl⟩))
    exact ⟨rfl, below_call hb1 B0.out, u, pv, rfl⟩
  | some y =>
    obtain ⟨y, b⟩ := y
    have hr : applyF ⟨11, n, ox⟩ ⟨key, v⟩ = some (⟨key % n, canon y⟩, b) := by simp [applyF, ht, hK]
    rw [hr]
    have HT := Lib.hid (turn_some (canon_canon v) ht)
    clear ht hr hK
    go_enter Try.func38, Try.ntmps38
    go_wp2_with (first
      | (go_at_call 33; refine (fbit_Canon _ _).mono ?_; rintro e w' ⟨rfl, rfl⟩)
      | (go_at_call 44; refine (HT.out _).mono ?_; rintro e w1 ⟨hb1, z, rfl, hz⟩; have HZ := Lib.hid hz; have k1 := Blk.call hb1 K1.out; have k2 := Blk.call hb1 K2.out; have b2 := Lib.hid (below_call hb1 B0.out); have c10 := k1.cell 0; have c11 := k1.cell 1; have c20 := k2.cell 0; have c21 := k2.cell 1; have f1 := fun i => k1.frozen i; have f2 := fun i => k2.frozen i; clear hz hb1 k1 k2; simp at c10 c11 c20 c21))
    refine bodyPost_ret (v := .tuple #[.agg #[.int .u64 (key % n), .float .f64 (canon z)], .bool b]) (by simp [results, Try.results38, go_sem, c20, c21]) rfl ⟨((b2.out.setCell (by simp) _).setCell (by simp; omega) _).setCell (by simp; omega) _, ?_⟩
    rw [HZ.out]


set_option maxHeartbeats 2000000 in
theorem apply_12 (n : Int) (ox : Nat) (key : Int) (v : Nat) (hk : 0 ≤ key) (_hk' : key ≤ 18446744073709551615) (w : World) :
    Calls Try.prog 38 #[.agg #[.int .i64 12, .int .i64 n, .float .f64 ox], .agg #[.int .u64 key, .float .f64 v]] w (ApplyIs (applyF ⟨12, n, ox⟩ ⟨key, v⟩) w) := by
  have hK : keyF ⟨12, n, ox⟩ ⟨key, v⟩ = key % 4611686018427387904 * 4 + oside (canon v) := by simp [keyF]
  obtain ⟨k1, k2, b0⟩ := three_new' w 57 41 41 #[.int .i64 12, .int .i64 n, .float .f64 ox] #[.int .u64 (key % 4611686018427387904 * 4 + oside (canon v)), .float .f64 v] #[.int .u64 0, .float .f64 0]
  have hs := oside_le (canon v)
  have e1 : key.tmod 4611686018427387904 = key % 4611686018427387904 := Int.tmod_eq_emod_of_nonneg hk
  have e2 : IntKind.u64.wrap (key % 4611686018427387904 * 4) = key % 4611686018427387904 * 4 := by show _ % (18446744073709551616 : Int) = _; omega
  have e3 : IntKind.u64.wrap (key % 4611686018427387904 * 4 + oside (canon v)) = key % 4611686018427387904 * 4 + oside (canon v) := by show _ % (18446744073709551616 : Int) = _; omega
  have K1 := Lib.hid k1
  have K2 := Lib.hid k2
  have B0 := Lib.hid b0
  clear k1 k2 b0
  cases ht : turnF ⟨12, n, ox⟩ (canon v) with
  | none =>
    have hr : applyF ⟨12, n, ox⟩ ⟨key, v⟩ = none := by simp [applyF, ht]
    rw [hr]
    have HT := Lib.hid (turn_none (canon_canon v) ht)
    clear ht hr hK
    go_enter Try.func38, Try.ntmps38
    go_wp2_with (go_at_call 33; refine (fbit_Canon _ _).mono ?_; rintro e w' ⟨rfl, rfl⟩)
    go_region_with (go_at_call 43; refine (ops_side _ _).mono ?_; rintro e w' ⟨rfl, rfl⟩)
    all_goals
      go_wp2_with (first
        | (go_at_call 33; refine (fbit_Canon _ _).mono ?_; rintro e w' ⟨rfl, rfl⟩)
        | (go_at_call 44; refine (HT.out _).mono ?_; rintro e w1 ⟨hb1, u, pv, rfl⟩))
      exact ⟨rfl, below_call hb1 B0.out.drew, u, pv, rfl⟩
  | some y =>
    obtain ⟨y, b⟩ := y
    have hr : applyF ⟨12, n, ox⟩ ⟨key, v⟩ = some (⟨key % 4611686018427387904 * 4 + oside (canon v), canon y⟩, b) := by simp [applyF, ht, hK]
    rw [hr]
    have HT := Lib.hid (turn_some (canon_canon v) ht)
    clear ht hr hK
    go_enter Try.func38, Try.ntmps38
    go_wp2_with (go_at_call 33; refine (fbit_Canon _ _).mono ?_; rintro e w' ⟨rfl, rfl⟩)
    go_region_with (go_at_call 43; refine (ops_side _ _).mono ?_; rintro e w' ⟨rfl, rfl⟩)
    all_goals
      go_wp2_with (first
        | (go_at_call 33; refine (fbit_Canon _ _).mono ?_; rintro e w' ⟨rfl, rfl⟩)
        | (go_at_call 44; refine (HT.out _).mono ?_; rintro e w1 ⟨hb1, z, rfl, hz⟩; have HZ := Lib.hid hz; have k1 := Blk.call hb1 K1.out; have k2 := Blk.call hb1 K2.out; have b2 := Lib.hid (below_call hb1 B0.out.drew); have c10 := k1.cell 0; have c11 := k1.cell 1; have c20 := k2.cell 0; have c21 := k2.cell 1; have f1 := fun i => k1.frozen i; have f2 := fun i => k2.frozen i; clear hz hb1 k1 k2; simp at c10 c11 c20 c21))
      refine bodyPost_ret (v := .tuple #[.agg #[.int .u64 (key % 4611686018427387904 * 4 + oside (canon v)), .float .f64 (canon z)], .bool b]) (by simp [results, Try.results38, go_sem, c20, c21]) rfl ⟨((b2.out.setCell (by simp) _).setCell (by simp; omega) _).setCell (by simp; omega) _, ?_⟩
      rw [HZ.out]


set_option maxHeartbeats 2000000 in
theorem apply_else (k n : Int) (ox : Nat) (key : Int) (v : Nat) (h11 : ¬ k = 11) (h12 : ¬ k = 12) (_hk : 0 ≤ key) (_hk' : key ≤ 18446744073709551615) (w : World) :
    Calls Try.prog 38 #[.agg #[.int .i64 k, .int .i64 n, .float .f64 ox], .agg #[.int .u64 key, .float .f64 v]] w (ApplyIs (applyF ⟨k, n, ox⟩ ⟨key, v⟩) w) := by
  have hK : keyF ⟨k, n, ox⟩ ⟨key, v⟩ = key := by simp [keyF, h11, h12]
  obtain ⟨k1, k2, b0⟩ := three_new' w 57 41 41 #[.int .i64 k, .int .i64 n, .float .f64 ox] #[.int .u64 (key), .float .f64 v] #[.int .u64 0, .float .f64 0]
  have e11 : (k == 11) = false := by simp; omega
  have e12 : (k == 12) = false := by simp; omega
  clear h11 h12
  have K1 := Lib.hid k1
  have K2 := Lib.hid k2
  have B0 := Lib.hid b0
  clear k1 k2 b0
  cases ht : turnF ⟨k, n, ox⟩ (canon v) with
  | none =>
    have hr : applyF ⟨k, n, ox⟩ ⟨key, v⟩ = none := by simp [applyF, ht]
    rw [hr]
    have HT := Lib.hid (turn_none (canon_canon v) ht)
    clear ht hr hK
    go_enter Try.func38, Try.ntmps38
    go_wp2_with (first
      | (go_at_call 33; refine (fbit_Canon _ _).mono ?_; rintro e w' ⟨rfl, rfl⟩)
      | (go_at_call 44; refine (HT.out _).mono ?_; rintro e w1 ⟨hb1, u, pv, rfl⟩))
    exact ⟨rfl, below_call hb1 B0.out, u, pv, rfl⟩
  | some y =>
    obtain ⟨y, b⟩ := y
    have hr : applyF ⟨k, n, ox⟩ ⟨key, v⟩ = some (⟨key, canon y⟩, b) := by simp [applyF, ht, hK]
    rw [hr]
    have HT := Lib.hid (turn_some (canon_canon v) ht)
    clear ht hr hK
    go_enter Try.func38, Try.ntmps38
    go_wp2_with (first
      | (go_at_call 33; refine (fbit_Canon _ _).mono ?_; rintro e w' ⟨rfl, rfl⟩)
      | (go_at_call 44; refine (HT.out _).mono ?_; rintro e w1 ⟨hb1, z, rfl, hz⟩; have HZ := Lib.hid hz; have k1 := Blk.call hb1 K1.out; have k2 := Blk.call hb1 K2.out; have b2 := Lib.hid (below_call hb1 B0.out); have c10 := k1.cell 0; have c11 := k1.cell 1; have c20 := k2.cell 0; have c21 := k2.cell 1; have f1 := fun i => k1.frozen i; have f2 := fun i => k2.frozen i; clear hz hb1 k1 k2; simp at c10 c11 c20 c21))
    refine bodyPost_ret (v := .tuple #[.agg #[.int .u64 (key), .float .f64 (canon z)], .bool b]) (by simp [results, Try.results38, go_sem, c20, c21]) rfl ⟨((b2.out.setCell (by simp) _).setCell (by simp; omega) _).setCell (by simp; omega) _, ?_⟩
    rw [HZ.out]



/-- A record that may be stored. -/
def RecV.Ok (r : RecV) : Prop := 0 ≤ r.key ∧ r.key ≤ 18446744073709551615
def OpV.Ok (o : OpV) : Prop := o.n ≤ 9223372036854775807 ∧ isStep o = true

theorem ops_apply (o : OpV) (r : RecV) (ho : o.Ok) (hr : r.Ok) (w : World) :
    Calls Try.prog 38 #[.agg #[.int .i64 o.kind, .int .i64 o.n, .float .f64 o.x], .agg #[.int .u64 r.key, .float .f64 r.val]] w (ApplyIs (applyF o r) w) := by
  obtain ⟨k, n, ox⟩ := o
  obtain ⟨key, v⟩ := r
  by_cases h11 : k = 11
  · subst h11
    refine apply_11 n ox key v ?_ ho.1 hr.1 hr.2 w
    have := ho.2
    simpa [isStep] using this
  · by_cases h12 : k = 12
    · subst h12
      exact apply_12 n ox key v hr.1 hr.2 w
    · exact apply_else k n ox key v h11 h12 hr.1 hr.2 w

theorem applyF_ok {o : OpV} {r r' : RecV} {b : Bool} (ho : o.Ok) (hr : r.Ok) (h : applyF o r = some (r', b)) : r'.Ok := by
  obtain ⟨k, n, ox⟩ := o
  obtain ⟨key, v⟩ := r
  unfold applyF at h
  rw [Option.map_eq_some_iff] at h
  obtain ⟨y, _, hy⟩ := h
  injection hy with hy _
  subst hy
  have hs := oside_le (canon v)
  have h1 := hr.1
  have h2 := hr.2
  unfold RecV.Ok keyF
  dsimp only at h1 h2 ⊢
  split
  · rename_i e
    have hn : 1 ≤ n := by have := ho.2; simpa [isStep, e] using this
    exact ⟨Int.emod_nonneg _ (by omega), Int.le_trans (Int.le_of_lt (Int.emod_lt_of_pos _ (by omega))) (by have := ho.1; dsimp only at this; omega)⟩
  · split <;> omega

end Go.Proofs.Ytifpcjpmannddaa
