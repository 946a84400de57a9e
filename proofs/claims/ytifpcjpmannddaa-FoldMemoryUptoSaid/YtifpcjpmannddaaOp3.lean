/- The walks of the package ops: a record through a pipeline; what traps is caught. -/
import Derived.Test.YtifpcjpmannddaaOp2
import Derived.Defers
import Derived.Recover
namespace Go.Proofs.Ytifpcjpmannddaa
open Go.Proofs Go.RowKit
attribute [local go_sem] run_store_float

/-- What becomes of a record. -/
inductive Fate where
  | kept (r : RecV)
  | dropped
  | trapped
  deriving DecidableEq

def throughF : List OpV → RecV → Fate
  | [], r => .kept r
  | o :: os, r => match applyF o r with
    | none => .trapped
    | some (_, false) => .dropped
    | some (r', true) => throughF os r'
def Fate.rec_ : Fate → RecV
  | .kept r => r
  | _ => ⟨0, 0⟩
def Fate.num : Fate → Int
  | .kept _ => 1
  | .dropped => 2
  | .trapped => 3

/-- The deferred function behind a panic. -/
theorem catch_panicking (b c : Nat) (k f n : Value) (u : TypeId) (pv : Value) (w : World) (h0 : w.cell? ⟨b, 0, none⟩ = some k) (h1 : w.cell? ⟨b, 1, none⟩ = some f) (h2 : w.cell? ⟨c, 0, none⟩ = some n)
    (z0 : ∀ i, w.frozen? ⟨b, i, none⟩ = false) (z1 : ∀ i, w.frozen? ⟨c, i, none⟩ = false) (hbc : b ≠ c) :
    CallsD Try.prog 37 #[.pointer (some ⟨b, 0, none⟩), .pointer (some ⟨c, 0, none⟩)] (.panicking [{ v := .iface u pv, recovered := false }]) w fun e u' w' =>
      e = .returned (.tuple #[]) ∧ u' = .panicking [{ v := .iface u pv, recovered := true }] ∧ w' = ((w.setCell ⟨b, 0, none⟩ (.int .u64 0)).setCell ⟨b, 1, none⟩ (.float .f64 0)).setCell ⟨c, 0, none⟩ (.int .i64 3) := by
  refine callsD_of_wpS Try.func37 rfl fun c₀ cs hu => ?_
  apply wpS_seq
  apply wpS_region
  simp [wpOpsS, go_sem, recoverD, hu, Try.ntmps37, Exit.thenS]
  refine wpS_cond (t := true) (by simp [Act.eval, Array.replicate]) ?_
  simp only [if_true]
  apply wpS_region
  simp [wpOpsS, go_sem, h0, h1, h2, z0, z1, bodyPostS, results, Try.results37]

theorem catch_idle (b c : Nat) (w : World) :
    CallsD Try.prog 37 #[.pointer (some ⟨b, 0, none⟩), .pointer (some ⟨c, 0, none⟩)] .returning w fun e u' w' => e = .returned (.tuple #[]) ∧ u' = .returning ∧ w' = w := by
  refine callsD_of_wpS Try.func37 rfl fun c₀ cs hu => ?_
  apply wpS_seq
  apply wpS_region
  simp [wpOpsS, go_sem, recoverD, hu, Try.ntmps37, Exit.thenS]
  refine wpS_cond (t := false) (by simp [Act.eval, Array.replicate]) ?_
  simp only [Bool.false_eq_true, if_false]
  refine wpS_of_wp (wp_skip ?_)
  cases c₀
  simp_all [bodyPostS, results, Try.results37]

theorem apply_some {o : OpV} {r r' : RecV} {b : Bool} (ho : o.Ok) (hr : r.Ok) (h : applyF o r = some (r', b)) (w : World) :
    Calls Try.prog 38 #[.agg #[.int .i64 o.kind, .int .i64 o.n, .float .f64 o.x], .agg #[.int .u64 r.key, .float .f64 r.val]] w fun e w' => Below w.heap.size w w' ∧ e = .returned (.tuple #[.agg #[.int .u64 r'.key, .float .f64 r'.val], .bool b]) := by
  have := ops_apply o r ho hr w
  rw [h] at this
  exact this
theorem apply_none {o : OpV} {r : RecV} (ho : o.Ok) (hr : r.Ok) (h : applyF o r = none) (w : World) :
    Calls Try.prog 38 #[.agg #[.int .i64 o.kind, .int .i64 o.n, .float .f64 o.x], .agg #[.int .u64 r.key, .float .f64 r.val]] w fun e w' => Below w.heap.size w w' ∧ ∃ u v, e = .panicked [{ v := .iface u v, recovered := false }] := by
  have := ops_apply o r ho hr w
  rw [h] at this
  exact this

set_option maxHeartbeats 4000000 in
theorem ops_through (l : List OpV) (A : Option Addr) (cap : Nat) (r : RecV) (w : World) (hr : RowOf OpV.cells 3 w w.heap.size A l) (hl : l.length ≤ 8) (ho : ∀ o ∈ l, o.Ok) (hk : r.Ok) (F : Fate) (hF : throughF l ⟨r.key, canon r.val⟩ = F) :
    Calls Try.prog 25 #[.slice A l.length cap, .agg #[.int .u64 r.key, .float .f64 r.val]] w fun e w' =>
      e = .returned (.tuple #[.agg #[.int .u64 F.rec_.key, .float .f64 F.rec_.val], .int .i64 F.num]) ∧ Below w.heap.size w w' := by
  have hmf : ∀ (fn : Fn) (first cap : Array Value) (w : World), (Instr.makeFunc fn first cap).run Try.prog w = .ok (.func fn first cap) w := fun _ _ _ _ => rfl
  have HR := Lib.hid hr
  have HF := Lib.hid hF
  have HO := Lib.hid ho
  clear hr hF ho
  obtain ⟨b0, k1, k2⟩ := three_new' w 41 41 3 #[.int .u64 r.key, .float .f64 (canon r.val)] #[.int .u64 0, .float .f64 0] #[.int .i64 0]
  have k0 := ((Blk.new w 41 #[.int .u64 r.key, .float .f64 (canon r.val)]).alloc (.cells #[.int .u64 0, .float .f64 0] 41)).alloc (.cells #[.int .i64 0] 3)
  have KK := Lib.hid (And.intro k0 (And.intro b0 (And.intro k1 k2)))
  clear k0 b0 k1 k2
  go_enter_defers Try.func25, Try.ntmps25
  go_wp2_with (first
      | (go_at_call 33; refine (fbit_Canon _ _).mono ?_; rintro e w' ⟨rfl, rfl⟩))
  go_loopw [17] (fun i wr => ∃ (k : Nat) (rk : RecV), k ≤ l.length ∧ i = .int .i64 k ∧ Blk wr w.heap.size 41 #[.int .u64 rk.key, .float .f64 rk.val] ∧ Blk wr (w.heap.size + 1) 41 #[.int .u64 0, .float .f64 0] ∧
      Blk wr (w.heap.size + 2) 3 #[.int .i64 0] ∧ rk.Ok ∧ throughF (l.drop k) rk = F ∧ Below w.heap.size w wr) (fun i _ => l.length - (intOf i).toNat)
  case atStart =>
    obtain ⟨k0, b0, k1, k2⟩ := KK.out
    exact ⟨0, ⟨r.key, canon r.val⟩, Nat.zero_le _, rfl, k0, b0, k1, hk, HF.out, k2⟩
  case round =>
    obtain ⟨k, rk, hkl, rfl, k0, k1, k2, hok, hth, hb⟩ := hrel
    have hz0 : w.heap.size < wr.heap.size := k0.lt
    have hz1 : w.heap.size + 1 < wr.heap.size := k1.lt
    have hz2 : w.heap.size + 1 + 1 < wr.heap.size := k2.lt
    have c00 := k0.cell 0
    have c01 := k0.cell 1
    have c10 := k1.cell 0
    have c11 := k1.cell 1
    have c20 := k2.cell 0
    have f0 := fun i => k0.frozen i
    have f1 := fun i => k1.frozen i
    have f2 := fun i => k2.frozen i
    simp at c00 c01 c10 c11 c20
    have HK := Lib.hid (And.intro k0 (And.intro k1 k2))
    have HT := Lib.hid hth
    clear k0 k1 k2 hth KK HF
    by_cases hlt : k < l.length
    · obtain ⟨b, off, o, rfl, hbl, hx, hc0, hc⟩ := (HR.out.below hb).at_ hlt
      obtain ⟨kd, n, x⟩ := o
      have c0 := hc0 _ rfl
      have c1 := hc 1 _ rfl
      have c2 := hc 2 _ rfl
      have hz := hb.size
      have hoo := HO.out _ (List.mem_of_getElem? hx)
      have HX := Lib.hid hx
      clear hc hc0 hx
      have hdr : throughF (l.drop k) rk = match applyF ⟨kd, n, x⟩ rk with | none => .trapped | some (_, false) => .dropped | some (r', true) => throughF (l.drop (k + 1)) r' := by
        have : l.drop k = ⟨kd, n, x⟩ :: l.drop (k + 1) := by
          rw [List.drop_eq_getElem_cons hlt]
          have := HX.out
          rw [List.getElem?_eq_getElem hlt] at this
          injection this with this
          rw [this]
        rw [this]
        rfl
      cases ha : applyF ⟨kd, n, x⟩ rk with
      | none =>
        rw [ha] at hdr
        have HA := Lib.hid (apply_none hoo hok ha)
        have HD := Lib.hid (HT.out.symm.trans hdr)
        clear hdr ha HT HX
        go_wp2_with (first
          | (go_at_call 38; refine (HA.out _).mono ?_; rintro e w1 ⟨hb1, u, pv, rfl⟩; have k0 := Blk.call hb1 (HK.out.1.alloc _); have k1 := Blk.call hb1 (HK.out.2.1.alloc _); have k2 := Blk.call hb1 (HK.out.2.2.alloc _); have B1 := Lib.hid (below_call hb1 (hb.alloc hb.size _)); have c00 := k0.cell 0; have c01 := k0.cell 1; have c10 := k1.cell 0; have c11 := k1.cell 1; have c20 := k2.cell 0; have f0 := fun i => k0.frozen i; have f1 := fun i => k1.frozen i; have f2 := fun i => k2.frozen i; have hz0 : w.heap.size < w1.heap.size := k0.lt; have hz1 : w.heap.size + 1 < w1.heap.size := k1.lt; have hz2 : w.heap.size + 1 + 1 < w1.heap.size := k2.lt; simp at c00 c01 c10 c11 c20; have HK1 := Lib.hid (And.intro k0 (And.intro k1 k2)); clear hb1 k0 k1 k2))
        refine leaves_cons (f := 37) (args := #[.pointer (some ⟨w.heap.size + 1, 0, none⟩), .pointer (some ⟨w.heap.size + 1 + 1, 0, none⟩)]) (by simp) (by simp [go_sem]) ?_
        refine (catch_panicking (w.heap.size + 1) (w.heap.size + 1 + 1) _ _ _ u pv _ (by simpa using c10) (by simpa using c11) (by simpa using c20) (by simpa using f1) (by simpa using f2) (by simp)).mono ?_
        rintro e u' w'' ⟨rfl, rfl, rfl⟩
        simp [Leaves, settle, results, Try.results25, go_sem, c10, c11, c20, HD.out, Fate.rec_, Fate.num]
        exact ((B1.out.setCell (by simp) _).setCell (by simp) _).setCell (by simp; omega) _
      | some y =>
        obtain ⟨r', bb⟩ := y
        rw [ha] at hdr
        have hok' := applyF_ok hoo hok ha
        have HA := Lib.hid (apply_some hoo hok ha)
        have HD := Lib.hid (HT.out.symm.trans hdr)
        clear hdr ha HT HX
        cases bb
        · go_wp2_with (first
            | (go_at_call 38; refine (HA.out _).mono ?_; rintro e w1 ⟨hb1, rfl⟩; have k0 := Blk.call hb1 (HK.out.1.alloc _); have k1 := Blk.call hb1 (HK.out.2.1.alloc _); have k2 := Blk.call hb1 (HK.out.2.2.alloc _); have B1 := Lib.hid (below_call hb1 (hb.alloc hb.size _)); have c00 := k0.cell 0; have c01 := k0.cell 1; have c10 := k1.cell 0; have c11 := k1.cell 1; have c20 := k2.cell 0; have f0 := fun i => k0.frozen i; have f1 := fun i => k1.frozen i; have f2 := fun i => k2.frozen i; have hz0 : w.heap.size < w1.heap.size := k0.lt; have hz1 : w.heap.size + 1 < w1.heap.size := k1.lt; have hz2 : w.heap.size + 1 + 1 < w1.heap.size := k2.lt; simp at c00 c01 c10 c11 c20; have HK1 := Lib.hid (And.intro k0 (And.intro k1 k2)); clear hb1 k0 k1 k2))
          refine leaves_cons (f := 37) (args := #[.pointer (some ⟨w.heap.size + 1, 0, none⟩), .pointer (some ⟨w.heap.size + 1 + 1, 0, none⟩)]) (by simp) (by simp [go_sem]) ?_
          refine (catch_idle _ _ _).mono ?_
          rintro e u' w'' ⟨rfl, rfl, rfl⟩
          simp [Leaves, settle, results, Try.results25, go_sem, c10, c11, c20, hz1, hz2, HD.out, Fate.rec_, Fate.num]
          exact (((B1.out.setCell (by simp) _).setCell (by simp) _).setCell (by simp; omega) _).alloc (by simp; omega) _
        · go_wp2_with (first
            | (go_at_call 38; refine (HA.out _).mono ?_; rintro e w1 ⟨hb1, rfl⟩; have k0 := Blk.call hb1 (HK.out.1.alloc _); have k1 := Blk.call hb1 (HK.out.2.1.alloc _); have k2 := Blk.call hb1 (HK.out.2.2.alloc _); have B1 := Lib.hid (below_call hb1 (hb.alloc hb.size _)); have c00 := k0.cell 0; have c01 := k0.cell 1; have c10 := k1.cell 0; have c11 := k1.cell 1; have c20 := k2.cell 0; have f0 := fun i => k0.frozen i; have f1 := fun i => k1.frozen i; have f2 := fun i => k2.frozen i; have hz0 : w.heap.size < w1.heap.size := k0.lt; have hz1 : w.heap.size + 1 < w1.heap.size := k1.lt; have hz2 : w.heap.size + 1 + 1 < w1.heap.size := k2.lt; simp at c00 c01 c10 c11 c20; have HK1 := Lib.hid (And.intro k0 (And.intro k1 k2)); clear hb1 k0 k1 k2))
          obtain ⟨k0, k1, k2⟩ := HK1.out
          refine ⟨⟨k + 1, r', by omega, by go_num, ((k0.set_ 0 _).set_ 1 _).alloc _, ((k1.far (by simp) _).far (by simp) _).alloc _, ((k2.far (by simp) _).far (by simp) _).alloc _, hok', HD.out.symm, ((B1.out.setCell (Nat.le_refl _) _).setCell (Nat.le_refl _) _).alloc (by simp; omega) _⟩, by simp [intOf]; omega⟩
    · have hk' : k = l.length := by omega
      subst hk'
      go_wp2
      have hF : F = .kept rk := by have := HT.out; rw [List.drop_length] at this; exact this.symm
      refine leaves_cons (f := 37) (args := #[.pointer (some ⟨w.heap.size + 1, 0, none⟩), .pointer (some ⟨w.heap.size + 1 + 1, 0, none⟩)]) (by simp) (by simp [go_sem]) ?_
      refine (catch_idle _ _ _).mono ?_
      rintro e u' w'' ⟨rfl, rfl, rfl⟩
      simp [Leaves, settle, results, Try.results25, go_sem, c10, c11, c20, hF, Fate.rec_, Fate.num]
      exact ((hb.setCell (by simp) _).setCell (by simp) _).setCell (by simp; omega) _

end Go.Proofs.Ytifpcjpmannddaa
