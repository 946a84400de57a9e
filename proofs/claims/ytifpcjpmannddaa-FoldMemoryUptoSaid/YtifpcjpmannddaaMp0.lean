/- The maps of the package fold: what a map holds, key by key; its keys, sorted. -/
import Derived.Test.YtifpcjpmannddaaItr
import Derived.Test.YtifpcjpmannddaaSrt6
import Derived.Test.YtifpcjpmannddaaOp4
import Derived.Maps.OwnOps
namespace Go.Proofs.Ytifpcjpmannddaa
open Go.Proofs Go.RowKit Go.Maps Go.Sort Go.Shelf

def Kr : Ren where
  f := fun n => match n with
    | 6 => 35 | 7 => 36 | 8 => 40 | 9 => 41
    | 10 => 42 | 11 => 49 | _ => 0
  t := fun n => match n with
    | 3 => 45 | 4 => 4 | 23 => 62 | 24 => 52 | 26 => 38 | 27 => 75 | 28 => 76 | 33 => 82 | _ => 0
  g := fun x => x

theorem bears_mk {P : Program} {f : FuncId} {fn B : Func} (h : P.funcs[f]? = some fn) (hn : (fn.name == "runtime.NumGoroutine") = false) (he : fn = { B with name := fn.name }) : Bears P f B := ⟨fn.name, hn, by rw [h]; exact congrArg some he⟩

theorem kb6 : Bears Try.prog (Kr.f 6) (SlBodyZ.n6 Kr) := bears_mk Try.func35 (by kernel_rfl) (by kernel_rfl)
theorem kb7 : Bears Try.prog (Kr.f 7) (SlBodyZ.n7 Kr) := bears_mk Try.func36 (by kernel_rfl) (by kernel_rfl)
theorem kb8 : Bears Try.prog (Kr.f 8) (SlBodyZ.n8 Kr) := bears_mk Try.func40 (by kernel_rfl) (by kernel_rfl)
theorem kb10 : Bears Try.prog (Kr.f 10) (SlBodyZ.n10 Kr) := bears_mk Try.func42 (by kernel_rfl) (by kernel_rfl)
theorem kb11 : Bears Try.prog (Kr.f 11) (SlBodyZ.n11 Kr) := bears_mk Try.func49 (by kernel_rfl) (by kernel_rfl)

theorem kl6 : SlLaysZU.n6 Try.prog Kr where
  mixed := by kernel_rfl
  f6 := kb6
  f8 := kb8
  f11 := kb11
  t0 := Try.underlying0
  a0 := Try.isAgg0
  z0 := Try.sizeOf0
  v0 := Try.zeroValue0
  t24 := Try.underlying52
  a24 := Try.isAgg52
  z24 := Try.sizeOf52
  v24 := Try.zeroValue52
  t26 := Try.underlying38
  a26 := Try.isAgg38
  z26 := Try.sizeOf38
  v26 := Try.zeroValue38
  t28 := Try.underlying76
  a28 := Try.isAgg76
  z28 := Try.sizeOf76
  v28 := Try.zeroValue76
  i26 := by kernel_rfl
theorem kl7 : SlLaysZU.n7 Try.prog Kr where
  mixed := by kernel_rfl
  f7 := kb7
  f10 := kb10
  t0 := Try.underlying0
  a0 := Try.isAgg0
  z0 := Try.sizeOf0
  v0 := Try.zeroValue0
  t4 := Try.underlying4
  a4 := Try.isAgg4
  z4 := Try.sizeOf4
  v4 := Try.zeroValue4
  t23 := Try.underlying62
  a23 := Try.isAgg62
  z23 := Try.sizeOf62
  v23 := Try.zeroValue62
  t26 := Try.underlying38
  a26 := Try.isAgg38
  z26 := Try.sizeOf38
  v26 := Try.zeroValue38
  t27 := Try.underlying75
  a27 := Try.isAgg75
  z27 := Try.sizeOf75
  v27 := Try.zeroValue75
  t28 := Try.underlying76
  a28 := Try.isAgg76
  z28 := Try.sizeOf76
  v28 := Try.zeroValue76
  t33 := Try.underlying82
  a33 := Try.isAgg82
  z33 := Try.sizeOf82
  v33 := Try.zeroValue82
theorem kl8 : SlLaysZU.n8 Try.prog Kr where
  mixed := by kernel_rfl
  f8 := kb8
  f11 := kb11
  t0 := Try.underlying0
  a0 := Try.isAgg0
  z0 := Try.sizeOf0
  v0 := Try.zeroValue0
  t24 := Try.underlying52
  a24 := Try.isAgg52
  z24 := Try.sizeOf52
  v24 := Try.zeroValue52
  t26 := Try.underlying38
  a26 := Try.isAgg38
  z26 := Try.sizeOf38
  v26 := Try.zeroValue38
  t28 := Try.underlying76
  a28 := Try.isAgg76
  z28 := Try.sizeOf76
  v28 := Try.zeroValue76
  i26 := by kernel_rfl
theorem kl10 : SlLaysZU.n10 Try.prog Kr where
  mixed := by kernel_rfl
  f10 := kb10
  t0 := Try.underlying0
  a0 := Try.isAgg0
  z0 := Try.sizeOf0
  v0 := Try.zeroValue0
  t4 := Try.underlying4
  a4 := Try.isAgg4
  z4 := Try.sizeOf4
  v4 := Try.zeroValue4
  t23 := Try.underlying62
  a23 := Try.isAgg62
  z23 := Try.sizeOf62
  v23 := Try.zeroValue62
  t26 := Try.underlying38
  a26 := Try.isAgg38
  z26 := Try.sizeOf38
  v26 := Try.zeroValue38
  t33 := Try.underlying82
  a33 := Try.isAgg82
  z33 := Try.sizeOf82
  v33 := Try.zeroValue82
theorem kl11 : SlLaysZU.n11 Try.prog Kr where
  mixed := by kernel_rfl
  f11 := kb11
  t0 := Try.underlying0
  a0 := Try.isAgg0
  z0 := Try.sizeOf0
  v0 := Try.zeroValue0
  t24 := Try.underlying52
  a24 := Try.isAgg52
  z24 := Try.sizeOf52
  v24 := Try.zeroValue52
  t26 := Try.underlying38
  a26 := Try.isAgg38
  z26 := Try.sizeOf38
  v26 := Try.zeroValue38
  t28 := Try.underlying76
  a28 := Try.isAgg76
  z28 := Try.sizeOf76
  v28 := Try.zeroValue76
  i26 := by kernel_rfl

theorem ksorts (m : Nat) : AnyZU.SortsIn Try.prog Kr Fence.wide m :=
  ⟨fun blk off cap ss W hH hblk hsz => callsIn_wide.2 (Srt.slices_Sort_u blk off cap ss W hH hblk hsz), fun p cap W => callsIn_wide.2 (Srt.Sort_u_nil p cap W)⟩

/-! ### what a map holds -/

/-- How an element reads: itself. -/
def RV : Value → Option (DataW AV × List MemPlace)
  | .agg cs => match cs.toList with
    | [.bool h, .int .u64 n] => some (.held ⟨h, n⟩, [])
    | _ => none
  | _ => none
theorem RV_mk (a : AV) : RV a.v = some (.held a, []) := rfl
theorem RV_inv {v : Value} {a : AV} {ps : List MemPlace} (h : RV v = some (.held a, ps)) : v = a.v := by
  cases v <;> simp only [RV] at h <;> try (cases h; done)
  rename_i cs
  split at h
  · rename_i hb n hc
    simp only [Option.some.injEq, Prod.mk.injEq, DataW.held.injEq] at h
    rw [← h.1]
    show Value.agg cs = Value.agg #[.bool hb, .int .u64 n]
    rw [← hc]
  · cases h

/-- The map of block b, of at most n entries, holds M: where M has no value, the key is absent. -/
def MapIs (w : World) (b n : Nat) (M : Int → AV) : Prop :=
  ∃ D : DataW AV, w.ownsMap Try.prog 38 RV b n D ∧ ∀ x, has D (.int .u64 x) = (M x).has ∧ ((M x).has = true → ∀ zd, D.atKey (.int .u64 x) zd = .held (M x)) ∧ ((M x).has = false → M x = AV.zero)

/-- A map with one key turned. -/
def setM (M : Int → AV) (k : Int) (a : AV) : Int → AV := fun x => if x = k then a else M x

theorem u64_keyed : Keyed Try.prog 38 := int_keyed Try.underlying38

theorem u64_wf {k : Int} (h : 0 ≤ k) (h' : k ≤ 18446744073709551615) : (Lit.int .u64 k).wf = true := by
  have e1 : IntKind.min .u64 = 0 := rfl
  have e2 : IntKind.max .u64 = 18446744073709551615 := rfl
  simp [Lit.wf, e1, e2, h, h']

theorem MapIs.made (w : World) : MapIs (w.alloc (.map #[] 0)) w.heap.size 0 (fun _ => AV.zero) :=
  ⟨.map [], World.ownsMap_made w _ _ _, fun x => ⟨rfl, fun h => absurd h (by simp [AV.zero]), fun _ => rfl⟩⟩
theorem MapIs.kept {w w' : World} {b n : Nat} {M : Int → AV} {row : Option Nat} (h : MapIs w b n M) (hg : w.grownBy w' row) (hne : some b ≠ row) : MapIs w' b n M := by
  obtain ⟨D, ho, hD⟩ := h
  exact ⟨D, ho.kept hg hne, hD⟩
theorem MapIs.lt {w : World} {b n : Nat} {M : Int → AV} (h : MapIs w b n M) : b < w.heap.size := by
  obtain ⟨D, ho, _⟩ := h
  exact ho.lt
theorem MapIs.call {w w' : World} {b n : Nat} {M : Int → AV} (h : MapIs w b n M) (hb : Below w.heap.size w w') : MapIs w' b n M := h.kept (only_of_below hb none) (by simp)
theorem MapIs.alloc {w : World} {b n : Nat} {M : Int → AV} (h : MapIs w b n M) (o : Obj) : MapIs (w.alloc o) b n M := h.kept (World.grownBy_alloc w o none) (by simp)
theorem MapIs.setCell {w : World} {b n : Nat} {M : Int → AV} (h : MapIs w b n M) {p : Addr} (hp : p.block ≠ b) (v : Value) : MapIs (w.setCell p v) b n M := by
  obtain ⟨D, ⟨es, clock, hb, r⟩, hD⟩ := h
  exact ⟨D, ⟨es, clock, (Below.heap_setCell w p v b (Ne.symm hp)).trans hb, r⟩, hD⟩
theorem MapIs.drew {w : World} {b n : Nat} {M : Int → AV} (h : MapIs w b n M) : MapIs w.drew b n M := h
theorem MapIs.mono {w : World} {b n n' : Nat} {M : Int → AV} (h : MapIs w b n M) (hn : n ≤ n') : MapIs w b n' M := by
  obtain ⟨D, ho, hD⟩ := h
  exact ⟨D, ho.mono hn, hD⟩

theorem MapIs.lookup {w : World} {b n : Nat} {M : Int → AV} (h : MapIs w b n M) {k : Int} (hk : (Lit.int .u64 k).wf = true) :
    (Instr.lookup 62 (.map (some b)) (.int .u64 k) false).run Try.prog w = .ok (M k).v w := by
  obtain ⟨D, ho, hD⟩ := h
  obtain ⟨h1, h2, h3⟩ := hD k
  obtain ⟨v, ps, hrun, hv⟩ := ho.lookup u64_keyed (t := 62) Try.underlying62 (Try.zeroValue45 w) (RV_mk AV.zero) (keyOf_int_mk Try.underlying38 hk)
  rw [hrun]
  cases hh : (M k).has
  · rw [hh] at h1
    rw [atKey_of_not_has h1] at hv
    rw [RV_inv hv, h3 hh]
  · rw [h2 hh] at hv
    rw [RV_inv hv]

/-- The world behind a store into a map. -/
noncomputable def upd (w : World) (b : Nat) (k : Int) (h : Bool) (n : Int) : World :=
  match (Instr.mapUpdate 62 (.map (some b)) (.int .u64 k) (.agg #[.bool h, .int .u64 n])).run Try.prog w with
  | .ok _ w' => w'
  | _ => w

theorem MapIs.update {w : World} {b n : Nat} {M : Int → AV} (h : MapIs w b n M) (hn : n < 9223372036854775807) {k : Int} (hk : (Lit.int .u64 k).wf = true) (hb : Bool) (m : Int) :
    (Instr.mapUpdate 62 (.map (some b)) (.int .u64 k) (.agg #[.bool hb, .int .u64 m])).run Try.prog w = .ok () (upd w b k hb m) ∧
      (hb = true → MapIs (upd w b k hb m) b (n + 1) (setM M k ⟨hb, m⟩)) ∧ w.grownBy (upd w b k hb m) (some b) := by
  obtain ⟨D, ho, hD⟩ := h
  have hm : IsMap D := by obtain ⟨es, _, _, _, _, e⟩ := ho; exact ⟨_, e⟩
  obtain ⟨w', hrun, hown, hgr⟩ := ho.update u64_keyed (t := 62) Try.underlying62 (by simpa [maxLen] using hn) (keyOf_int_mk Try.underlying38 hk) (RV_mk ⟨hb, m⟩)
  have hu : upd w b k hb m = w' := by
    unfold upd
    rw [show (Instr.mapUpdate 62 (.map (some b)) (.int .u64 k) (.agg #[.bool hb, .int .u64 m])).run Try.prog w = .ok () w' from hrun]
  rw [hu]
  refine ⟨hrun, fun hbt => ⟨_, hown, fun x => ?_⟩, hgr⟩
  subst hbt
  by_cases hx : x = k
  · subst hx
    have hkl : WideAt.IsKeyLit (.int .u64 x) := u64_keyed.key (keyOf_int_mk Try.underlying38 hk)
    refine ⟨by rw [has_put_same hm hkl]; simp [setM], fun _ zd => by rw [atKey_put_same hm hkl]; simp [setM], fun h => by simp [setM] at h⟩
  · have hne : Lit.int .u64 x ≠ Lit.int .u64 k := by simpa using hx
    have hs : setM M k ⟨true, m⟩ x = M x := by simp [setM, hx]
    rw [hs, has_put_other hne]
    refine ⟨(hD x).1, fun h zd => by rw [atKey_put_other hne]; exact (hD x).2.1 h zd, (hD x).2.2⟩

end Go.Proofs.Ytifpcjpmannddaa
