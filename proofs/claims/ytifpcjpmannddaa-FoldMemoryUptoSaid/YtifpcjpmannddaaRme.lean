/- FoldMemory, where what it reads is of bulk at most 1048576: it returns true; its arguments read as they did. No condition besides. -/
import Derived.Test.YtifpcjpmannddaaRows
import Derived.Test.YtifpcjpmannddaaBulk
import Derived.Test.YtifpcjpmannddaaOpn
import Derived.Test.YtifpcjpmannddaaLme
import Derived.WalkKit
import Derived.ProofKit
import Derived.OpenShut
import Derived.JoinedCond
namespace Go.Proofs.Ytifpcjpmannddaa
open Go.ChangeShapes Go.WideShapes Go.ChangeAt Go.RowKit Go.Joins

theorem trod_bool1 {H : Type} {enc : TypeId × Value → H} {P : Program} {w : World} {base : Nat} {spare : Nat → Bool} {held : Bool} {t : TypeId} {fuel : Nat} {v : Value} {x : DataW H × List MemPlace} (ht : P.underlying t = some .bool) (h : DataW.trod enc P w base spare held fuel t [v] = some x) : ∃ b, v = .bool b := by
  cases fuel with
  | zero => simp [DataW.trod] at h
  | succ n =>
    cases v <;> simp [DataW.trod, ht] at h
    exact ⟨_, rfl⟩

theorem kown : ownKnob Try.prog.godebug = none := by kernel_rfl
theorem klaid : laidOutB Try.prog = true := by kernel_rfl

theorem open_pairs {H : Type} {enc : TypeId × Value → H} {w : World} {base : Nat} {spare : Nat → Bool} {held : Bool} {fuel : Nat} {v : Value} {x : DataW H × List MemPlace} (h : DataW.trod enc Try.prog w base spare held fuel 28 [v] = some x) :
    ∃ (l : List PairV) (A : Option Addr) (cap : Nat), v = .slice A l.length cap ∧ RowOf PairV.cells 3 w w.heap.size A l ∧ (∀ p ∈ l, (Lit.int .u64 p.key).wf = true) ∧ (∃ ds sp : List (DataW H), ds.length = l.length ∧ x.1 = .slice ds sp ∨ l = []) := by
  have hC : Try.prog.cellsOf 47 = 3 := by kernel_rfl
  have c38 : Try.prog.cellsOf 38 = 1 := by kernel_rfl
  have c45 : Try.prog.cellsOf 45 = 2 := by kernel_rfl
  have c4 : Try.prog.cellsOf 4 = 1 := by kernel_rfl
  rcases Go.Deep.open_slice Try.underlying28 h with ⟨h0, _⟩ | ⟨a, len, cap, m, n, D, Pl, h0, _, hlc, hcm, hm, hx, hat⟩
  · simp at h0
    exact ⟨[], none, 0, h0, RowOf.nil, by simp, ⟨[], [], .inr rfl⟩⟩
  · simp at h0
    have hlm : ∀ i, i < len → i < m := fun i hi => by rw [hm]; split <;> omega
    obtain ⟨l, hl, hR⟩ := exists_list (fun i (o : PairV) => (∀ (j : Nat) (u : Value), o.cells[j]? = some u → w.cell? (a.add (i * 3 + j)) = some u) ∧ (Lit.int .u64 o.key).wf = true) len (fun i hi => by
      obtain ⟨cs, hc, ht⟩ := hat i (hlm i hi)
      rw [hC] at hc
      obtain ⟨_, hcl, hcell⟩ := World.cells?_some hc
      match cs, hcl with
      | [c0, c1, c2], _ =>
        obtain ⟨y0, y1, n', _, _, h1, h2⟩ := trod_struct2 Try.underlying47 ht
        obtain ⟨z0, z1, n'', _, _, h3, h4⟩ := trod_struct2 Try.underlying45 h2
        have k0 : DataW.trod enc Try.prog w base spare held n' 38 [c0] = some y0 := by simpa only [c38, c45, c4, List.drop_zero, List.take_succ_cons, List.take_zero, List.drop_succ_cons] using h1
        have k1 : DataW.trod enc Try.prog w base spare held n'' 4 [c1] = some z0 := by simpa only [c38, c45, c4, List.drop_zero, List.take_succ_cons, List.take_zero, List.drop_succ_cons] using h3
        have k2 : DataW.trod enc Try.prog w base spare held n'' 38 [c2] = some z1 := by simpa only [c38, c45, c4, List.drop_zero, List.take_succ_cons, List.take_zero, List.drop_succ_cons] using h4
        obtain ⟨k, rfl, hk⟩ := trod_int1 Try.underlying38 k0
        obtain ⟨b, rfl⟩ := trod_bool1 Try.underlying4 k1
        obtain ⟨q, rfl, _⟩ := trod_int1 Try.underlying38 k2
        refine ⟨⟨k, ⟨b, q⟩⟩, fun j u hu => ?_, hk⟩
        have hj : j < 3 := by have := (List.getElem?_eq_some_iff.1 hu).1; simpa [PairV.cells] using this
        have h5 := hcell j hj
        rw [← Go.Deep.add_add, h5]
        exact hu)
    subst hl
    refine ⟨l, some a, cap, h0, rowOf_mk (by omega) (fun _ => rfl) (fun i x hx => (hR i x hx).1), fun o ho => ?_, ⟨(List.range l.length).map D, _, .inl ⟨by simp, by rw [hx]⟩⟩⟩
    obtain ⟨i, hi, rfl⟩ := List.mem_iff_getElem.1 ho
    exact (hR i _ (List.getElem?_eq_getElem hi)).2

set_option maxRecDepth 100000 in
set_option maxHeartbeats 1000000 in
theorem foldMemory_contract (H : Type) (enc : TypeId × Value → H) (W : World) (base : Nat) (args : Array Value) (ds gs : List (DataW H)) (before : List MemPlace)
    (hval : ∀ (j : Nat) t v, Try.f6.params[j]? = some t → args[j]? = some v → Value.okWide Try.prog W .any base t v)
    (hW : DataW.Whole enc Try.prog Try.f6.params.toList Rows.foldMemorySpec.vars false W args.toList ds gs before) (hk : Rows.uptoSmall H (ds ++ gs) = true) :
    Calls Try.prog 6 args W fun e W' => ∃ v, e = .returned v ∧ Rows.foldMemorySpec.post enc Try.prog Try.f6 false true false false W args v W' := by
  have hW' := hW
  have hlt := hW.lt
  have hb := bulks.bound hk
  obtain ⟨p, q, hA0, hV, rfl, hfz, hnd⟩ := hW
  have hA : DataW.TrodAll enc Try.prog W 0 (fun _ => true) true Try.f6.params.toList args.toList ds p := hA0
  rw [Try.params6] at hA hval
  obtain ⟨v0, vs0, d0, ds0, p0, q0, hargs, rfl, rfl, h0, r0⟩ := trodAll_cons hA
  obtain ⟨v1, vs1, d1, ds1, p1, q1, rfl, rfl, rfl, h1, r1⟩ := trodAll_cons r0
  obtain ⟨v2, vs2, d2, ds2, p2, q2, rfl, rfl, rfl, h2, r2⟩ := trodAll_cons r1
  obtain ⟨rfl, rfl, rfl⟩ := trodAll_nil r2
  obtain rfl : args = #[v0, v1, v2] := by cases args; simp_all
  obtain ⟨rfl, rfl⟩ := trodVars_none hV
  simp only [List.append_nil] at hW' hlt hb
  obtain ⟨kind, rfl, _⟩ := open_int Try.underlying3 (hval 0 _ v0 rfl rfl) h0
  obtain ⟨A1, n1, c1, rfl⟩ := okWide_slice Try.underlying28 (hval 1 _ v1 rfl rfl)
  obtain ⟨A2, n2, c2, rfl⟩ := okWide_slice Try.underlying28 (hval 2 _ v2 rfl rfl)
  obtain ⟨f1, g1⟩ := h1
  obtain ⟨f2, g2⟩ := h2
  obtain ⟨a, A, ca, e1, ha, wa, la⟩ := open_pairs g1
  obtain ⟨b, B, cb, e2, hb', wb, lb⟩ := open_pairs g2
  injection e1 with e1 e1' e1''
  injection e2 with e2 e2' e2''
  subst e1 e1' e1'' e2 e2' e2''
  simp only [Rows.uptoBulkAll] at hb
  have e1 : a.length ≤ 1048576 := by
    obtain ⟨ds, sp, ⟨e, e'⟩ | e⟩ := la
    · have := bulks.slice_le ds sp
      simp only at e'
      rw [← e'] at this
      omega
    · rw [e]; simp
  have e2 : b.length ≤ 1048576 := by
    obtain ⟨ds, sp, ⟨e, e'⟩ | e⟩ := lb
    · have := bulks.slice_le ds sp
      simp only at e'
      rw [← e'] at this
      omega
    · rw [e]; simp
  refine (law_FoldMemory kind a b A1 A2 c1 c2 W ha hb' wa wb e1 e2).mono fun e W' ⟨he, hbl⟩ => ?_
  subst he
  exact ⟨_, rfl, post_of_below (pa := p0 ++ (p1 ++ (p2 ++ []))) (pv := []) hW' (fun _ _ _ => trodAll_cons_mk (shut_bool Try.underlying4 _) trodAll_mk0)
    (fun sp hsp => trodAll_cons_mk (WideElems.Trod_stays klaid (by kernel_rfl) (of_decide_eq_true (by kernel_rfl)) h0 (fun x hx => hbl.same (hlt x (by simp [hx]))) (fun x hx => hsp x (by simp [hx])))
      (trodAll_cons_mk (WideElems.Trod_stays klaid (by kernel_rfl) (of_decide_eq_true (by kernel_rfl)) ⟨f1, g1⟩ (fun x hx => hbl.same (hlt x (by simp [hx]))) (fun x hx => hsp x (by simp [hx])))
        (trodAll_cons_mk (WideElems.Trod_stays klaid (by kernel_rfl) (of_decide_eq_true (by kernel_rfl)) ⟨f2, g2⟩ (fun x hx => hbl.same (hlt x (by simp [hx]))) (fun x hx => hsp x (by simp [hx]))) trodAll_mk0)))
    (fun _ _ => rfl) (by simp) hbl (ok_one (by kernel_rfl) rfl (okWide_bool_mk Try.underlying4 _))⟩

set_option maxRecDepth 100000 in
theorem foldMemory_lifted (os : Os) (started : os.Started) (H : Type) (enc : TypeId × Value → H) (F : Stop.Interp) :
    ReturnsInHanded {} Try.checked os 6 .any ((Rows.OpenSpec.upto Rows.foldMemorySpec).pre6 enc Try.prog Try.f6 Rows.foldMemoryUptoRow.domain false) (((Rows.OpenSpec.upto Rows.foldMemorySpec).at F).post enc Try.prog Try.f6 false true false false) := by
  refine returnsInHanded_of_cond (C := Try.checked) (s := Rows.OpenSpec.upto Rows.foldMemorySpec) (k := Rows.uptoSmall) rfl kown started (by kernel_rfl) Try.func6
    (OpenSpec.witness (enc := enc) (C := Try.checked) (s := Rows.OpenSpec.upto Rows.foldMemorySpec) (k := Rows.uptoSmall) rfl false ⟨#[], #[.int .i64 0, .slice none 0 0, .slice none 0 0], []⟩ 8 (by kernel_rfl) (by kernel_rfl) (by kernel_rfl)
      (x := ([.lit (.int .i64 0), .nil, .nil], [], [])) (by kernel_rfl) rfl (by kernel_rfl)) ?_
  intro W base args ds gs before hval hW _ hk _
  exact foldMemory_contract H enc W base args ds gs before hval hW hk

theorem foldMemory_upto : Rows.FoldMemoryUptoSaid :=
  OpenClaim.holds_of_cond 6 Try.f6 rfl rfl rfl rfl rfl rfl rfl ⟨rfl, rfl, rfl, rfl, rfl⟩ rfl rfl rfl rfl rfl (by kernel_rfl) Try.func6 (by kernel_rfl)
    (of_decide_eq_true (by kernel_rfl)) (by unfold Func.isWrapper; first | (rw [if_pos (by decide +kernel)]; kernel_rfl) | (rw [if_neg (by decide +kernel)]; exact ⟨rfl, rfl⟩))
    (fun os started H enc _ F => foldMemory_lifted os started H enc F)

end Go.Proofs.Ytifpcjpmannddaa
