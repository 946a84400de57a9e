/- FoldTraps, where what it reads is of bulk at most 1048576: it returns true; its argument reads as it did. No condition besides. -/
import Derived.Test.YtifpcjpmannddaaRows
import Derived.Test.YtifpcjpmannddaaBulk
import Derived.Test.YtifpcjpmannddaaOpn
import Derived.Test.YtifpcjpmannddaaLtr
import Derived.WalkKit
import Derived.ProofKit
import Derived.OpenShut
import Derived.JoinedCond
namespace Go.Proofs.Ytifpcjpmannddaa
open Go.ChangeShapes Go.WideShapes Go.ChangeAt Go.RowKit Go.Joins

theorem kown : ownKnob Try.prog.godebug = none := by kernel_rfl
theorem klaid : laidOutB Try.prog = true := by kernel_rfl

set_option maxRecDepth 100000 in
theorem open_job {H : Type} {enc : TypeId × Value → H} {W : World} {v : Value} {d : DataW H} {p : List MemPlace} (hv : Value.okWide Try.prog W .any 0 25 v) (h : DataW.Trod enc Try.prog W 0 (fun _ => true) true 25 v d p) (hk : Rows.uptoBulk d ≤ 1048576) :
    ∃ (l : List OpV) (A : Option Addr) (cap : Nat) (kind : Int) (recs : List RecV) (A' : Option Addr) (cap' : Nat) (at_ : Int), v = jobV A l.length cap kind A' recs.length cap' at_ ∧ RowOf OpV.cells 3 W W.heap.size A l ∧ RowOf RecV.cells 2 W W.heap.size A' recs ∧
      (∀ o ∈ l, o.n ≤ 9223372036854775807) ∧ RecsOk recs ∧ recs.length ≤ 1048576 ∧ l.length ≤ 1048576 ∧ recs.length ≤ cap' ∧ cap' ≤ maxLen := by
  obtain ⟨v0, v1, v2, v3, y0, y1, y2, y3, n, rfl, rfl, _, h0, h1, h2, h3⟩ := open_agg4 Try.underlying25 (by kernel_rfl) (by kernel_rfl) hv h
  obtain ⟨l, A, cap, rfl, hr, ho, _, _, hl⟩ := open_ops h0
  obtain ⟨kind, rfl, _⟩ := trod_int1 Try.underlying3 h1
  obtain ⟨recs, A', cap', rfl, hr', hrk, hc, hcm, hl'⟩ := open_recs h2
  obtain ⟨at_, rfl, _⟩ := trod_int1 Try.underlying3 h3
  simp only [Rows.uptoBulk, Rows.uptoBulkAll] at hk
  have e1 : l.length ≤ 1048576 := by
    obtain ⟨ds, sp, ⟨e, e'⟩ | e⟩ := hl
    · have := bulks.slice_le ds sp
      rw [← e'] at this
      omega
    · rw [e]; simp
  have e2 : recs.length ≤ 1048576 := by
    obtain ⟨ds, sp, ⟨e, e'⟩ | e⟩ := hl'
    · have := bulks.slice_le ds sp
      rw [← e'] at this
      omega
    · rw [e]; simp
  exact ⟨l, A, cap, kind, recs, A', cap', at_, rfl, hr, hr', ho, hrk, e2, e1, hc, hcm⟩

set_option maxRecDepth 100000 in
theorem foldTraps_contract (H : Type) (enc : TypeId × Value → H) (W : World) (base : Nat) (args : Array Value) (ds gs : List (DataW H)) (before : List MemPlace)
    (hval : ∀ (j : Nat) t v, Try.f4.params[j]? = some t → args[j]? = some v → Value.okWide Try.prog W .any base t v)
    (hW : DataW.Whole enc Try.prog Try.f4.params.toList Rows.foldTrapsSpec.vars false W args.toList ds gs before) (hk : Rows.uptoSmall H (ds ++ gs) = true) :
    Calls Try.prog 4 args W fun e W' => ∃ v, e = .returned v ∧ Rows.foldTrapsSpec.post enc Try.prog Try.f4 false true false false W args v W' := by
  have hW' := hW
  have hlt := hW.lt
  have hb := bulks.bound hk
  obtain ⟨p, q, hA0, hV, rfl, hfz, hnd⟩ := hW
  have hA : DataW.TrodAll enc Try.prog W 0 (fun _ => true) true Try.f4.params.toList args.toList ds p := hA0
  rw [Try.params4] at hA hval
  obtain ⟨v0, vs0, d0, ds0, p0, q0, hargs, rfl, rfl, h0, r0⟩ := trodAll_cons hA
  obtain ⟨rfl, rfl, rfl⟩ := trodAll_nil r0
  obtain rfl : args = #[v0] := by cases args; simp_all
  obtain ⟨rfl, rfl⟩ := trodVars_none hV
  simp only [List.append_nil] at hW' hlt hb
  have hd : Rows.uptoBulk d0 ≤ 1048576 := by simpa [Rows.uptoBulkAll] using hb
  obtain ⟨l, A, cap, kind, recs, A', cap', at_, rfl, hr, hr', ho, hrk, h1, h2, h3, h4⟩ := open_job (hval 0 _ v0 rfl rfl) h0 hd
  refine (law_FoldTraps l A cap kind recs A' cap' at_ W hr hr' ho hrk (by omega) (by omega)).mono fun e W' ⟨he, hbl⟩ => ?_
  subst he
  exact ⟨_, rfl, post_of_below (pa := p0 ++ []) (pv := []) hW' (fun _ _ _ => trodAll_cons_mk (shut_bool Try.underlying4 _) trodAll_mk0)
    (fun sp hsp => trodAll_cons_mk (WideElems.Trod_stays klaid (by kernel_rfl) (of_decide_eq_true (by kernel_rfl)) h0 (fun x hx => hbl.same (hlt x hx)) (fun x hx => hsp x hx)) trodAll_mk0)
    (fun _ _ => rfl) (by simp) hbl (ok_one (by kernel_rfl) rfl (okWide_bool_mk Try.underlying4 _))⟩

set_option maxRecDepth 100000 in
theorem foldTraps_lifted (os : Os) (started : os.Started) (H : Type) (enc : TypeId × Value → H) (F : Stop.Interp) :
    ReturnsInHanded {} Try.checked os 4 .any ((Rows.OpenSpec.upto Rows.foldTrapsSpec).pre6 enc Try.prog Try.f4 Rows.foldTrapsUptoRow.domain false) (((Rows.OpenSpec.upto Rows.foldTrapsSpec).at F).post enc Try.prog Try.f4 false true false false) := by
  refine returnsInHanded_of_cond (C := Try.checked) (s := Rows.OpenSpec.upto Rows.foldTrapsSpec) (k := Rows.uptoSmall) rfl kown started (by kernel_rfl) Try.func4
    (OpenSpec.witness (enc := enc) (C := Try.checked) (s := Rows.OpenSpec.upto Rows.foldTrapsSpec) (k := Rows.uptoSmall) rfl false ⟨#[], #[.agg #[.slice none 0 0, .int .i64 0, .slice none 0 0, .int .i64 0]], []⟩ 8 (by kernel_rfl) (by kernel_rfl) (by kernel_rfl)
      (x := ([.agg [.nil, .lit (.int .i64 0), .nil, .lit (.int .i64 0)]], [], [])) (by kernel_rfl) rfl (by kernel_rfl)) ?_
  intro W base args ds gs before hval hW _ hk _
  exact foldTraps_contract H enc W base args ds gs before hval hW hk

theorem foldTraps_upto : Rows.FoldTrapsUptoSaid :=
  OpenClaim.holds_of_cond 4 Try.f4 rfl rfl rfl rfl rfl rfl rfl ⟨rfl, rfl, rfl, rfl, rfl⟩ rfl rfl rfl rfl rfl (by kernel_rfl) Try.func4 (by kernel_rfl)
    (of_decide_eq_true (by kernel_rfl)) (by unfold Func.isWrapper; first | (rw [if_pos (by decide +kernel)]; kernel_rfl) | (rw [if_neg (by decide +kernel)]; exact ⟨rfl, rfl⟩))
    (fun os started H enc _ F => foldTraps_lifted os started H enc F)

end Go.Proofs.Ytifpcjpmannddaa
