/- The walk of fold.Add; the refusals. -/
import Derived.Test.YtifpcjpmannddaaBat
namespace Go.Proofs.Ytifpcjpmannddaa
open Go.Proofs Go.RowKit
attribute [local go_sem ↓] Go.wp_at_zero Go.wp_at_succ
attribute [local go_sem] run_store_float

def addStep (kind : Int) (M : Int → AV) (p : PairV) : Int → AV := setM M p.key (aggMerge kind (M p.key) p.val)
/-- What two tables make. -/
def addF (kind : Int) (a b : List PairV) : Int → AV := (a ++ b).foldl (addStep kind) (fun _ => AV.zero)

theorem fold_take {kind : Int} {l : List PairV} {k : Nat} {p : PairV} (M : Int → AV) (h : l[k]? = some p) : (l.take (k + 1)).foldl (addStep kind) M = addStep kind ((l.take k).foldl (addStep kind) M) p := by
  rw [List.take_add_one, h, List.foldl_append]
  rfl

theorem blkT {w : World} {g : Nat} {t : TypeId} {a b c : Value} (h : Blk w g t #[a, b, c]) : w.cell? ⟨g, 0, none⟩ = some a ∧ w.cell? ⟨g, 1, none⟩ = some b ∧ w.cell? ⟨g, 2, none⟩ = some c ∧ Blk w g t #[a, b, c] := ⟨h.cell 0, h.cell 1, h.cell 2, h⟩
theorem blkTOf {w : World} {g : Nat} {t : TypeId} {a b c : Value} (h : w.cell? ⟨g, 0, none⟩ = some a ∧ w.cell? ⟨g, 1, none⟩ = some b ∧ w.cell? ⟨g, 2, none⟩ = some c ∧ Blk w g t #[a, b, c]) : Blk w g t #[a, b, c] := h.2.2.2

theorem fold_Batch_ops (l : List OpV) (A : Option Addr) (cap : Nat) (kind : Int) (v : Value) (w : World) (hr : RowOf OpV.cells 3 w w.heap.size A l) (hl : l.length ≤ 140737488351232) (hc : checkF l ≠ 0) :
    Calls Try.prog 9 #[.slice A l.length cap, .int .i64 kind, v] w fun e w' => e = .returned (.tuple #[.slice none 0 0, .int .i64 0, .int .i64 30]) ∧ Below w.heap.size w w' := by
  have hC := ops_Check l A cap w hr hl
  have hc30 : checkF l = 30 := by
    unfold checkF at hc ⊢
    split
    · rfl
    · split
      · rename_i h1 h2; rw [if_neg h1, if_pos h2] at hc; exact absurd rfl hc
      · rfl
  rw [hc30] at hC
  have HC := Lib.hid hC
  clear hC hr hc hc30
  go_enter Try.func9, Try.ntmps9
  go_wp2_with (first
    | (go_at_call 22; refine HC.out.mono ?_; rintro e w1 ⟨rfl, hb1⟩))
  exact bodyPost_ret (v := .tuple #[.slice none 0 0, .int .i64 0, .int .i64 30]) (by simp [results, Try.results9, go_sem]) rfl ⟨rfl, hb1⟩

theorem fold_Batch_kind (l : List OpV) (A : Option Addr) (cap : Nat) (kind : Int) (v : Value) (w : World) (hr : RowOf OpV.cells 3 w w.heap.size A l) (hl : l.length ≤ 140737488351232) (hc : checkF l = 0) (hk : known kind = false) :
    Calls Try.prog 9 #[.slice A l.length cap, .int .i64 kind, v] w fun e w' => e = .returned (.tuple #[.slice none 0 0, .int .i64 0, .int .i64 1]) ∧ Below w.heap.size w w' := by
  have hC := ops_Check l A cap w hr hl
  rw [hc] at hC
  have HC := Lib.hid hC
  have hKn := fun w => agg_Known kind w
  rw [hk] at hKn
  have HKN := Lib.hid hKn
  clear hC hr hc hKn hk
  go_enter Try.func9, Try.ntmps9
  go_wp2_with (first
    | (go_at_call 22; refine HC.out.mono ?_; rintro e w1 ⟨rfl, hb1⟩)
    | (go_at_call 23; refine (HKN.out _).mono ?_; rintro e w' ⟨rfl, rfl⟩))
  exact bodyPost_ret (v := .tuple #[.slice none 0 0, .int .i64 0, .int .i64 1]) (by simp [results, Try.results9, go_sem]) rfl ⟨rfl, hb1⟩

/-- The list of two lists. -/
def two (a b : List PairV) (j : Nat) : List PairV := if j = 0 then a else if j = 1 then b else []

/-- What the first j lists hold. -/
def pre (a b : List PairV) (j : Nat) : List PairV := if j = 0 then [] else if j = 1 then a else a ++ b

set_option maxRecDepth 100000 in
set_option maxHeartbeats 8000000 in
theorem fold_Add (kind : Int) (a b : List PairV) (A B : Option Addr) (ca cb : Nat) (w : World) (ha : RowOf PairV.cells 3 w w.heap.size A a) (hb : RowOf PairV.cells 3 w w.heap.size B b)
    (sa : Sound a) (sb : Sound b) (wa : ∀ p ∈ a, (Lit.int .u64 p.key).wf = true) (wb : ∀ p ∈ b, (Lit.int .u64 p.key).wf = true) (la : a.length ≤ 274877906944) (lb : b.length ≤ 274877906944) (hkn : known kind = true) :
    Calls Try.prog 12 #[.int .i64 kind, .slice A a.length ca, .slice B b.length cb] w fun e w' =>
      ∃ ss v, e = .returned (.tuple #[v, .int .i64 0]) ∧ IsKeys (addF kind a b) ss ∧ (∀ x ∈ ss, (Lit.int .u64 x).wf = true) ∧ ss.length ≤ a.length + b.length ∧
        w'.ownsRow w.heap.size 47 3 v ss.length ((tabOf (addF kind a b) ss).flatMap PairV.cells) ∧ Below w.heap.size w w' := by
  have hSa := fun w hr => fold_Sound a A ca w hr (by omega)
  have hSb := fun w hr => fold_Sound b B cb w hr (by omega)
  rw [decide_eq_true sa] at hSa
  rw [decide_eq_true sb] at hSb
  have HSA := Lib.hid hSa
  have HSB := Lib.hid hSb
  have HA := Lib.hid ha
  have HB := Lib.hid hb
  have hKn := fun w => agg_Known kind w
  rw [hkn] at hKn
  have HKN := Lib.hid hKn
  have HN := Lib.hid hkn
  have hw2 : ∀ j, ∀ p ∈ two a b j, (Lit.int .u64 p.key).wf = true ∧ p.val.has = true := by
    intro j p hp
    unfold two at hp
    split at hp
    · exact ⟨wa p hp, sa.1 p hp⟩
    · split at hp
      · exact ⟨wb p hp, sb.1 p hp⟩
      · cases hp
  have HW := Lib.hid hw2
  have hmm := @run_makeMap Try.prog
  clear hSa hSb ha hb hKn hkn sa sb wa wb hw2
  go_enter Try.func12, Try.ntmps12
  go_wp2_with (first
    | (go_at_call 23; refine (HKN.out _).mono ?_; rintro e w' ⟨rfl, rfl⟩)
    | (go_at_call_of 21 a.length; refine (HSA.out _ ?_).mono ?_; exact HA.out; rintro e w1 ⟨rfl, hb1⟩)
    | (go_at_call_of 21 b.length; refine (HSB.out _ ?_).mono ?_; exact (HB.out.below hb1).more hb1.size; rintro e w2 ⟨rfl, hb2⟩))
  have B2 := Lib.hid (below_call hb2 hb1)
  have hz2 : w.heap.size ≤ w2.heap.size := B2.out.size
  clear hb1 hb2
  go_loopw [31] (fun i wr => ∃ j : Nat, j ≤ 2 ∧ i = .int .i64 j ∧ Blk wr (w2.heap.size + 1) 28 #[.slice A a.length ca, .slice B b.length cb] ∧ MapIs wr w2.heap.size (pre a b j).length ((pre a b j).foldl (addStep kind) (fun _ => AV.zero)) ∧ Below w.heap.size w wr) (fun i _ => 2 - (intOf i).toNat)
  case atStart =>
    refine ⟨0, by omega, rfl, ?_, (MapIs.made w2).alloc _, (B2.out.alloc hz2 _).alloc (by simp; omega) _⟩
    have := Blk.new (w2.alloc (.map #[] 0)) 28 #[.slice A a.length ca, .slice B b.length cb]
    simpa using this
  case round =>
    obtain ⟨j, hj, rfl, hk, hm, hbw⟩ := hrel
    have hzr := hbw.size
    have KT := Lib.hid hk
    have HM := Lib.hid hm
    clear hk hm
    by_cases hlt : j < 2
    · obtain ⟨L, AL, cL, hcell, hrow, hL, hpre, hlen, hpl⟩ : ∃ (L : List PairV) (AL : Option Addr) (cL : Nat), wr.cell? ⟨w2.heap.size + 1, j, none⟩ = some (.slice AL L.length cL) ∧ RowOf PairV.cells 3 wr w.heap.size AL L ∧ L = two a b j ∧ pre a b (j + 1) = pre a b j ++ L ∧ L.length ≤ 274877906944 ∧ (pre a b j).length ≤ 274877906944 := by
        have hk0 := KT.out.cell 0
        have hk1 := KT.out.cell 1
        rcases (show j = 0 ∨ j = 1 by omega) with rfl | rfl
        · exact ⟨a, A, ca, by simpa using hk0, HA.out.below hbw, by simp [two], by simp [pre], by omega, by simp [pre]⟩
        · exact ⟨b, B, cb, by simpa using hk1, HB.out.below hbw, by simp [two], by simp [pre], by omega, by simp [pre]; omega⟩
      have hj0 : (0 : Int) ≤ (j : Int) := by omega
      have hj2 : (j : Int) < 2 := by omega
      have HR := Lib.hid hrow
      have HL := Lib.hid hL
      have HP := Lib.hid hpre
      clear hrow hL hpre
      generalize hMj : (pre a b j).foldl (addStep kind) (fun _ => AV.zero) = Mj at *
      generalize hnj : (pre a b j).length = nj at *
      have HMj := Lib.hid hMj
      have HNj := Lib.hid hnj
      clear hMj hnj
      go_wp2
      go_loopw [37] (fun i wq => ∃ k : Nat, k ≤ L.length ∧ i = .int .i64 k ∧ Blk wq (w2.heap.size + 1) 28 #[.slice A a.length ca, .slice B b.length cb] ∧ MapIs wq w2.heap.size (nj + k) ((L.take k).foldl (addStep kind) Mj) ∧ Below w.heap.size w wq ∧ Below w.heap.size wr wq) (fun i _ => L.length - (intOf i).toNat)
      case atStart => exact ⟨0, Nat.zero_le _, rfl, KT.out, HM.out, hbw, Below.refl _ _⟩
      case round =>
        obtain ⟨k, hkl, rfl, hk, hm, hbq, hbr⟩ := hrel
        have hzq := hbq.size
        have KQ := Lib.hid hk
        have HMQ := Lib.hid hm
        clear hk hm
        by_cases hltk : k < L.length
        · obtain ⟨g, off, ⟨key, ⟨h, n⟩⟩, rfl, hgl, hx, hc0, hc⟩ := (HR.out.below hbr).at_ hltk
          have c0 := hc0 _ rfl
          have c1 := hc 1 _ rfl
          have c2 := hc 2 _ rfl
          have hkI : (k : Int) < (L.length : Int) := by omega
          have hstep := fold_take (kind := kind) Mj hx
          have hwh := HW.out j ⟨key, ⟨h, n⟩⟩ (HL.out ▸ List.mem_of_getElem? hx)
          have hwf : (Lit.int .u64 key).wf = true := hwh.1
          have hht : h = true := hwh.2
          have hkm : nj + k < 9223372036854775807 := by omega
          have HS := Lib.hid hstep
          have HH := Lib.hid hht
          clear hc hc0 hx hstep hwh hht
          generalize hM : (L.take k).foldl (addStep kind) Mj = M at *
          have HMM := Lib.hid hM
          clear hM
          have hz3 : w2.heap.size < wr.heap.size := by have := HMQ.out.lt; omega
          have hz4 : w2.heap.size + 1 < wr.heap.size := KQ.out.lt
          have kb := Blk.new wr 47 #[.int .u64 key, .bool h, .int .u64 n]
          have hm0 : MapIs (wr.alloc (.cells #[.int .u64 key, .bool h, .int .u64 n] 47)).drew w2.heap.size (nj + k) M := HMQ.out.alloc _
          have hl0 := hm0.lookup hwf
          have HM0 := Lib.hid hm0
          have HKB := Lib.hid kb
          clear hm0 kb
          go_wp2
          go_region_held (fun w' => w'.cell? ⟨wr.heap.size, 0, none⟩ = some (.int .u64 key) ∧ w'.cell? ⟨wr.heap.size, 1, none⟩ = some (.bool h) ∧ w'.cell? ⟨wr.heap.size, 2, none⟩ = some (.int .u64 n) ∧ Blk w' wr.heap.size 47 #[.int .u64 key, .bool h, .int .u64 n])
            (first
              | assumption
              | exact blkT HKB.out.drew
              | exact blkT (Blk.call HbM.out (blkTOf (by assumption)))
              | exact blkT (Blk.grown (blkTOf (by assumption)) (HmM.out.update hkm hwf _ _).2.2 (by intro h; injection h; omega)))
            (first
              | (go_at_call 15; refine (agg_Merge _ _ _ _ _ _).mono ?_; rintro e wM ⟨rfl, hbM⟩; have hmM := HM0.out.call hbM; have huM := fun h n => (hmM.update hkm hwf h n).1; have HbM := Lib.hid hbM; have HmM := Lib.hid hmM; clear hbM hmM))
          all_goals
            go_wp2
            go_roundw
            case rel =>
              have b3 := below_call HbM.out ((hbq.alloc hzq (.cells #[.int .u64 key, .bool h, .int .u64 n] 47)).drew)
              have b4 := HbM.out.mono (show w.heap.size ≤ _ by simp; omega)
              have hu := HmM.out.update hkm hwf (aggMerge kind (M key) ⟨h, n⟩).has (aggMerge kind (M key) ⟨h, n⟩).bits
              have b5 := ((hbr.alloc hzq (.cells #[.int .u64 key, .bool h, .int .u64 n] 47)).drew).trans b4
              refine ⟨k + 1, by omega, by go_num, Blk.grown (Blk.call HbM.out (KQ.out.alloc _)) hu.2.2 (by intro h; injection h; omega), ?_, b3.grown hu.2.2 b3.size (fun j hj => by injection hj; omega), b5.grown hu.2.2 b3.size (fun j hj => by injection hj; omega)⟩
              rw [HS.out]
              exact hu.2.1 (by rw [aggMerge_has HN.out, HH.out, Bool.or_true])
            case measure => simp [intOf]; omega
        · have hke : k = L.length := by omega
          subst hke
          have HMQ' := HMQ.out
          rw [List.take_length] at HMQ'
          have HM2 := Lib.hid HMQ'
          clear HMQ HMQ'
          go_wp2
          go_roundw
          case rel =>
            refine ⟨j + 1, by omega, by go_num, KQ.out, ?_, hbq⟩
            rw [HP.out, List.length_append, HNj.out, List.foldl_append, HMj.out]
            exact HM2.out
          case measure => simp [intOf]; omega
    · have hj2 : j = 2 := by omega
      subst hj2
      have e1 : (pre a b 2).foldl (addStep kind) (fun _ => AV.zero) = addF kind a b := rfl
      have e2 : (pre a b 2).length = a.length + b.length := by simp [pre]
      rw [e1, e2] at HM
      go_wp2_with (first
        | (go_at_call 24; refine (fold_table HM.out (by omega)).mono ?_; rintro e w3 ⟨ss, v, rfl, h1, h2, h3, h4, h5⟩))
      exact bodyPost_ret (v := .tuple #[v, .int .i64 0]) (by simp [results, Try.results12, go_sem]) rfl ⟨ss, v, rfl, h1, h2, h3, own_base h4 hzr, below_call h5 hbw⟩

end Go.Proofs.Ytifpcjpmannddaa
