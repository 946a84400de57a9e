/- The walk of FoldOne. -/
import Derived.Test.YtifpcjpmannddaaLfw
import Derived.Test.YtifpcjpmannddaaPl6
import Derived.Deep.DeepCutAuto
namespace Go.Proofs.Ytifpcjpmannddaa
open Go.Proofs Go.RowKit
attribute [local go_sem ↓] Go.wp_at_zero Go.wp_at_succ
attribute [local go_sem] run_store_float

/-- What a job's world gives, and every world behind it. -/
def JobAt (l : List OpV) (A : Option Addr) (cap : Nat) (kind : Int) (recs : List RecV) (A' : Option Addr) (cap' : Nat) (at_ : Int) (J : Nat) (w : World) : Prop :=
  Blk w J 25 #[.slice A l.length cap, .int .i64 kind, .slice A' recs.length cap', .int .i64 at_] ∧ RowOf OpV.cells 3 w w.heap.size A l ∧ RowOf RecV.cells 2 w w.heap.size A' recs
section
variable {l : List OpV} {A : Option Addr} {cap : Nat} {kind : Int} {recs : List RecV} {A' : Option Addr} {cap' : Nat} {at_ : Int} {J : Nat} {w w' : World}
theorem JobAt.nx (h : JobAt l A cap kind recs A' cap' at_ J w) (hb : Below w.heap.size w w') : JobAt l A cap kind recs A' cap' at_ J w' := ⟨Blk.call hb h.1, h.2.1.nx hb, h.2.2.nx hb⟩
theorem JobAt.drew (h : JobAt l A cap kind recs A' cap' at_ J w) : JobAt l A cap kind recs A' cap' at_ J w.drew := h.nx (Below.refl _ _).drew
theorem JobAt.new (hr : RowOf OpV.cells 3 w w.heap.size A l) (hr' : RowOf RecV.cells 2 w w.heap.size A' recs) : JobAt l A cap kind recs A' cap' at_ w.heap.size (w.alloc (.cells #[.slice A l.length cap, .int .i64 kind, .slice A' recs.length cap', .int .i64 at_] 25)) :=
  ⟨Blk.new _ _ _, hr.nx ((Below.refl _ _).alloc (Nat.le_refl _) _), hr'.nx ((Below.refl _ _).alloc (Nat.le_refl _) _)⟩
end

def ValAt (w : World) (g : Nat) (v : AV) : Prop := Blk w g 45 #[.bool v.has, .int .u64 v.bits]

theorem oneF_take {kind : Int} {l : List OpV} {x : Int} {recs : List RecV} {k : Nat} {r : RecV} (h : recs[k]? = some r) : oneF kind l x (recs.take (k + 1)) = keptAt kind l x (oneF kind l x (recs.take k)) r := by
  unfold oneF
  rw [List.take_add_one, h, List.foldl_append]
  rfl

theorem table_value {kind : Int} {l : List OpV} {recs : List RecV} {t : List PairV} {n : Nat} (hk : known kind = true) (hr : RecsOk recs) (h : Tab (batchF kind l recs).1 t n) {i : Nat} {p : PairV} (hp : t[i]? = some p) :
    p.val = oneF kind l p.key recs ∧ findF t p.key = oneF kind l p.key recs := by
  have hz : ∀ x, ((batchF kind l recs).1 x).has = false → (batchF kind l recs).1 x = AV.zero := fun x h => by rw [batch_one] at h ⊢; exact (one_fit hk x (fun r h => (hr r h).2)).zero_of h
  refine ⟨?_, by rw [h.find hz, batch_one]⟩
  obtain ⟨ss, h1, rfl, _⟩ := h
  obtain ⟨x, hx, rfl⟩ := List.mem_map.1 (List.mem_of_getElem? hp)
  rw [← batch_one]

set_option maxRecDepth 100000 in
set_option maxHeartbeats 16000000 in
theorem law_FoldOne_right (l : List OpV) (A : Option Addr) (cap : Nat) (kind : Int) (recs : List RecV) (A' : Option Addr) (cap' : Nat) (at_ : Int) (w : World) (hr : RowOf OpV.cells 3 w w.heap.size A l) (hr' : RowOf RecV.cells 2 w w.heap.size A' recs)
    (hc : checkF l = 0) (ho : ∀ o ∈ l, o.n ≤ 9223372036854775807) (hk : RecsOk recs) (hl : recs.length ≤ 68719476736) (hll : l.length ≤ 140737488351232) (hkn : known kind = true) :
    Calls Try.prog 5 #[jobV A l.length cap kind A' recs.length cap' at_] w fun e w' => e = .returned (.bool true) ∧ Below w.heap.size w w' := by
  obtain ⟨_, hst⟩ := checkF_ok hc
  have hR := fun w hr => law_right l A cap kind A' recs.length cap' at_ w hr hll
  rw [hc, hkn] at hR
  have HRT := Lib.hid hR
  have HT := Lib.hid (fun (w : World) (hr : RowOf OpV.cells 3 w w.heap.size A l) (hr2 : RowOf RecV.cells 2 w w.heap.size A' recs) => law_table l A cap kind A' recs.length cap' at_ recs A' cap' w hr hr2 hc ho (fun r h => (hk r h).1) (by omega) hkn)
  have HV := Lib.hid (fun (t : List PairV) (n : Nat) (h : Tab (batchF kind l recs).1 t n) (i : Nat) (p : PairV) (hp : t[i]? = some p) => table_value hkn hk h hp)
  have HKN := Lib.hid hkn
  have HRO := Lib.hid hk
  have HO := Lib.hid ho
  have HCK := Lib.hid hc
  have HST := Lib.hid hst
  have HJ := Lib.hid (JobAt.new (cap := cap) (kind := kind) (cap' := cap') (at_ := at_) hr hr')
  have C := Lib.hid (show Below w.heap.size w (w.alloc (.cells #[.slice A l.length cap, .int .i64 kind, .slice A' recs.length cap', .int .i64 at_] 25)) from (Below.refl _ _).alloc (Nat.le_refl _) _)
  clear hR hr hr' hc ho hk hkn hst
  go_enter Try.func5, Try.ntmps5
  go_wp2_with (first
    | (go_at_call 7; refine (law_awake _).mono ?_; rintro e wn ⟨rfl, hb⟩; have C := Lib.hid (below_call hb C.out); have HJ := Lib.hid (HJ.out.nx hb); obtain ⟨c0, c1, c2, c3, _⟩ := blkQ HJ.out.1; clear hb)
    | (go_at_call 8; refine (HRT.out _ HJ.out.2.1).mono ?_; rintro e wn ⟨rfl, hb⟩; have C := Lib.hid (below_call hb C.out); have HJ := Lib.hid (HJ.out.nx hb); obtain ⟨c0, c1, c2, c3, _⟩ := blkQ HJ.out.1; clear hb)
    | (go_at_call 11; refine (HT.out _ HJ.out.2.1 HJ.out.2.2).mono ?_; rintro e wn ⟨t, At, ct, rfl, ht, hrow, hb⟩; have C := Lib.hid (below_call hb C.out); have HJ := Lib.hid (HJ.out.nx hb); have RT := Lib.hid hrow; have TT := Lib.hid ht; clear hb ht hrow))
  have HVt := Lib.hid (HV.out t _ TT.out)
  clear c0 c1 c2 c3
  go_loopw [6] (fun i wr => ∃ k : Nat, k ≤ t.length ∧ i = .int .i64 k ∧ Below wn.heap.size wn wr) (fun i _ => t.length - (intOf i).toNat)
  case atStart => exact ⟨0, Nat.zero_le _, rfl, Below.refl _ _⟩
  case round =>
    obtain ⟨k, hk, rfl, hb⟩ := hrel
    have hzr := hb.size
    obtain ⟨wo, rfl⟩ : ∃ wo : World, wo = wr := ⟨_, rfl⟩
    by_cases hlt : k < t.length ∧ k < 8
    · obtain ⟨hlt, h8⟩ := hlt
      have h8d : decide ((k : Int) < 8) = true := decide_eq_true (by omega)
      obtain ⟨g, off, ⟨key, ⟨th, tn⟩⟩, rfl, hgl, hx, hc0, hc⟩ := RT.out.at_ hlt
      have HX := Lib.hid hx
      have t0 := hc0 _ rfl
      have t1 := hc 1 _ rfl
      have t2 := hc 2 _ rfl
      have HT0 := Lib.hid (fun (w' : World) (hb : Below wn.heap.size wn w') => (⟨(hb.cell (p := ⟨g, _, none⟩) hgl).trans t0, (hb.cell (p := ⟨g, _, none⟩) hgl).trans t1, (hb.cell (p := ⟨g, _, none⟩) hgl).trans t2⟩ : w'.cell? ⟨g, off + k * 3, none⟩ = some (.int .u64 key) ∧ w'.cell? ⟨g, off + k * 3 + 1, none⟩ = some (.bool th) ∧ w'.cell? ⟨g, off + k * 3 + 2, none⟩ = some (.int .u64 tn)))
      clear hx hc0 hc t0 t1 t2
      go_wp2
      go_loopw [8] (fun i wi => ∃ m : Nat, m ≤ recs.length ∧ i = .int .i64 m ∧ ValAt wi wo.heap.size (oneF kind l key (recs.take m)) ∧ Below wn.heap.size wn wi) (fun i _ => recs.length - (intOf i).toNat)
      case atStart => exact ⟨0, Nat.zero_le _, rfl, Blk.new _ _ _, hb.alloc hzr _⟩
      case round =>
        obtain ⟨m, hm, rfl, hv, hbi⟩ := hrel
        have hzi := hbi.size
        obtain ⟨c0, c1, c2, c3, _⟩ := blkQ (HJ.out.nx hbi).1
        by_cases hlm : m < recs.length
        · obtain ⟨g2, off2, ⟨rk, rv⟩, rfl, hgl2, hx2, hd0, hd⟩ := HJ.out.2.2.at_ hlm
          have e0 := hd0 _ rfl
          have e1 := hd 1 _ rfl
          have HS := Lib.hid (fun (w' : World) (hb : Below wn.heap.size wn w') => (⟨(blkQ (HJ.out.nx hb).1).1, (blkQ (HJ.out.nx hb).1).2.2.1, (hb.cell (p := ⟨g2, _, none⟩) hgl2).trans e0, (hb.cell (p := ⟨g2, _, none⟩) hgl2).trans e1⟩ : w'.cell? ⟨w.heap.size, 0, none⟩ = some (.slice A l.length cap) ∧ w'.cell? ⟨w.heap.size, 2, none⟩ = some (.slice (some ⟨g2, off2, none⟩) recs.length cap') ∧ w'.cell? ⟨g2, off2 + m * 2, none⟩ = some (.int .u64 rk) ∧ w'.cell? ⟨g2, off2 + m * 2 + 1, none⟩ = some (.float .f64 rv)))
          obtain ⟨_, _, d0, d1⟩ := HS.out _ hbi
          have HX2 := Lib.hid hx2
          have hok := HRO.out _ (List.mem_of_getElem? hx2)
          have hrun : ∀ (F : Fate), runF l ⟨rk, rv⟩ = F → ∀ (k' : Int) (v' : Nat) (n : Int), F.rec_.key = k' → F.rec_.val = v' → F.num = n → ∀ w, RowOf OpV.cells 3 w w.heap.size A l →
              Calls Try.prog 14 #[.slice A l.length cap, .agg #[.int .u64 rk, .float .f64 rv]] w fun e w' => e = .returned (.tuple #[.agg #[.int .u64 k', .float .f64 v'], .int .i64 n]) ∧ Below w.heap.size w w' := by
            rintro F hF _ _ _ rfl rfl rfl w hr
            exact ops_Run l A cap rk rv w hr HCK.out HO.out hok.1.1 hok.1.2 F hF
          have HRUN := Lib.hid hrun
          have HV0 := Lib.hid hv
          clear hx2 hd0 hd e0 e1 hrun hv
          obtain ⟨k', hk'⟩ : ∃ x, (runF l ⟨rk, rv⟩).rec_.key = x := ⟨_, rfl⟩
          obtain ⟨v', hv'⟩ : ∃ x, (runF l ⟨rk, rv⟩).rec_.val = x := ⟨_, rfl⟩
          obtain ⟨n, hn⟩ : ∃ x, (runF l ⟨rk, rv⟩).num = x := ⟨_, rfl⟩
          have HC := Lib.hid (HRUN.out _ rfl k' v' n hk' hv' hn)
          have HK' := Lib.hid hk'
          have HV' := Lib.hid hv'
          have HN' := Lib.hid hn
          clear hk' hv' hn
          go_upto_region 15 with (fail)
          go_cut [9, 10] (fun p f wc => ∃ g9, p = .pointer (some ⟨g9, 0, none⟩) ∧ f = .int .i64 n ∧ Blk wc g9 41 #[.int .u64 k', .float .f64 v'] ∧ ValAt wc wo.heap.size (oneF kind l key (recs.take m)) ∧ Below wn.heap.size wn wc ∧ wn.heap.size ≤ g9 ∧ ¬ g9 = wo.heap.size)
          case first =>
            have hzv := HV0.out.lt
            go_region_held (fun w' => w'.cell? ⟨w.heap.size, 0, none⟩ = some (.slice A l.length cap) ∧ w'.cell? ⟨w.heap.size, 2, none⟩ = some (.slice (some ⟨g2, off2, none⟩) recs.length cap') ∧ w'.cell? ⟨g2, off2 + m * 2, none⟩ = some (.int .u64 rk) ∧ w'.cell? ⟨g2, off2 + m * 2 + 1, none⟩ = some (.float .f64 rv))
              (first | assumption | exact HS.out _ (by ((repeat' (first | exact Below.refl _ _ | assumption | refine below_drewN ?_ _ | refine Below.drew ?_ | refine Below.setCell ?_ ?_ _ | refine Below.alloc ?_ ?_ _ | (refine Below.trans ?_ (Below.mono (by assumption) ?_)))) <;> (first | (simp; done) | (simp; omega) | omega))))
              (first | (go_at_call 14; refine (HC.out _ ?_).mono ?_; exact (HJ.out.nx (by ((repeat' (first | exact Below.refl _ _ | assumption | refine below_drewN ?_ _ | refine Below.drew ?_ | refine Below.setCell ?_ ?_ _ | refine Below.alloc ?_ ?_ _ | (refine Below.trans ?_ (Below.mono (by assumption) ?_)))) <;> (first | (simp; done) | (simp; omega) | omega)))).2.1; rintro e w2 ⟨rfl, hb2⟩; have hz2 : wr.heap.size ≤ w2.heap.size := (by have := hb2.size; simp at this; omega); have hz3 : wn.heap.size ≤ w2.heap.size := (by omega); (try (have kN := Blk.call hb2 (Blk.new wr 41 #[.int .u64 0, .float .f64 0]).drew; have n0 := kN.cell 0; have n1 := kN.cell 1; have nf := fun i => kN.frozen i; simp at n0 n1))))
            all_goals
              go_wp2_with fail
              go_meet
            all_goals
              first
              | exact ⟨_, rfl, rfl, Blk.new _ _ _, (Blk.call hb2 (Blk.drew HV0.out)).alloc _, by ((repeat' (first | exact Below.refl _ _ | assumption | refine below_drewN ?_ _ | refine Below.drew ?_ | refine Below.setCell ?_ ?_ _ | refine Below.alloc ?_ ?_ _ | (refine Below.trans ?_ (Below.mono (by assumption) ?_)))) <;> (first | (simp; done) | (simp; omega) | omega)), hz3, by omega⟩
              | exact ⟨_, rfl, rfl, (kN.set_ 0 _).set_ 1 _, ((Blk.call hb2 (Blk.drew (Blk.alloc HV0.out _))).far (by simp; omega) _).far (by simp; omega) _, by ((repeat' (first | exact Below.refl _ _ | assumption | refine below_drewN ?_ _ | refine Below.drew ?_ | refine Below.setCell ?_ ?_ _ | refine Below.alloc ?_ ?_ _ | (refine Below.trans ?_ (Below.mono (by assumption) ?_)))) <;> (first | (simp; done) | (simp; omega) | omega)), hzi, by omega⟩
          case rest =>
            obtain ⟨g9, rfl, rfl, kb, hv2, hb2, hg9, hne⟩ := hcut
            clear c0 c1 c2 c3 d0 d1
            have b0 := kb.cell 0
            have b1 := kb.cell 1
            simp at b0 b1
            have hz2 := hb2.size
            have KV := Lib.hid hv2
            have KB := Lib.hid kb
            have hvl := Blk.lt hv2
            have hvl0 : wn.heap.size ≤ wo.heap.size := hzr
            have a0 := Blk.cell hv2 0
            have a1 := Blk.cell hv2 1
            simp at a0 a1
            clear hv2 kb
            obtain ⟨t0, t1, t2⟩ := HT0.out _ hb2
            obtain ⟨c0, c1, c2, c3, _⟩ := blkQ (HJ.out.nx hb2).1
            cases hF : runF l ⟨rk, rv⟩ with
            | kept r' =>
              obtain rfl : n = 1 := by have := HN'.out; rw [hF] at this; exact this.symm
              obtain rfl : r' = ⟨k', v'⟩ := by have h1 := HK'.out; have h2 := HV'.out; rw [hF] at h1 h2; cases r'; simp [Fate.rec_] at h1 h2; rw [h1, h2]
              by_cases he : k' = key
              · subst he
                have hst : oneF kind l k' (recs.take (m + 1)) = aggMerge kind (oneF kind l k' (recs.take m)) (aggOf kind v') := by rw [oneF_take HX2.out]; simp only [keptAt, hF, if_pos]
                have HSTP := Lib.hid hst
                clear hst hF
                go_wp2
                go_quiet (fail)
                go_wp2
                have hb3 := below_drewN hb2 nq
                have KV := Lib.hid (show ValAt (wc.drewN nq) wo.heap.size (oneF kind l k' (recs.take m)) from Blk.drewN KV.out nq)
                go_region_with (first
                  | (go_at_call 16; refine (agg_Of _ _ _).mono ?_; rintro e wO ⟨rfl, hbO⟩; have hbO2 := below_call hbO (by ((repeat' (first | exact Below.refl _ _ | assumption | refine below_drewN ?_ _ | refine Below.drew ?_ | refine Below.setCell ?_ ?_ _ | refine Below.alloc ?_ ?_ _ | (refine Below.trans ?_ (Below.mono (by assumption) ?_)))) <;> (first | (simp; done) | (simp; omega) | omega)) : Below wn.heap.size wn _); have hzO := hbO2.size; have KVO := Lib.hid (Blk.call hbO (by first | exact Blk.drew KV.out | exact KV.out)); obtain ⟨_, o1, _, _, _⟩ := blkQ (HJ.out.nx hbO2).1; have p0 := Blk.cell KVO.out 0; have p1 := Blk.cell KVO.out 1; simp at p0 p1; have hvlO := Blk.lt KVO.out)
                  | (go_at_call 15; refine (agg_Merge _ _ _ _ _ _).mono ?_; rintro e wM ⟨rfl, hbM⟩; have KVM := Lib.hid (Blk.call hbM (by first | exact KVO.out | exact Blk.drew KVO.out)); have q0 := Blk.cell KVM.out 0; have q1 := Blk.cell KVM.out 1; simp at q0 q1; have hvlM := Blk.lt KVM.out; have fM := fun i => Blk.frozen KVM.out i))
                all_goals
                  go_wp2
                  go_roundw
                  case rel => exact ⟨m + 1, by omega, by go_num, by rw [HSTP.out]; exact (Blk.set_ KVM.out 0 _).set_ 1 _, by have hzM := hbM.size; have hzM2 : wn.heap.size ≤ wM.heap.size := (by (try simp at hzM); omega); have hbM2 := below_call hbM (by first | exact hbO2 | exact hbO2.drew); exact (hbM2.setCell hvl0 _).setCell hvl0 _⟩
                  case measure => simp [intOf]; omega
              · have hst : oneF kind l key (recs.take (m + 1)) = oneF kind l key (recs.take m) := by rw [oneF_take HX2.out]; simp only [keptAt, hF]; rw [if_neg he]
                have HSTP := Lib.hid hst
                have hef : (k' == key) = false := by simpa using he
                clear hst hF
                go_wp2
                go_quiet (fail)
                go_wp2
                go_roundw
                case rel => exact ⟨m + 1, by omega, by go_num, by rw [HSTP.out]; exact Blk.drewN KV.out _, below_drewN hb2 _⟩
                case measure => simp [intOf]; omega
            | dropped =>
              obtain rfl : n = 2 := by have := HN'.out; rw [hF] at this; exact this.symm
              have hst : oneF kind l key (recs.take (m + 1)) = oneF kind l key (recs.take m) := by rw [oneF_take HX2.out]; simp only [keptAt, hF]
              have HSTP := Lib.hid hst
              clear hst hF
              go_wp2
              go_quiet (fail)
              go_wp2
              go_roundw
              case rel => exact ⟨m + 1, by omega, by go_num, by rw [HSTP.out]; exact Blk.drewN KV.out _, below_drewN hb2 _⟩
              case measure => simp [intOf]; omega
            | trapped =>
              obtain rfl : n = 3 := by have := HN'.out; rw [hF] at this; exact this.symm
              have hst : oneF kind l key (recs.take (m + 1)) = oneF kind l key (recs.take m) := by rw [oneF_take HX2.out]; simp only [keptAt, hF]
              have HSTP := Lib.hid hst
              clear hst hF
              go_wp2
              go_quiet (fail)
              go_wp2
              go_roundw
              case rel => exact ⟨m + 1, by omega, by go_num, by rw [HSTP.out]; exact Blk.drewN KV.out _, below_drewN hb2 _⟩
              case measure => simp [intOf]; omega
        · have hml : m = recs.length := by omega
          subst hml
          rw [List.take_length] at hv
          have hvf : oneF kind l key recs = ⟨th, tn⟩ ∧ findF t key = ⟨th, tn⟩ := by
            have h := HVt.out _ _ HX.out
            simp only at h
            exact ⟨h.1.symm, h.2.trans h.1.symm⟩
          obtain ⟨hval, hfind⟩ := hvf
          rw [hval] at hv
          have HFD := Lib.hid (fun w hr => fold_Find t (some ⟨g, off, none⟩) ct key w hr (by have := TT.out.len; omega))
          rw [hfind] at HFD
          have KV := Lib.hid hv
          clear hv hfind hval
          have a0 := Blk.cell KV.out 0
          have a1 := Blk.cell KV.out 1
          have hvl := Blk.lt KV.out
          simp at a0 a1
          obtain ⟨t0, t1, t2⟩ := HT0.out _ hbi
          have HSV := Lib.hid (fun (w' : World) (hb : Below wr.heap.size wr w') => (⟨(hb.cell (p := ⟨wo.heap.size, 0, none⟩) hvl).trans a0, (hb.cell (p := ⟨wo.heap.size, 1, none⟩) hvl).trans a1, HT0.out _ (below_call hb hbi)⟩ : w'.cell? ⟨wo.heap.size, 0, none⟩ = some (.bool th) ∧ w'.cell? ⟨wo.heap.size, 1, none⟩ = some (.int .u64 tn) ∧ w'.cell? ⟨g, off + k * 3, none⟩ = some (.int .u64 key) ∧ w'.cell? ⟨g, off + k * 3 + 1, none⟩ = some (.bool th) ∧ w'.cell? ⟨g, off + k * 3 + 2, none⟩ = some (.int .u64 tn)))
          have hvn := fun w => val_neq w tn tn th th
          simp only [decide_true, Bool.and_true, Bool.not_true] at hvn
          go_wp2
          go_region_held (fun w' => w'.cell? ⟨wo.heap.size, 0, none⟩ = some (.bool th) ∧ w'.cell? ⟨wo.heap.size, 1, none⟩ = some (.int .u64 tn) ∧ w'.cell? ⟨g, off + k * 3, none⟩ = some (.int .u64 key) ∧ w'.cell? ⟨g, off + k * 3 + 1, none⟩ = some (.bool th) ∧ w'.cell? ⟨g, off + k * 3 + 2, none⟩ = some (.int .u64 tn))
            (first | assumption | exact HSV.out _ (by ((repeat' (first | exact Below.refl _ _ | assumption | refine below_drewN ?_ _ | refine Below.drew ?_ | refine Below.setCell ?_ ?_ _ | refine Below.alloc ?_ ?_ _ | (refine Below.trans ?_ (Below.mono (by assumption) ?_)))) <;> (first | (simp; done) | (simp; omega) | omega))))
            (first | (go_at_call 17; refine (HFD.out _ ?_).mono ?_; exact RT.out.nx (by ((repeat' (first | exact Below.refl _ _ | assumption | refine below_drewN ?_ _ | refine Below.drew ?_ | refine Below.setCell ?_ ?_ _ | refine Below.alloc ?_ ?_ _ | (refine Below.trans ?_ (Below.mono (by assumption) ?_)))) <;> (first | (simp; done) | (simp; omega) | omega))); rintro e w2 ⟨rfl, hb2⟩; have hz2 : wr.heap.size ≤ w2.heap.size := (by have := hb2.size; simp at this; omega); have hz3 : wn.heap.size ≤ w2.heap.size := (by omega)))
          all_goals
            go_wp2
            go_roundw
            case rel => exact ⟨k + 1, by omega, by go_num, by ((repeat' (first | exact Below.refl _ _ | assumption | refine below_drewN ?_ _ | refine Below.drew ?_ | refine Below.setCell ?_ ?_ _ | refine Below.alloc ?_ ?_ _ | (refine Below.trans ?_ (Below.mono (by assumption) ?_)))) <;> (first | (simp; done) | (simp; omega) | omega))⟩
            case measure => simp [intOf]; omega
    · by_cases hlt' : k < t.length
      · have h8 : decide ((k : Int) < 8) = false := decide_eq_false (by omega)
        go_wp2
        go_ret
        exact ⟨rfl, below_call hb C.out⟩
      · go_wp2
        go_ret
        exact ⟨rfl, below_call hb C.out⟩

set_option maxRecDepth 100000 in
set_option maxHeartbeats 8000000 in
theorem law_FoldOne_wrong (l : List OpV) (A : Option Addr) (cap : Nat) (kind : Int) (nr : Nat) (A' : Option Addr) (cap' : Nat) (at_ : Int) (w : World) (hr : RowOf OpV.cells 3 w w.heap.size A l)
    (hll : l.length ≤ 140737488351232) (hw : (decide (checkF l = 0) && known kind) = false) :
    Calls Try.prog 5 #[jobV A l.length cap kind A' nr cap' at_] w fun e w' => e = .returned (.bool true) ∧ Below w.heap.size w w' := by
  have hR := fun w hr => law_right l A cap kind A' nr cap' at_ w hr hll
  rw [hw] at hR
  have HRT := Lib.hid hR
  have ba : Below w.heap.size w (w.alloc (.cells #[.slice A l.length cap, .int .i64 kind, .slice A' nr cap', .int .i64 at_] 25)) := (Below.refl _ _).alloc (Nat.le_refl _) _
  have HL := Lib.hid (hr.nx ba)
  have C := Lib.hid ba
  have K := Lib.hid (Blk.new w 25 #[.slice A l.length cap, .int .i64 kind, .slice A' nr cap', .int .i64 at_])
  clear hR hr hw ba
  go_enter Try.func5, Try.ntmps5
  go_wp2_with (first
    | (go_at_call 7; refine (law_awake _).mono ?_; rintro e wn ⟨rfl, hb⟩; have C := Lib.hid (below_call hb C.out); have K := Lib.hid (Blk.call hb K.out); obtain ⟨c0, c1, c2, c3, _⟩ := blkQ K.out; have HL := Lib.hid (HL.out.nx hb); clear hb)
    | (go_at_call 8; refine (HRT.out _ HL.out).mono ?_; rintro e wn ⟨rfl, hb⟩; have C := Lib.hid (below_call hb C.out); clear hb))
  go_ret
  exact ⟨rfl, C.out⟩

theorem law_FoldOne (l : List OpV) (A : Option Addr) (cap : Nat) (kind : Int) (recs : List RecV) (A' : Option Addr) (cap' : Nat) (at_ : Int) (w : World) (hr : RowOf OpV.cells 3 w w.heap.size A l) (hr' : RowOf RecV.cells 2 w w.heap.size A' recs)
    (ho : ∀ o ∈ l, o.n ≤ 9223372036854775807) (hk : RecsOk recs) (hl : recs.length ≤ 68719476736) (hll : l.length ≤ 140737488351232) :
    Calls Try.prog 5 #[jobV A l.length cap kind A' recs.length cap' at_] w fun e w' => e = .returned (.bool true) ∧ Below w.heap.size w w' := by
  cases h : (decide (checkF l = 0) && known kind)
  · exact law_FoldOne_wrong l A cap kind recs.length A' cap' at_ w hr hll h
  · simp only [Bool.and_eq_true, decide_eq_true_eq] at h
    exact law_FoldOne_right l A cap kind recs A' cap' at_ w hr hr' h.1 ho hk hl hll h.2

end Go.Proofs.Ytifpcjpmannddaa
