/- The walk of FoldTraps. -/
import Derived.Test.YtifpcjpmannddaaLfw
import Derived.Test.YtifpcjpmannddaaLon
namespace Go.Proofs.Ytifpcjpmannddaa
open Go.Proofs Go.RowKit
attribute [local go_sem ↓] Go.wp_at_zero Go.wp_at_succ
attribute [local go_sem] run_store_float

section
variable {w w' : World} {base : Nat} {e : TypeId} {size n : Nat} {v : Value} {xs : List Value}
theorem own_call (h : w.ownsRow base e size v n xs) (hb : Below w.heap.size w w') : w'.ownsRow base e size v n xs :=
  ⟨h.1, h.2.imp id fun ⟨g, cap, cur, e1, e2, e3, e4⟩ => ⟨g, cap, cur, e1, e2, (hb.block g (Array.getElem?_eq_some_iff.1 e3).1).trans e3, e4⟩⟩
theorem own_far (h : w.ownsRow base e size v n xs) {p : Addr} (hp : w.heap.size ≤ p.block) (h2 : Below w.heap.size w w') (u : Value) : (w'.setCell p u).ownsRow base e size v n xs :=
  own_call h (h2.setCell hp u)
end

/-- What is kept of the first k records. -/
abbrev keptOf (l : List OpV) (recs : List RecV) : List RecV := recs.filter (isKept l)
theorem keptOf_take {l : List OpV} {recs : List RecV} {k : Nat} {r : RecV} (h : recs[k]? = some r) : keptOf l (recs.take (k + 1)) = keptOf l (recs.take k) ++ if isKept l r then [r] else [] := by
  unfold keptOf
  rw [List.take_add_one, h, List.filter_append]
  cases hh : isKept l r <;> simp [hh]

theorem rec_info : ∃ i : TypeInfo, Try.prog.info? 41 = some i ∧ i.zero = some (.agg #[.int .u64 0, .float .f64 0]) ∧ i.size = 2 ∧ i.bytes = 16 := by
  have hi : (Try.prog.info? 41).map (fun i => (i.zero, i.size, i.bytes)) = some (some (.agg #[.int .u64 0, .float .f64 0]), 2, 16) := by kernel_rfl
  obtain ⟨i0, hi, hz0⟩ := Option.map_eq_some_iff.1 hi
  simp only [Prod.mk.injEq] at hz0
  exact ⟨i0, hi, hz0.1, hz0.2.1, hz0.2.2⟩

set_option maxRecDepth 100000 in
set_option maxHeartbeats 16000000 in
theorem law_FoldTraps_right (l : List OpV) (A : Option Addr) (cap : Nat) (kind : Int) (recs : List RecV) (A' : Option Addr) (cap' : Nat) (at_ : Int) (w : World) (hr : RowOf OpV.cells 3 w w.heap.size A l) (hr' : RowOf RecV.cells 2 w w.heap.size A' recs)
    (hc : checkF l = 0) (ho : ∀ o ∈ l, o.n ≤ 9223372036854775807) (hk : RecsOk recs) (hl : recs.length ≤ 68719476736) (hll : l.length ≤ 140737488351232) (hkn : known kind = true) :
    Calls Try.prog 4 #[jobV A l.length cap kind A' recs.length cap' at_] w fun e w' => e = .returned (.bool true) ∧ Below w.heap.size w w' := by
  obtain ⟨_, hst⟩ := checkF_ok hc
  obtain ⟨i0, hi0, hi1, hi2, hi3⟩ := rec_info
  have hR := fun w hr => law_right l A cap kind A' recs.length cap' at_ w hr hll
  rw [hc, hkn] at hR
  have HRT := Lib.hid hR
  have hkl : (keptOf l recs).length ≤ recs.length := List.length_filter_le _ _
  have HT := Lib.hid (fun (w : World) (hr : RowOf OpV.cells 3 w w.heap.size A l) (hr2 : RowOf RecV.cells 2 w w.heap.size A' recs) => law_table l A cap kind A' recs.length cap' at_ recs A' cap' w hr hr2 hc ho (fun r h => (hk r h).1) (by omega) hkn)
  have hTK := fun (A2 : Option Addr) (cap2 : Nat) (w : World) (hr : RowOf OpV.cells 3 w w.heap.size A l) (hr2 : RowOf RecV.cells 2 w w.heap.size A2 (keptOf l recs)) => law_table l A cap kind A' recs.length cap' at_ (keptOf l recs) A2 cap2 w hr hr2 hc ho (fun r h => (hk r (List.mem_filter.1 h).1).1) (by omega) hkn
  rw [batch_kept] at hTK
  dsimp only at hTK
  have HTK := Lib.hid hTK
  have HBC := Lib.hid (fun (w : World) (hr : RowOf OpV.cells 3 w w.heap.size A l) (hr2 : RowOf RecV.cells 2 w w.heap.size A' recs) => fold_Batch l A cap 1 recs A' cap' w hr hr2 hc ho (fun r h => (hk r h).1) (by omega) (by decide))
  have HKN := Lib.hid hkn
  have HRO := Lib.hid hk
  have HO := Lib.hid ho
  have HCK := Lib.hid hc
  have HJ := Lib.hid (JobAt.new (cap := cap) (kind := kind) (cap' := cap') (at_ := at_) hr hr')
  have C := Lib.hid (show Below w.heap.size w (w.alloc (.cells #[.slice A l.length cap, .int .i64 kind, .slice A' recs.length cap', .int .i64 at_] 25)) from (Below.refl _ _).alloc (Nat.le_refl _) _)
  clear hR hTK hr hr' hc ho hk hkn hst
  go_enter Try.func4, Try.ntmps4
  go_wp2_with (first
    | (go_at_call 7; refine (law_awake _).mono ?_; rintro e wn ⟨rfl, hb⟩; have C := Lib.hid (below_call hb C.out); have HJ := Lib.hid (HJ.out.nx hb); obtain ⟨c0, c1, c2, c3, _⟩ := blkQ HJ.out.1; clear hb)
    | (go_at_call 8; refine (HRT.out _ HJ.out.2.1).mono ?_; rintro e wn ⟨rfl, hb⟩; have C := Lib.hid (below_call hb C.out); have HJ := Lib.hid (HJ.out.nx hb); obtain ⟨c0, c1, c2, c3, _⟩ := blkQ HJ.out.1; clear hb))
  clear c0 c1 c2 c3
  go_loopw [3, 4, 5] (fun v tr i wr => ∃ k : Nat, k ≤ recs.length ∧ i = .int .i64 k ∧ tr = .int .i64 (batchF kind l (recs.take k)).2 ∧ (batchF kind l (recs.take k)).2 ≤ k ∧ wr.ownsRow wn.heap.size 41 2 v (keptOf l (recs.take k)).length ((keptOf l (recs.take k)).flatMap RecV.cells) ∧ Below wn.heap.size wn wr) (fun _ _ i _ => recs.length - (intOf i).toNat)
  case atStart => exact ⟨0, Nat.zero_le _, rfl, rfl, Nat.le_refl _, ⟨by simp, .inl ⟨rfl, rfl⟩⟩, Below.refl _ _⟩
  case round =>
    obtain ⟨k, hk, rfl, rfl, htr, hown, hb⟩ := hrel
    have hzr := hb.size
    have HOW := Lib.hid hown
    clear hown
    obtain ⟨c0, c1, c2, c3, _⟩ := blkQ (HJ.out.nx hb).1
    by_cases hlt : k < recs.length
    · obtain ⟨g2, off2, ⟨rk, rv⟩, rfl, hgl2, hx2, hd0, hd⟩ := HJ.out.2.2.at_ hlt
      have e0 := hd0 _ rfl
      have e1 := hd 1 _ rfl
      have HS := Lib.hid (fun (w' : World) (hb : Below wn.heap.size wn w') => (⟨(blkQ (HJ.out.nx hb).1).1, (blkQ (HJ.out.nx hb).1).2.2.1, (hb.cell (p := ⟨g2, _, none⟩) hgl2).trans e0, (hb.cell (p := ⟨g2, _, none⟩) hgl2).trans e1⟩ : w'.cell? ⟨w.heap.size, 0, none⟩ = some (.slice A l.length cap) ∧ w'.cell? ⟨w.heap.size, 2, none⟩ = some (.slice (some ⟨g2, off2, none⟩) recs.length cap') ∧ w'.cell? ⟨g2, off2 + k * 2, none⟩ = some (.int .u64 rk) ∧ w'.cell? ⟨g2, off2 + k * 2 + 1, none⟩ = some (.float .f64 rv)))
      obtain ⟨_, _, d0, d1⟩ := HS.out _ hb
      have hbt := batchF_take (kind := kind) (l := l) hx2
      have hkt := keptOf_take (l := l) hx2
      have hok := HRO.out _ (List.mem_of_getElem? hx2)
      have hrun : ∀ (F : Fate), runF l ⟨rk, rv⟩ = F → ∀ (k' : Int) (v' : Nat) (n : Int), F.rec_.key = k' → F.rec_.val = v' → F.num = n → ∀ w, RowOf OpV.cells 3 w w.heap.size A l →
          Calls Try.prog 14 #[.slice A l.length cap, .agg #[.int .u64 rk, .float .f64 rv]] w fun e w' => e = .returned (.tuple #[.agg #[.int .u64 k', .float .f64 v'], .int .i64 n]) ∧ Below w.heap.size w w' := by
        rintro F hF _ _ _ rfl rfl rfl w hr
        exact ops_Run l A cap rk rv w hr HCK.out HO.out hok.1.1 hok.1.2 F hF
      have HRUN := Lib.hid hrun
      have HBT := Lib.hid hbt
      have HKT := Lib.hid hkt
      clear hx2 hd0 hd e0 e1 hrun hbt hkt
      have hkk : (keptOf l (recs.take k)).length ≤ k := Nat.le_trans (List.length_filter_le _ _) (List.length_take_le _ _)
      generalize hKO : keptOf l (recs.take k) = ks at *
      generalize hM : (batchF kind l (recs.take k)).1 = M at *
      generalize hn : (batchF kind l (recs.take k)).2 = nt at *
      have HKO := Lib.hid hKO
      have HMM := Lib.hid hM
      have HNN := Lib.hid hn
      clear hKO hM hn
      go_wp2
      obtain ⟨k', hk'⟩ : ∃ x, (runF l ⟨rk, rv⟩).rec_.key = x := ⟨_, rfl⟩
      obtain ⟨v', hv'⟩ : ∃ x, (runF l ⟨rk, rv⟩).rec_.val = x := ⟨_, rfl⟩
      obtain ⟨n, hn⟩ : ∃ x, (runF l ⟨rk, rv⟩).num = x := ⟨_, rfl⟩
      have HC := Lib.hid (HRUN.out _ rfl k' v' n hk' hv' hn)
      have HN' := Lib.hid hn
      clear hk' hv' hn
      go_upto_region 10 with (fail)
      go_cut [7] (fun f wc => f = .int .i64 n ∧ wc.ownsRow wn.heap.size 41 2 u3 ks.length (ks.flatMap RecV.cells) ∧ Below wn.heap.size wn wc)
      case first =>
        go_region_held (fun w' => w'.cell? ⟨w.heap.size, 0, none⟩ = some (.slice A l.length cap) ∧ w'.cell? ⟨w.heap.size, 2, none⟩ = some (.slice (some ⟨g2, off2, none⟩) recs.length cap') ∧ w'.cell? ⟨g2, off2 + k * 2, none⟩ = some (.int .u64 rk) ∧ w'.cell? ⟨g2, off2 + k * 2 + 1, none⟩ = some (.float .f64 rv))
          (first | assumption | exact HS.out _ (by ((repeat' (first | exact Below.refl _ _ | assumption | refine below_drewN ?_ _ | refine Below.drew ?_ | refine Below.setCell ?_ ?_ _ | refine Below.alloc ?_ ?_ _ | (refine Below.trans ?_ (Below.mono (by assumption) ?_)))) <;> (first | (simp; done) | (simp; omega) | omega))))
          (first | (go_at_call 14; refine (HC.out _ ?_).mono ?_; exact (HJ.out.nx (by ((repeat' (first | exact Below.refl _ _ | assumption | refine below_drewN ?_ _ | refine Below.drew ?_ | refine Below.setCell ?_ ?_ _ | refine Below.alloc ?_ ?_ _ | (refine Below.trans ?_ (Below.mono (by assumption) ?_)))) <;> (first | (simp; done) | (simp; omega) | omega)))).2.1; rintro e w2 ⟨rfl, hb2⟩; have hz2 : wr.heap.size ≤ w2.heap.size := (by have := hb2.size; simp at this; omega); have hz3 : wn.heap.size ≤ w2.heap.size := (by omega); (try (have kN := Blk.call hb2 (Blk.new wr 41 #[.int .u64 0, .float .f64 0]).drew; have n0 := kN.cell 0; have n1 := kN.cell 1; have nf := fun i => kN.frozen i; simp at n0 n1))))
        all_goals
          go_wp2_with fail
          go_meet
        all_goals
          first
          | exact ⟨rfl, (own_call HOW.out.drew hb2).alloc _, by ((repeat' (first | exact Below.refl _ _ | assumption | refine below_drewN ?_ _ | refine Below.drew ?_ | refine Below.setCell ?_ ?_ _ | refine Below.alloc ?_ ?_ _ | (refine Below.trans ?_ (Below.mono (by assumption) ?_)))) <;> (first | (simp; done) | (simp; omega) | omega))⟩
          | exact ⟨rfl, own_call HOW.out (by ((repeat' (first | exact Below.refl _ _ | assumption | refine below_drewN ?_ _ | refine Below.drew ?_ | refine Below.setCell ?_ ?_ _ | refine Below.alloc ?_ ?_ _ | (refine Below.trans ?_ (Below.mono (by assumption) ?_)))) <;> (first | (simp; done) | (simp; omega) | omega))), by ((repeat' (first | exact Below.refl _ _ | assumption | refine below_drewN ?_ _ | refine Below.drew ?_ | refine Below.setCell ?_ ?_ _ | refine Below.alloc ?_ ?_ _ | (refine Below.trans ?_ (Below.mono (by assumption) ?_)))) <;> (first | (simp; done) | (simp; omega) | omega))⟩
      case rest =>
        obtain ⟨rfl, hown2, hb2⟩ := hcut
        clear c0 c1 c2 c3 d0 d1
        have hz2 := hb2.size
        have HOW := Lib.hid hown2
        clear hown2
        obtain ⟨c0, c2, d0, d1⟩ := HS.out _ hb2
        cases hF : runF l ⟨rk, rv⟩ with
        | kept r' =>
          obtain rfl : n = 1 := by have := HN'.out; rw [hF] at this; exact this.symm
          have HB2 := Lib.hid (show (batchF kind l (recs.take (k + 1))).2 = nt by rw [HBT.out]; simp only [batchStep, hF]; exact HNN.out)
          have HK2 := Lib.hid (show keptOf l (recs.take (k + 1)) = ks ++ [⟨rk, rv⟩] by rw [HKT.out]; simp [isKept, hF])
          clear hF
          go_wp2_with (first
            | (at_builtin; refine wpList_append_any _ rfl _ _ 23 rfl wn.heap.size 41 i0 (.agg #[.int .u64 0, .float .f64 0]) 2 16 Try.underlying23 hi0 hi1 hi2 hi3 rfl (by decide) _ ks.length _ rfl (HOW.out.alloc _) (wc.heap.size + 1) _ 1 1 [.int .u64 rk, .float .f64 rv] rfl (reads_blk (Blk.new wc 41 #[.int .u64 rk, .float .f64 rv]) rfl) (fun u hu => by simp at hu; rcases hu with rfl | rfl <;> rfl) (by unfold maxLen; omega) (by omega) (by simp; omega) ?_; intro v' w' hown' hgr hat)
            | go_in)
          go_roundw
          case rel =>
            refine ⟨k + 1, by omega, by go_num, by rw [HB2.out], by rw [HB2.out]; omega, ?_, (hb2.alloc hz2 _).grown hgr (by simp; omega) (fun j hj => ownsRow_base HOW.out hj)⟩
            rw [HK2.out, List.length_append, List.flatMap_append]
            exact hown'
          case measure => simp [intOf]; omega
        | dropped =>
          obtain rfl : n = 2 := by have := HN'.out; rw [hF] at this; exact this.symm
          have HB2 := Lib.hid (show (batchF kind l (recs.take (k + 1))).2 = nt by rw [HBT.out]; simp only [batchStep, hF]; exact HNN.out)
          have HK2 := Lib.hid (show keptOf l (recs.take (k + 1)) = ks by rw [HKT.out]; simp [isKept, hF])
          clear hF
          go_wp2
          go_roundw
          case rel => exact ⟨k + 1, by omega, by go_num, by rw [HB2.out], by rw [HB2.out]; omega, by rw [HK2.out]; exact HOW.out, hb2⟩
          case measure => simp [intOf]; omega
        | trapped =>
          obtain rfl : n = 3 := by have := HN'.out; rw [hF] at this; exact this.symm
          have HB2 := Lib.hid (show (batchF kind l (recs.take (k + 1))).2 = nt + 1 by rw [HBT.out]; simp only [batchStep, hF]; rw [HNN.out])
          have HK2 := Lib.hid (show keptOf l (recs.take (k + 1)) = ks by rw [HKT.out]; simp [isKept, hF])
          clear hF
          go_wp2
          go_roundw
          case rel => exact ⟨k + 1, by omega, by go_num, by rw [HB2.out]; go_num, by rw [HB2.out]; omega, by rw [HK2.out]; exact HOW.out, hb2⟩
          case measure => simp [intOf]; omega
    · have hkl' : k = recs.length := by omega
      subst hkl'
      rw [List.take_length] at *
      have hown := HOW.out
      obtain ⟨Ak, capk, rfl, hrk, _⟩ := RowOf.of_own (enc := RecV.cells) (l := keptOf l recs) (fun _ => rfl) hown
      have RK := Lib.hid hrk
      have C := Lib.hid (below_call hb C.out)
      have HJ := Lib.hid (HJ.out.nx hb)
      clear hown hrk HOW hb
      have hcs := fun (c : List PairV) (n : Nat) (h : Tab (batchF 1 l recs).1 c n) => count_sum h (by omega)
      have hcb := fun (c : List PairV) (n : Nat) (h : Tab (batchF 1 l recs).1 c n) => count_bits h (by omega)
      have HCS := Lib.hid hcs
      have HCB := Lib.hid hcb
      clear hcs hcb c0 c1 c2 c3
      obtain ⟨c0, c1, c2, c3, _⟩ := blkQ HJ.out.1
      go_wp2_with fail
      refine (HT.out _ HJ.out.2.1 HJ.out.2.2).mono ?_
      rintro e wa ⟨t0, A0, ct0, rfl, ht0, hr0, hb⟩
      have C := Lib.hid (below_call hb C.out); have HJ := Lib.hid (HJ.out.nx hb); obtain ⟨c0, c1, c2, c3, _⟩ := blkQ HJ.out.1;  have RK := Lib.hid (RK.out.nx hb); have R0 := Lib.hid hr0; have T0 := Lib.hid ht0; clear hb hr0 ht0
      go_wp2_with fail
      refine (HTK.out Ak capk _ HJ.out.2.1 RK.out).mono ?_
      rintro e wb ⟨t1, A1, ct1, rfl, ht1, hr1, hb⟩
      have C := Lib.hid (below_call hb C.out); have HJ := Lib.hid (HJ.out.nx hb); obtain ⟨c0, c1, c2, c3, _⟩ := blkQ HJ.out.1;  have R0 := Lib.hid (R0.out.nx hb); have R1 := Lib.hid hr1; have T1 := Lib.hid ht1; clear hb hr1 ht1
      go_wp2_with fail
      refine (same_eq t0 t1 A0 A1 ct0 ct1 _ (T0.out.uniq T1.out) R0.out R1.out (by have := T0.out.len; omega)).mono ?_
      rintro e wd ⟨rfl, hb⟩
      have C := Lib.hid (below_call hb C.out); have HJ := Lib.hid (HJ.out.nx hb); obtain ⟨c0, c1, c2, c3, _⟩ := blkQ HJ.out.1;  clear hb
      go_wp2_with fail
      refine (HBC.out _ HJ.out.2.1 HJ.out.2.2).mono ?_
      rintro e wf ⟨ss, v, rfl, h1, h2, h3, h4, hb⟩
      obtain ⟨c, Ac, cc, rfl, htc, hrc⟩ := tab_of h1 h2 h3 h4
      have C := Lib.hid (below_call hb C.out); have HJ := Lib.hid (HJ.out.nx hb); obtain ⟨c0, c1, c2, c3, _⟩ := blkQ HJ.out.1;  have RC := Lib.hid hrc; have TC := Lib.hid htc; clear hb hrc h1 h2 h3 h4
      clear c0 c1 c2 c3
      have hcn := TC.out.len
      have SC := Lib.hid (HCS.out c _ TC.out)
      have SB := Lib.hid (sumF_mono (HCB.out c _ TC.out))
      have HLN := Lib.hid (show c.length = t0.length from TC.out.same_len T0.out (fun x => by rw [one_has (by decide), one_has HKN.out]))
      have HKL := Lib.hid (show (keptKeys l recs).length = (keptOf l recs).length from keptKeys_length l recs)
      clear htc
      go_wp2_with fail
      go_loopw [14, 18] (fun s i wr => ∃ k : Nat, k ≤ c.length ∧ i = .int .i64 k ∧ s = .int .u64 (sumF (c.take k)) ∧ Below wf.heap.size wf wr) (fun _ i _ => c.length - (intOf i).toNat)
      case atStart => exact ⟨0, Nat.zero_le _, rfl, rfl, Below.refl _ _⟩
      case round =>
        obtain ⟨k, hk, rfl, rfl, hb⟩ := hrel
        by_cases hlt : k < c.length
        · obtain ⟨g, off, ⟨ky, ⟨h, n⟩⟩, rfl, hgl, hx, hc0, hc⟩ := (RC.out.nx hb).at_ hlt
          have c0 := hc0 _ rfl
          have c1 := hc 1 _ rfl
          have c2 := hc 2 _ rfl
          have hst := sumF_take hx
          have HST := Lib.hid (show sumF (c.take (k + 1)) = sumF (c.take k) + n from hst)
          have q1 := SB.out k
          have q2 := SB.out (k + 1)
          have hwr : IntKind.u64.wrap (sumF (c.take k) + n) = sumF (c.take k) + n := by
            have e : ∀ x, IntKind.u64.wrap x = x % 18446744073709551616 := fun _ => rfl
            have := SC.out
            have := HKL.out
            rw [e, ← HST.out]
            omega
          have HX := Lib.hid hx
          clear hx hc0 hc hst
          generalize hS : sumF (c.take k) = s at *
          have HS := Lib.hid hS
          clear hS
          go_wp2
          go_roundw
          case rel => exact ⟨k + 1, by omega, by go_num, by rw [HST.out], by ((repeat' (first | exact Below.refl _ _ | assumption | refine below_drewN ?_ _ | refine Below.drew ?_ | refine Below.setCell ?_ ?_ _ | refine Below.alloc ?_ ?_ _ | (refine Below.trans ?_ (Below.mono (by assumption) ?_)))) <;> (first | (simp; done) | (simp; omega) | omega))⟩
          case measure => simp [intOf]; omega
        · have hkl' : k = c.length := by omega
          subst hkl'
          have hs : sumF c = ((keptOf l recs).length : Int) := by rw [SC.out, HKL.out]
          have hcl := HLN.out
          rw [List.take_length, hs, hcl]
          clear hs hcl
          go_wp2
          go_ret
          exact ⟨rfl, below_call hb C.out⟩

set_option maxRecDepth 100000 in
set_option maxHeartbeats 8000000 in
theorem law_FoldTraps_wrong (l : List OpV) (A : Option Addr) (cap : Nat) (kind : Int) (nr : Nat) (A' : Option Addr) (cap' : Nat) (at_ : Int) (w : World) (hr : RowOf OpV.cells 3 w w.heap.size A l)
    (hll : l.length ≤ 140737488351232) (hw : (decide (checkF l = 0) && known kind) = false) :
    Calls Try.prog 4 #[jobV A l.length cap kind A' nr cap' at_] w fun e w' => e = .returned (.bool true) ∧ Below w.heap.size w w' := by
  have hR := fun w hr => law_right l A cap kind A' nr cap' at_ w hr hll
  rw [hw] at hR
  have HRT := Lib.hid hR
  have ba : Below w.heap.size w (w.alloc (.cells #[.slice A l.length cap, .int .i64 kind, .slice A' nr cap', .int .i64 at_] 25)) := (Below.refl _ _).alloc (Nat.le_refl _) _
  have HL := Lib.hid (hr.nx ba)
  have C := Lib.hid ba
  have K := Lib.hid (Blk.new w 25 #[.slice A l.length cap, .int .i64 kind, .slice A' nr cap', .int .i64 at_])
  clear hR hr hw ba
  go_enter Try.func4, Try.ntmps4
  go_wp2_with (first
    | (go_at_call 7; refine (law_awake _).mono ?_; rintro e wn ⟨rfl, hb⟩; have C := Lib.hid (below_call hb C.out); have K := Lib.hid (Blk.call hb K.out); obtain ⟨c0, c1, c2, c3, _⟩ := blkQ K.out; have HL := Lib.hid (HL.out.nx hb); clear hb)
    | (go_at_call 8; refine (HRT.out _ HL.out).mono ?_; rintro e wn ⟨rfl, hb⟩; have C := Lib.hid (below_call hb C.out); clear hb))
  go_ret
  exact ⟨rfl, C.out⟩

theorem law_FoldTraps (l : List OpV) (A : Option Addr) (cap : Nat) (kind : Int) (recs : List RecV) (A' : Option Addr) (cap' : Nat) (at_ : Int) (w : World) (hr : RowOf OpV.cells 3 w w.heap.size A l) (hr' : RowOf RecV.cells 2 w w.heap.size A' recs)
    (ho : ∀ o ∈ l, o.n ≤ 9223372036854775807) (hk : RecsOk recs) (hl : recs.length ≤ 68719476736) (hll : l.length ≤ 140737488351232) :
    Calls Try.prog 4 #[jobV A l.length cap kind A' recs.length cap' at_] w fun e w' => e = .returned (.bool true) ∧ Below w.heap.size w w' := by
  cases h : (decide (checkF l = 0) && known kind)
  · exact law_FoldTraps_wrong l A cap kind recs.length A' cap' at_ w hr hll h
  · simp only [Bool.and_eq_true, decide_eq_true_eq] at h
    exact law_FoldTraps_right l A cap kind recs A' cap' at_ w hr hr' h.1 ho hk hl hll h.2

end Go.Proofs.Ytifpcjpmannddaa
