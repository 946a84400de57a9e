/- The walk of FoldParts. -/
import Derived.Test.YtifpcjpmannddaaAwk
import Derived.Test.YtifpcjpmannddaaPl5
namespace Go.Proofs.Ytifpcjpmannddaa
open Go.Proofs Go.RowKit
attribute [local go_sem ↓] Go.wp_at_zero Go.wp_at_succ
attribute [local go_sem] run_store_float

theorem RowOf.nx {α : Type} {enc : α → List Value} {size : Nat} {w w' : World} {A : Option Addr} {l : List α} (h : RowOf enc size w w.heap.size A l) (hb : Below w.heap.size w w') : RowOf enc size w' w'.heap.size A l := h.up hb hb.size
theorem RowOf.drew {α : Type} {enc : α → List Value} {size B : Nat} {w : World} {A : Option Addr} {l : List α} (h : RowOf enc size w B A l) : RowOf enc size w.drew B A l := h
theorem RowOf.take {α : Type} {enc : α → List Value} {size B : Nat} {w : World} {A : Option Addr} {l : List α} (h : RowOf enc size w B A l) (k : Nat) : RowOf enc size w B A (l.take k) := fun hn => by
  obtain ⟨b, off, e, hb, hc⟩ := h (by rw [List.length_take] at hn; omega)
  refine ⟨b, off, e, hb, fun i x hi => hc i x ?_⟩
  rw [List.getElem?_take] at hi
  split at hi
  · exact hi
  · cases hi
theorem RowOf.cut {α : Type} {enc : α → List Value} {size B : Nat} {w : World} {A : Option Addr} {l : List α} (h : RowOf enc size w B A l) {k cap : Nat} (hc : l.length ≤ cap) : RowOf enc size w B (if cap = k then A else A.map (·.add (k * size))) (l.drop k) := fun hn => by
  rw [List.length_drop] at hn
  obtain ⟨b, off, rfl, hb, hcell⟩ := h (by omega)
  rw [if_neg (by omega)]
  refine ⟨b, off + k * size, ?_, hb, fun i x hi j u hu => ?_⟩
  · show some (Addr.add ⟨b, off, none⟩ (k * size)) = _
    unfold Addr.add
    split
    · rename_i h0; simp [h0]
    · rfl
  · rw [List.getElem?_drop] at hi
    have := hcell _ x hi j u hu
    rw [← this]
    congr 2
    rw [Nat.add_mul]; omega
theorem blkQ {w : World} {g : Nat} {t : TypeId} {a b c d : Value} (h : Blk w g t #[a, b, c, d]) : w.cell? ⟨g, 0, none⟩ = some a ∧ w.cell? ⟨g, 1, none⟩ = some b ∧ w.cell? ⟨g, 2, none⟩ = some c ∧ w.cell? ⟨g, 3, none⟩ = some d ∧ Blk w g t #[a, b, c, d] := ⟨h.cell 0, h.cell 1, h.cell 2, h.cell 3, h⟩
theorem blkQOf {w : World} {g : Nat} {t : TypeId} {a b c d : Value} (h : w.cell? ⟨g, 0, none⟩ = some a ∧ w.cell? ⟨g, 1, none⟩ = some b ∧ w.cell? ⟨g, 2, none⟩ = some c ∧ w.cell? ⟨g, 3, none⟩ = some d ∧ Blk w g t #[a, b, c, d]) : Blk w g t #[a, b, c, d] := h.2.2.2.2

theorem same_eq (t u : List PairV) (A B : Option Addr) (cap cap' : Nat) (w : World) (he : t = u) (hr : RowOf PairV.cells 3 w w.heap.size A t) (hs : RowOf PairV.cells 3 w w.heap.size B u) (hl : t.length ≤ 140737488351232) :
    Calls Try.prog 13 #[.slice A t.length cap, .slice B u.length cap'] w fun e w' => e = .returned (.bool true) ∧ Below w.heap.size w w' := by
  have := law_same t u A B cap cap' w hr hs hl
  rwa [decide_eq_true he] at this

/-- What an input's records are: keys and values in their ranges. -/
def RecsOk (recs : List RecV) : Prop := ∀ r ∈ recs, r.Ok ∧ r.val < 18446744073709551616

set_option maxRecDepth 100000 in
set_option maxHeartbeats 16000000 in
theorem law_FoldParts_right (l : List OpV) (A : Option Addr) (cap : Nat) (kind : Int) (recs : List RecV) (A' : Option Addr) (cap' : Nat) (at_ : Int) (w : World) (hr : RowOf OpV.cells 3 w w.heap.size A l) (hr' : RowOf RecV.cells 2 w w.heap.size A' recs)
    (hc : checkF l = 0) (ho : ∀ o ∈ l, o.n ≤ 9223372036854775807) (hk : RecsOk recs) (hl : recs.length ≤ 68719476736) (hll : l.length ≤ 140737488351232) (hcap : recs.length ≤ cap') (hcm : cap' ≤ 9223372036854775807) (hkn : known kind = true) :
    Calls Try.prog 3 #[jobV A l.length cap kind A' recs.length cap' at_] w fun e w' => e = .returned (.bool true) ∧ Below w.heap.size w w' := by
  have hp := placeF_le at_ recs.length
  have hR := fun w hr => law_right l A cap kind A' recs.length cap' at_ w hr hll
  rw [hc, hkn] at hR
  have HRT := Lib.hid hR
  have HPL := Lib.hid (fun w => law_place A l.length cap kind A' recs.length cap' at_ w (by omega))
  have hT := fun (rs : List RecV) (hs : ∀ r ∈ rs, r.Ok ∧ r.val < 18446744073709551616) (A2 : Option Addr) (cap2 n : Nat) (hn : rs.length = n) (hn' : n ≤ 68719476736) (w : World) (hr : RowOf OpV.cells 3 w w.heap.size A l) (hr2 : RowOf RecV.cells 2 w w.heap.size A2 rs) => by
    have := law_table l A cap kind A' recs.length cap' at_ rs A2 cap2 w hr hr2 hc ho (fun r h => (hs r h).1) (by omega) hkn
    rw [hn] at this
    exact this
  have HT := Lib.hid hT
  have HKN := Lib.hid hkn
  have HRO := Lib.hid hk
  have ba : Below w.heap.size w (w.alloc (.cells #[.slice A l.length cap, .int .i64 kind, .slice A' recs.length cap', .int .i64 at_] 25)) := (Below.refl _ _).alloc (Nat.le_refl _) _
  have HL := Lib.hid (hr.nx ba)
  have HR := Lib.hid (hr'.nx ba)
  have C := Lib.hid ba
  have K := Lib.hid (Blk.new w 25 #[.slice A l.length cap, .int .i64 kind, .slice A' recs.length cap', .int .i64 at_])
  have hkk : ((placeF at_ recs.length : Nat) : Int) ≤ (recs.length : Int) := by omega
  have hkc : ((placeF at_ recs.length : Nat) : Int) ≤ (cap' : Int) := by omega
  have hk0 : (0 : Int) ≤ ((placeF at_ recs.length : Nat) : Int) := by omega
  have htk : (recs.take (placeF at_ recs.length)).length = placeF at_ recs.length := by rw [List.length_take]; omega
  have hdk : (recs.drop (placeF at_ recs.length)).length = recs.length - placeF at_ recs.length := by rw [List.length_drop]
  have HTK := Lib.hid htk
  have HDK := Lib.hid hdk
  have HSP := Lib.hid (List.take_append_drop (placeF at_ recs.length) recs)
  have HLN := Lib.hid hl
  clear hR hT hr hr' hc ho hk hkn ba htk hdk
  have hnw : wrap64 ((((batchF kind l (recs.take (placeF at_ recs.length))).2 : Nat) : Int) + (((batchF kind l (recs.drop (placeF at_ recs.length))).2 : Nat) : Int)) = (((batchF kind l recs).2 : Nat) : Int) := by
    have h1 := trapN_append l (recs.take (placeF at_ recs.length)) (recs.drop (placeF at_ recs.length))
    rw [List.take_append_drop, ← batch_trap kind, ← batch_trap kind, ← batch_trap kind] at h1
    have h2 : (batchF kind l recs).2 ≤ recs.length := by rw [batch_trap]; exact List.length_filter_le _ _
    unfold wrap64
    omega
  have HNW := Lib.hid hnw
  clear hnw
  generalize hpk : placeF at_ recs.length = k at *
  clear hpk
  by_cases hck : cap' = k
  · subst hck
    have HCUT := Lib.hid (fun (w : World) (B : Nat) (h : RowOf RecV.cells 2 w B A' recs) => (show RowOf RecV.cells 2 w B A' (recs.drop cap') by have := h.cut (k := cap') (cap := cap') hcap; rwa [if_pos rfl] at this))
    go_enter Try.func3, Try.ntmps3
    go_wp2_with (first
      | (go_at_call 7; refine (law_awake _).mono ?_; rintro e wn ⟨rfl, hb⟩; have C := Lib.hid (below_call hb C.out); have K := Lib.hid (Blk.call hb K.out); obtain ⟨c0, c1, c2, c3, _⟩ := blkQ K.out; have HL := Lib.hid (HL.out.nx hb); have HR := Lib.hid (HR.out.nx hb); clear hb)
      | (go_at_call 8; refine (HRT.out _ HL.out).mono ?_; rintro e wn ⟨rfl, hb⟩; have C := Lib.hid (below_call hb C.out); have K := Lib.hid (Blk.call hb K.out); obtain ⟨c0, c1, c2, c3, _⟩ := blkQ K.out; have HL := Lib.hid (HL.out.nx hb); have HR := Lib.hid (HR.out.nx hb); clear hb)
      | (go_at_call 10; refine (HPL.out _).mono ?_; rintro e wn ⟨rfl, hb⟩; have C := Lib.hid (below_call hb C.out); have K := Lib.hid (Blk.call hb K.out); obtain ⟨c0, c1, c2, c3, _⟩ := blkQ K.out; have HL := Lib.hid (HL.out.nx hb); have HR := Lib.hid (HR.out.nx hb); clear hb)
      | (go_at_call 11; refine (HT.out recs HRO.out A' cap' _ rfl (by omega) _ HL.out HR.out).mono ?_; rintro e wn ⟨t0, A0, ct0, rfl, ht0, hr0, hb⟩; have C := Lib.hid (below_call hb C.out); have K := Lib.hid (Blk.call hb K.out); obtain ⟨c0, c1, c2, c3, _⟩ := blkQ K.out; have HL := Lib.hid (HL.out.nx hb); have HR := Lib.hid (HR.out.nx hb); have R0 := Lib.hid hr0; have T0 := Lib.hid ht0; clear hr0 ht0; clear hb))
    go_region_held (fun w' => w'.cell? ⟨w.heap.size, 0, none⟩ = some (.slice A l.length cap) ∧ w'.cell? ⟨w.heap.size, 1, none⟩ = some (.int .i64 kind) ∧ w'.cell? ⟨w.heap.size, 2, none⟩ = some (.slice A' recs.length cap') ∧ w'.cell? ⟨w.heap.size, 3, none⟩ = some (.int .i64 at_) ∧ Blk w' w.heap.size 25 #[.slice A l.length cap, .int .i64 kind, .slice A' recs.length cap', .int .i64 at_])
      (first | assumption | exact blkQ K.out | exact blkQ K.out.drew)
      (first | (go_at_call 11; refine (HT.out (recs.take cap') (fun r h => HRO.out r (List.mem_of_mem_take h)) _ _ _ HTK.out (by omega) _ ?_ ?_).mono ?_; exact HL.out.drew; exact HR.out.drew.take _; rintro e wn ⟨t1, A1, ct1, rfl, ht1, hr1, hb⟩; have C := Lib.hid (below_call hb C.out.drew); have K := Lib.hid (Blk.call hb K.out.drew); obtain ⟨c0, c1, c2, c3, _⟩ := blkQ K.out; have HL := Lib.hid (HL.out.drew.nx hb); have HR := Lib.hid (HR.out.drew.nx hb); have R0 := Lib.hid (R0.out.drew.nx hb); have R1 := Lib.hid hr1; have T1 := Lib.hid ht1; clear hr1 ht1; clear hb))
    go_wp2_with fail
    go_region_held (fun w' => w'.cell? ⟨w.heap.size, 0, none⟩ = some (.slice A l.length cap) ∧ w'.cell? ⟨w.heap.size, 1, none⟩ = some (.int .i64 kind) ∧ w'.cell? ⟨w.heap.size, 2, none⟩ = some (.slice A' recs.length cap') ∧ w'.cell? ⟨w.heap.size, 3, none⟩ = some (.int .i64 at_) ∧ Blk w' w.heap.size 25 #[.slice A l.length cap, .int .i64 kind, .slice A' recs.length cap', .int .i64 at_])
      (first | assumption | exact blkQ K.out | exact blkQ K.out.drew)
      (first | (go_at_call 11; refine (HT.out (recs.drop cap') (fun r h => HRO.out r (List.mem_of_mem_drop h)) _ _ _ ?_ ?_ _ ?_ ?_).mono ?_; (rw [List.length_drop] <;> omega); omega; exact HL.out.drew; exact HCUT.out _ _ HR.out.drew; rintro e wn ⟨t2, A2, ct2, rfl, ht2, hr2, hb⟩; have C := Lib.hid (below_call hb C.out.drew); have K := Lib.hid (Blk.call hb K.out.drew); obtain ⟨c0, c1, c2, c3, _⟩ := blkQ K.out; have HL := Lib.hid (HL.out.drew.nx hb); have HR := Lib.hid (HR.out.drew.nx hb); have R0 := Lib.hid (R0.out.drew.nx hb); have R1 := Lib.hid (R1.out.drew.nx hb); have R2 := Lib.hid hr2; have T2 := Lib.hid ht2; clear hr2 ht2; clear hb))
    have hnw := HNW.out
    go_wp2_with (first
      | (go_at_call_of 12 [Value.slice A2 t2.length ct2]; refine (fold_Add kind t1 t2 A1 A2 ct1 ct2 _ R1.out R2.out T1.out.sound T2.out.sound T1.out.wf T2.out.wf (by have := T1.out.len; have := HTK.out; omega) (by have := T2.out.len; have := HDK.out; omega) HKN.out).mono ?_; rintro e wn ⟨s3, v3, rfl, h31, h32, h33, h34, hb⟩; have C := Lib.hid (below_call hb C.out); have K := Lib.hid (Blk.call hb K.out); obtain ⟨c0, c1, c2, c3, _⟩ := blkQ K.out; have HL := Lib.hid (HL.out.nx hb); have HR := Lib.hid (HR.out.nx hb); have R0 := Lib.hid (R0.out.nx hb); have R1 := Lib.hid (R1.out.nx hb); have R2 := Lib.hid (R2.out.nx hb); obtain ⟨t3, A3, ct3, rfl, ht3, hr3⟩ := tab_of h31 h32 h33 h34; have R3 := Lib.hid hr3; have T3 := Lib.hid ht3; clear hr3 ht3 h31 h32 h33 h34; clear hb)
      | (go_at_call_of 12 [Value.slice A1 t1.length ct1]; refine (fold_Add kind t2 t1 A2 A1 ct2 ct1 _ R2.out R1.out T2.out.sound T1.out.sound T2.out.wf T1.out.wf (by have := T2.out.len; have := HDK.out; omega) (by have := T1.out.len; have := HTK.out; omega) HKN.out).mono ?_; rintro e wn ⟨s4, v4, rfl, h41, h42, h43, h44, hb⟩; have C := Lib.hid (below_call hb C.out); have K := Lib.hid (Blk.call hb K.out); obtain ⟨c0, c1, c2, c3, _⟩ := blkQ K.out; have HL := Lib.hid (HL.out.nx hb); have HR := Lib.hid (HR.out.nx hb); have R0 := Lib.hid (R0.out.nx hb); have R1 := Lib.hid (R1.out.nx hb); have R2 := Lib.hid (R2.out.nx hb); have R3 := Lib.hid (R3.out.nx hb); obtain ⟨t4, A4, ct4, rfl, ht4, hr4⟩ := tab_of h41 h42 h43 h44; have R4 := Lib.hid hr4; have T4 := Lib.hid ht4; clear hr4 ht4 h41 h42 h43 h44; have hpp := add_parts HKN.out (fun r h => (HRO.out r (List.mem_of_mem_take h)).2) (fun r h => (HRO.out r (List.mem_of_mem_drop h)).2) T1.out T2.out; rw [HSP.out] at hpp; have e3 : t3 = t0 := by { have := T3.out; rw [hpp.1] at this; exact this.uniq T0.out }; have e4 : t4 = t0 := by { have := T4.out; rw [hpp.2] at this; exact this.uniq T0.out }; have E3 := Lib.hid e3; have E4 := Lib.hid e4; clear hpp e3 e4; clear hb)
      | (go_at_call_of 13 A3; refine (same_eq t3 t0 A3 A0 ct3 ct0 _ E3.out R3.out R0.out (by have := T3.out.len; have := T1.out.len; have := T2.out.len; have := HTK.out; have := HDK.out; omega)).mono ?_; rintro e wn ⟨rfl, hb⟩; have C := Lib.hid (below_call hb C.out); have K := Lib.hid (Blk.call hb K.out); obtain ⟨c0, c1, c2, c3, _⟩ := blkQ K.out; have HL := Lib.hid (HL.out.nx hb); have HR := Lib.hid (HR.out.nx hb); have R0 := Lib.hid (R0.out.nx hb); have R1 := Lib.hid (R1.out.nx hb); have R2 := Lib.hid (R2.out.nx hb); have R3 := Lib.hid (R3.out.nx hb); have R4 := Lib.hid (R4.out.nx hb); clear hb)
      | (go_at_call_of 13 A4; refine (same_eq t4 t0 A4 A0 ct4 ct0 _ E4.out R4.out R0.out (by have := T4.out.len; have := T1.out.len; have := T2.out.len; have := HTK.out; have := HDK.out; omega)).mono ?_; rintro e wn ⟨rfl, hb⟩; have C := Lib.hid (below_call hb C.out); have K := Lib.hid (Blk.call hb K.out); obtain ⟨c0, c1, c2, c3, _⟩ := blkQ K.out; have HL := Lib.hid (HL.out.nx hb); have HR := Lib.hid (HR.out.nx hb); have R0 := Lib.hid (R0.out.nx hb); have R1 := Lib.hid (R1.out.nx hb); have R2 := Lib.hid (R2.out.nx hb); have R3 := Lib.hid (R3.out.nx hb); have R4 := Lib.hid (R4.out.nx hb); clear hb))
    go_ret
    exact ⟨rfl, C.out⟩
  · have HCUT := Lib.hid (fun (w : World) (B : Nat) (h : RowOf RecV.cells 2 w B A' recs) => (show RowOf RecV.cells 2 w B (A'.map (·.add (k * 2))) (recs.drop k) by have := h.cut (k := k) (cap := cap') hcap; rwa [if_neg hck] at this))
    go_enter Try.func3, Try.ntmps3
    go_wp2_with (first
      | (go_at_call 7; refine (law_awake _).mono ?_; rintro e wn ⟨rfl, hb⟩; have C := Lib.hid (below_call hb C.out); have K := Lib.hid (Blk.call hb K.out); obtain ⟨c0, c1, c2, c3, _⟩ := blkQ K.out; have HL := Lib.hid (HL.out.nx hb); have HR := Lib.hid (HR.out.nx hb); clear hb)
      | (go_at_call 8; refine (HRT.out _ HL.out).mono ?_; rintro e wn ⟨rfl, hb⟩; have C := Lib.hid (below_call hb C.out); have K := Lib.hid (Blk.call hb K.out); obtain ⟨c0, c1, c2, c3, _⟩ := blkQ K.out; have HL := Lib.hid (HL.out.nx hb); have HR := Lib.hid (HR.out.nx hb); clear hb)
      | (go_at_call 10; refine (HPL.out _).mono ?_; rintro e wn ⟨rfl, hb⟩; have C := Lib.hid (below_call hb C.out); have K := Lib.hid (Blk.call hb K.out); obtain ⟨c0, c1, c2, c3, _⟩ := blkQ K.out; have HL := Lib.hid (HL.out.nx hb); have HR := Lib.hid (HR.out.nx hb); clear hb)
      | (go_at_call 11; refine (HT.out recs HRO.out A' cap' _ rfl (by omega) _ HL.out HR.out).mono ?_; rintro e wn ⟨t0, A0, ct0, rfl, ht0, hr0, hb⟩; have C := Lib.hid (below_call hb C.out); have K := Lib.hid (Blk.call hb K.out); obtain ⟨c0, c1, c2, c3, _⟩ := blkQ K.out; have HL := Lib.hid (HL.out.nx hb); have HR := Lib.hid (HR.out.nx hb); have R0 := Lib.hid hr0; have T0 := Lib.hid ht0; clear hr0 ht0; clear hb))
    go_region_held (fun w' => w'.cell? ⟨w.heap.size, 0, none⟩ = some (.slice A l.length cap) ∧ w'.cell? ⟨w.heap.size, 1, none⟩ = some (.int .i64 kind) ∧ w'.cell? ⟨w.heap.size, 2, none⟩ = some (.slice A' recs.length cap') ∧ w'.cell? ⟨w.heap.size, 3, none⟩ = some (.int .i64 at_) ∧ Blk w' w.heap.size 25 #[.slice A l.length cap, .int .i64 kind, .slice A' recs.length cap', .int .i64 at_])
      (first | assumption | exact blkQ K.out | exact blkQ K.out.drew)
      (first | (go_at_call 11; refine (HT.out (recs.take k) (fun r h => HRO.out r (List.mem_of_mem_take h)) _ _ _ HTK.out (by omega) _ ?_ ?_).mono ?_; exact HL.out.drew; exact HR.out.drew.take _; rintro e wn ⟨t1, A1, ct1, rfl, ht1, hr1, hb⟩; have C := Lib.hid (below_call hb C.out.drew); have K := Lib.hid (Blk.call hb K.out.drew); obtain ⟨c0, c1, c2, c3, _⟩ := blkQ K.out; have HL := Lib.hid (HL.out.drew.nx hb); have HR := Lib.hid (HR.out.drew.nx hb); have R0 := Lib.hid (R0.out.drew.nx hb); have R1 := Lib.hid hr1; have T1 := Lib.hid ht1; clear hr1 ht1; clear hb))
    go_wp2_with fail
    go_region_held (fun w' => w'.cell? ⟨w.heap.size, 0, none⟩ = some (.slice A l.length cap) ∧ w'.cell? ⟨w.heap.size, 1, none⟩ = some (.int .i64 kind) ∧ w'.cell? ⟨w.heap.size, 2, none⟩ = some (.slice A' recs.length cap') ∧ w'.cell? ⟨w.heap.size, 3, none⟩ = some (.int .i64 at_) ∧ Blk w' w.heap.size 25 #[.slice A l.length cap, .int .i64 kind, .slice A' recs.length cap', .int .i64 at_])
      (first | assumption | exact blkQ K.out | exact blkQ K.out.drew)
      (first | (go_at_call 11; refine (HT.out (recs.drop k) (fun r h => HRO.out r (List.mem_of_mem_drop h)) _ _ _ ?_ ?_ _ ?_ ?_).mono ?_; (rw [List.length_drop] <;> omega); omega; exact HL.out.drew; exact HCUT.out _ _ HR.out.drew; rintro e wn ⟨t2, A2, ct2, rfl, ht2, hr2, hb⟩; have C := Lib.hid (below_call hb C.out.drew); have K := Lib.hid (Blk.call hb K.out.drew); obtain ⟨c0, c1, c2, c3, _⟩ := blkQ K.out; have HL := Lib.hid (HL.out.drew.nx hb); have HR := Lib.hid (HR.out.drew.nx hb); have R0 := Lib.hid (R0.out.drew.nx hb); have R1 := Lib.hid (R1.out.drew.nx hb); have R2 := Lib.hid hr2; have T2 := Lib.hid ht2; clear hr2 ht2; clear hb))
    have hnw := HNW.out
    go_wp2_with (first
      | (go_at_call_of 12 [Value.slice A2 t2.length ct2]; refine (fold_Add kind t1 t2 A1 A2 ct1 ct2 _ R1.out R2.out T1.out.sound T2.out.sound T1.out.wf T2.out.wf (by have := T1.out.len; have := HTK.out; omega) (by have := T2.out.len; have := HDK.out; omega) HKN.out).mono ?_; rintro e wn ⟨s3, v3, rfl, h31, h32, h33, h34, hb⟩; have C := Lib.hid (below_call hb C.out); have K := Lib.hid (Blk.call hb K.out); obtain ⟨c0, c1, c2, c3, _⟩ := blkQ K.out; have HL := Lib.hid (HL.out.nx hb); have HR := Lib.hid (HR.out.nx hb); have R0 := Lib.hid (R0.out.nx hb); have R1 := Lib.hid (R1.out.nx hb); have R2 := Lib.hid (R2.out.nx hb); obtain ⟨t3, A3, ct3, rfl, ht3, hr3⟩ := tab_of h31 h32 h33 h34; have R3 := Lib.hid hr3; have T3 := Lib.hid ht3; clear hr3 ht3 h31 h32 h33 h34; clear hb)
      | (go_at_call_of 12 [Value.slice A1 t1.length ct1]; refine (fold_Add kind t2 t1 A2 A1 ct2 ct1 _ R2.out R1.out T2.out.sound T1.out.sound T2.out.wf T1.out.wf (by have := T2.out.len; have := HDK.out; omega) (by have := T1.out.len; have := HTK.out; omega) HKN.out).mono ?_; rintro e wn ⟨s4, v4, rfl, h41, h42, h43, h44, hb⟩; have C := Lib.hid (below_call hb C.out); have K := Lib.hid (Blk.call hb K.out); obtain ⟨c0, c1, c2, c3, _⟩ := blkQ K.out; have HL := Lib.hid (HL.out.nx hb); have HR := Lib.hid (HR.out.nx hb); have R0 := Lib.hid (R0.out.nx hb); have R1 := Lib.hid (R1.out.nx hb); have R2 := Lib.hid (R2.out.nx hb); have R3 := Lib.hid (R3.out.nx hb); obtain ⟨t4, A4, ct4, rfl, ht4, hr4⟩ := tab_of h41 h42 h43 h44; have R4 := Lib.hid hr4; have T4 := Lib.hid ht4; clear hr4 ht4 h41 h42 h43 h44; have hpp := add_parts HKN.out (fun r h => (HRO.out r (List.mem_of_mem_take h)).2) (fun r h => (HRO.out r (List.mem_of_mem_drop h)).2) T1.out T2.out; rw [HSP.out] at hpp; have e3 : t3 = t0 := by { have := T3.out; rw [hpp.1] at this; exact this.uniq T0.out }; have e4 : t4 = t0 := by { have := T4.out; rw [hpp.2] at this; exact this.uniq T0.out }; have E3 := Lib.hid e3; have E4 := Lib.hid e4; clear hpp e3 e4; clear hb)
      | (go_at_call_of 13 A3; refine (same_eq t3 t0 A3 A0 ct3 ct0 _ E3.out R3.out R0.out (by have := T3.out.len; have := T1.out.len; have := T2.out.len; have := HTK.out; have := HDK.out; omega)).mono ?_; rintro e wn ⟨rfl, hb⟩; have C := Lib.hid (below_call hb C.out); have K := Lib.hid (Blk.call hb K.out); obtain ⟨c0, c1, c2, c3, _⟩ := blkQ K.out; have HL := Lib.hid (HL.out.nx hb); have HR := Lib.hid (HR.out.nx hb); have R0 := Lib.hid (R0.out.nx hb); have R1 := Lib.hid (R1.out.nx hb); have R2 := Lib.hid (R2.out.nx hb); have R3 := Lib.hid (R3.out.nx hb); have R4 := Lib.hid (R4.out.nx hb); clear hb)
      | (go_at_call_of 13 A4; refine (same_eq t4 t0 A4 A0 ct4 ct0 _ E4.out R4.out R0.out (by have := T4.out.len; have := T1.out.len; have := T2.out.len; have := HTK.out; have := HDK.out; omega)).mono ?_; rintro e wn ⟨rfl, hb⟩; have C := Lib.hid (below_call hb C.out); have K := Lib.hid (Blk.call hb K.out); obtain ⟨c0, c1, c2, c3, _⟩ := blkQ K.out; have HL := Lib.hid (HL.out.nx hb); have HR := Lib.hid (HR.out.nx hb); have R0 := Lib.hid (R0.out.nx hb); have R1 := Lib.hid (R1.out.nx hb); have R2 := Lib.hid (R2.out.nx hb); have R3 := Lib.hid (R3.out.nx hb); have R4 := Lib.hid (R4.out.nx hb); clear hb))
    go_ret
    exact ⟨rfl, C.out⟩

end Go.Proofs.Ytifpcjpmannddaa
