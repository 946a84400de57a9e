/- The keys of a map, sorted; the table that a map is written out as. -/
import Derived.Test.YtifpcjpmannddaaMp0
namespace Go.Proofs.Ytifpcjpmannddaa
open Go.Proofs Go.RowKit Go.Maps Go.Sort Go.Shelf

section
variable {α : Type} {enc : α → List Value} {size : Nat} {w w' : World} {B base : Nat} {A : Option Addr} {l : List α}
theorem RowOf.grown {row : Option Nat} (h : RowOf enc size w B A l) (hg : w.grownBy w' row) (hr : ∀ g, row = some g → B ≤ g) : RowOf enc size w' B A l := fun hn => by
  obtain ⟨b, off, e, hlt, hc⟩ := h hn
  exact ⟨b, off, e, hlt, fun k x hk j u hu => hg.cell (hc k x hk j u hu) (fun he => by have := hr _ he.symm; simp at this; omega)⟩

theorem flat_at {n : Nat} (hs : ∀ x, (enc x).length = n) : ∀ (l : List α) (k : Nat) (x : α), l[k]? = some x → ∀ (j : Nat) (u : Value), (enc x)[j]? = some u → (l.flatMap enc)[k * n + j]? = some u
  | [], k, x, h => by simp at h
  | y :: ys, 0, x, h => fun j u hu => by
    simp at h; subst h
    rw [List.flatMap_cons, List.getElem?_append_left (by have := (List.getElem?_eq_some_iff.1 hu).1; omega)]
    simpa using hu
  | y :: ys, k + 1, x, h => fun j u hu => by
    rw [List.flatMap_cons, List.getElem?_append_right (by rw [hs, Nat.succ_mul]; omega), hs]
    have := flat_at hs ys k x (by simpa using h) j u hu
    rw [show (k + 1) * n + j - n = k * n + j by rw [Nat.succ_mul]; omega]
    exact this

/-- A row that the call owns, read as a list. -/
theorem RowOf.of_own {e : TypeId} {v : Value} (hs : ∀ x, (enc x).length = size) (h : w.ownsRow base e size v l.length (l.flatMap enc)) : ∃ A cap, v = .slice A l.length cap ∧ RowOf enc size w w.heap.size A l ∧ (∀ g, v.ownBlock = some g → base ≤ g) := by
  rcases h.2 with ⟨rfl, hn⟩ | ⟨g, cap, cur, rfl, hb, hg, hnc, hcm, hsz, ht⟩
  · exact ⟨none, 0, by rw [hn], fun hl => by omega, fun g hg => by simp [Value.ownBlock] at hg⟩
  · refine ⟨_, cap, rfl, fun _ => ⟨g, 0, rfl, (Array.getElem?_eq_some_iff.1 hg).1, fun k x hk j u hu => ?_⟩, fun g' hg' => by simp [Value.ownBlock] at hg'; omega⟩
    have h1 := flat_at hs l k x hk j u hu
    rw [← ht] at h1
    rw [cell_of_row w g (0 + k * size + j) cur e (0, 0) hg, Nat.zero_add]
    rw [List.getElem?_take] at h1
    split at h1
    · simpa using h1
    · cases h1
end

theorem own_base {w : World} {b b' : Nat} {e : TypeId} {size n : Nat} {v : Value} {xs : List Value} (h : w.ownsRow b e size v n xs) (hb : b' ≤ b) : w.ownsRow b' e size v n xs :=
  ⟨h.1, h.2.imp id fun ⟨g, cap, cur, e1, e2, e3⟩ => ⟨g, cap, cur, e1, Nat.le_trans hb e2, e3⟩⟩

theorem ownsRow_base {w : World} {b : Nat} {e : TypeId} {size n : Nat} {v : Value} {xs : List Value} (h : w.ownsRow b e size v n xs) {g : Nat} (hg : v.ownBlock = some g) : b ≤ g := by
  rcases h.2 with ⟨rfl, _⟩ | ⟨g', cap, cur, rfl, hb, _⟩
  · simp [Value.ownBlock] at hg
  · simp [Value.ownBlock] at hg; omega

theorem reads_blk {w : World} {g : Nat} {t : TypeId} {cs : Array Value} {size : Nat} (k : Blk w g t cs) (h : cs.size = size) : Reads w (g + 1) size (some ⟨g, 0, none⟩) 1 cs.toList :=
  ⟨by simp [h], fun _ => ⟨_, rfl, Nat.lt_succ_self _, fun j u hu => by
    have := k.cell j
    rw [show (Addr.add ⟨g, 0, none⟩ j) = ⟨g, j, none⟩ by simp [Addr.add]; omega]
    rw [this]
    simpa using hu⟩⟩

/-! ### the keys -/

/-- The keys of M, in order. -/
def IsKeys (M : Int → AV) (ss : List Int) : Prop := ss.Pairwise (· < ·) ∧ ∀ x, x ∈ ss ↔ (M x).has = true

theorem uKeys_facts {w : World} {b n : Nat} {D : DataW AV} (hown : w.ownsMap Try.prog 38 RV b n D) : (uKeys D).Nodup ∧ (∀ x, x ∈ uKeys D ↔ has D (.int .u64 x) = true) ∧ (uKeys D).length ≤ n ∧ Maps.size D ≤ n := by
  obtain ⟨es, hD, hpw, _⟩ := hown.entries u64_keyed
  obtain ⟨es', hD', hko⟩ := hown.keysOf
  obtain rfl : es = es' := by rw [hD] at hD'; simpa using hD'
  have hsz : es.length ≤ n := by
    obtain ⟨es2, clock, _, _, hs, hD2⟩ := hown
    rw [hD] at hD2
    injection hD2 with hD2
    rw [hD2, length_sorted]
    simpa using hs
  subst hD
  have hk : ∀ p ∈ es, ∃ x, p.1 = .int .u64 x := fun p hp => by obtain ⟨v, hv⟩ := hko p hp; obtain ⟨x, _, hx, _⟩ := keyOf_u64 Try.underlying38 hv; exact ⟨x, hx⟩
  refine ⟨?_, fun x => ?_, by simpa [uKeys] using hsz, by simpa [size_eq] using hsz⟩
  · show (es.map fun p => uOf p.1).Nodup
    refine List.pairwise_map.2 (hpw.imp_of_mem fun {p q} hp' hq' hne e => hne ?_)
    obtain ⟨a, ha⟩ := hk p hp'
    obtain ⟨b, hb⟩ := hk q hq'
    rw [ha, hb] at e ⊢
    exact congrArg _ e
  · rw [has_eq, List.any_eq_true]
    show x ∈ (es.map fun p => uOf p.1) ↔ _
    rw [List.mem_map]
    constructor
    · rintro ⟨p, hp', rfl⟩
      obtain ⟨a, ha⟩ := hk p hp'
      exact ⟨p, hp', by rw [ha]; simp [Lit.sameKey, uOf]⟩
    · rintro ⟨p, hp', hs⟩
      obtain ⟨a, ha⟩ := hk p hp'
      rw [ha] at hs
      exact ⟨p, hp', by rw [ha]; simpa [Lit.sameKey, uOf] using hs⟩

theorem maps_Keys (mb : Option Nat) (w : World) : Calls Try.prog 36 #[.map mb] w fun e w' =>
    e = .returned (.func (.func 42) #[] #[.pointer (some ⟨w.heap.size, 0, none⟩)]) ∧ w.alloc (.cells #[.map mb] 62) = w' :=
  (callsIn_wide.1 (AnyZU.keys_in kl7 Fence.wide 5 trivial rfl mb w)).mono (fun _ _ h => ⟨h.1, h.2.symm⟩)

set_option maxHeartbeats 1000000 in
theorem slices_Sorted {b n : Nat} {M : Int → AV} {w : World} (hm : MapIs w b n M) (hn : n ≤ 1099511627776) :
    Calls Try.prog 35 #[.func (.func 42) #[] #[.pointer (some ⟨w.heap.size, 0, none⟩)]] (w.alloc (.cells #[.map (some b)] 62)) fun e w' =>
      ∃ ss A cap, e = .returned (.slice A ss.length cap) ∧ IsKeys M ss ∧ ss.length ≤ n ∧ (∀ x ∈ ss, (Lit.int .u64 x).wf = true) ∧ RowOf (fun x => [Value.int .u64 x]) 1 w' w'.heap.size A ss ∧ Below w.heap.size w w' := by
  obtain ⟨D, hown, hD⟩ := hm
  obtain ⟨u1, u2, u3, u4⟩ := uKeys_facts hown
  have hwf := uKeys_wf hown Try.underlying38
  have hbl := hown.lt
  have hseq : SeqGives Fence.wide 2 Try.prog 42 #[.pointer (some ⟨w.heap.size, 0, none⟩)] encU (fun ss => ss.Perm (uKeys D)) (Maps.size D) (w.alloc (.cells #[.map (some b)] 62)) :=
    AnyZU.keys_gives kl10 Fence.wide _ trivial rfl (by omega) w.heap.size b n D _ (by simp) (by simp) (hown.alloc _)
  have h := callsIn_wide.1 (AnyZU.sorted_in kl6 Fence.wide 5 trivial trivial trivial trivial rfl (by omega) (ksorts _) (enters_of Try.func41 (by kernel_rfl) rfl) 42 #[.pointer (some ⟨w.heap.size, 0, none⟩)] trivial
    (enters_of Try.func42 (by kernel_rfl) rfl) _ _ (by unfold maxLen; omega) (by omega) _ hseq)
  refine h.mono ?_
  rintro e w' ⟨v, ss, rfl, hp, hrow, _, hb⟩
  have hperm : (ss.mergeSort (fun x y => decide (x ≤ y))).Perm (uKeys D) := (List.mergeSort_perm ss _).trans hp
  have hlen : (ss.mergeSort (fun x y => decide (x ≤ y))).length = ss.length := List.length_mergeSort _
  generalize hts : ss.mergeSort (fun x y => decide (x ≤ y)) = ts at hperm hlen hrow
  have hrow' : w'.ownsRow (w.heap.size + 1) 38 1 v ts.length (ts.flatMap fun x => [Value.int .u64 x]) := by
    rw [hlen]
    have e1 : ts.flatMap (fun x => [Value.int .u64 x]) = ts.map encU := by
      clear hperm hlen hrow hts
      induction ts with
      | nil => rfl
      | cons a r ih => simp [ih]
    rw [e1]
    simpa [Kr] using hrow
  obtain ⟨A, cap, rfl, hR, _⟩ := RowOf.of_own (enc := fun x => [Value.int .u64 x]) (l := ts) (fun _ => rfl) hrow'
  refine ⟨ts, A, cap, rfl, ⟨?_, fun x => ?_⟩, by rw [hperm.length_eq]; exact u3, fun x hx => hwf x (hperm.mem_iff.1 hx), hR, ((Below.refl _ w).alloc (Nat.le_refl _) _).trans (hb.mono (by simp))⟩
  · have hle : ts.Pairwise (fun a b => (decide (a ≤ b)) = true) := by
      rw [← hts]
      exact List.pairwise_mergeSort (fun a b c h1 h2 => by simp only [decide_eq_true_eq] at *; omega) (fun a b => by simp only [Bool.or_eq_true, decide_eq_true_eq]; omega) ss
    have hnd : ts.Nodup := hperm.nodup_iff.2 u1
    have := hle.and hnd
    exact this.imp fun {a b} h => by have h1 := h.1; have h2 := h.2; simp only [decide_eq_true_eq] at h1; omega
  · rw [hperm.mem_iff, u2, (hD x).1]

/-! ### the table -/

def tabOf (M : Int → AV) (ss : List Int) : List PairV := ss.map fun x => ⟨x, M x⟩

set_option maxRecDepth 100000 in
set_option maxHeartbeats 4000000 in
theorem fold_table {b n : Nat} {M : Int → AV} {w : World} (hm : MapIs w b n M) (hn : n ≤ 1099511627776) :
    Calls Try.prog 24 #[.map (some b)] w fun e w' =>
      ∃ ss v, e = .returned v ∧ IsKeys M ss ∧ (∀ x ∈ ss, (Lit.int .u64 x).wf = true) ∧ ss.length ≤ n ∧ w'.ownsRow w.heap.size 47 3 v ss.length ((tabOf M ss).flatMap PairV.cells) ∧ Below w.heap.size w w' := by
  have hi : (Try.prog.info? 47).map (fun i => (i.zero, i.size, i.bytes)) = some (some (.agg #[.int .u64 0, .bool false, .int .u64 0]), 3, 24) := by kernel_rfl
  obtain ⟨i0, hi, hz0⟩ := Option.map_eq_some_iff.1 hi
  simp only [Prod.mk.injEq] at hz0
  obtain ⟨hz0, hz1, hz2⟩ := hz0
  have HM := Lib.hid hm
  clear hm
  go_enter Try.func24, Try.ntmps24
  go_wp2_with (first
    | (go_at_call 36; refine (maps_Keys _ _).mono ?_; rintro e w1 ⟨rfl, rfl⟩)
    | (go_at_call 35; refine (slices_Sorted HM.out hn).mono ?_; rintro e w1 ⟨ss, A, cap, rfl, hks, hsn, hwf, hrow, hb1⟩))
  have HR := Lib.hid hrow
  have HK := Lib.hid hks
  have HW := Lib.hid hwf
  have hz := hb1.size
  clear hrow hks hwf
  go_loopw [3, 10] (fun v i wr => ∃ k : Nat, k ≤ ss.length ∧ i = .int .i64 k ∧ wr.ownsRow w1.heap.size 47 3 v k ((tabOf M (ss.take k)).flatMap PairV.cells) ∧ Below w1.heap.size w1 wr) (fun _ i _ => ss.length - (intOf i).toNat)
  case atStart => exact ⟨0, Nat.zero_le _, rfl, ⟨by simp [tabOf], .inl ⟨rfl, rfl⟩⟩, Below.refl _ _⟩
  case round =>
    obtain ⟨k, hk, rfl, hown, hb⟩ := hrel
    have hzr := hb.size
    by_cases hlt : k < ss.length
    · obtain ⟨g, off, x, rfl, hgl, hx, hc0, hc⟩ := (HR.out.below hb).at_ hlt
      have c0 := hc0 _ rfl
      rw [Nat.mul_one] at c0
      have hwx := HW.out x (List.mem_of_getElem? hx)
      have hMr : MapIs wr b n M := (HM.out.call hb1).call hb
      have hl := hMr.lookup hwx
      have HX := Lib.hid hx
      have HO := Lib.hid hown
      clear hc hc0 hx hown
      go_wp2_with (first
        | (at_builtin; refine wpList_append_any _ rfl _ _ 28 rfl w1.heap.size 47 i0 (.agg #[.int .u64 0, .bool false, .int .u64 0]) 3 24 Try.underlying28 hi hz0 hz1 hz2 rfl (by decide) _ k _ rfl (HO.out.alloc _) (wr.heap.size + 1) _ 1 1 [.int .u64 x, .bool (M x).has, .int .u64 (M x).bits] rfl (reads_blk (Blk.new wr 47 #[.int .u64 x, .bool (M x).has, .int .u64 (M x).bits]) rfl) (fun u hu => by simp at hu; rcases hu with rfl | rfl | rfl <;> rfl) (by unfold maxLen; omega) (by omega) (by simp; omega) ?_; intro v' w' hown' hgr hat)
        | go_in)
      go_roundw
      case rel =>
        have hT : tabOf M (ss.take (k + 1)) = tabOf M (ss.take k) ++ [⟨x, M x⟩] := by
          rw [List.take_add_one, HX.out]
          simp [tabOf]
        refine ⟨k + 1, by omega, by go_num, ?_, ?_⟩
        · rw [hT, List.flatMap_append]
          exact hown'
        · exact (hb.alloc hb.size _).grown hgr (by simp; omega) (fun j hj => ownsRow_base HO.out hj)
      case measure => simp [intOf]; omega
    · have hkl : k = ss.length := by omega
      subst hkl
      rw [List.take_length] at hown
      go_wp2
      go_ret
      exact ⟨ss, _, rfl, HK.out, HW.out, hsn, own_base hown hz, hb1.trans (hb.mono hz)⟩

end Go.Proofs.Ytifpcjpmannddaa
