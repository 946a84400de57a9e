/- The plain laws of fold, of whole lists of records. -/
import Derived.Test.YtifpcjpmannddaaPl4
namespace Go.Proofs.Ytifpcjpmannddaa
open Go.Proofs Go.RowKit

/-- What one record does to one key's value. -/
def keptAt (kind : Int) (l : List OpV) (x : Int) (v : AV) (r : RecV) : AV := match runF l r with
  | .kept r' => if r'.key = x then aggMerge kind v (aggOf kind r'.val) else v
  | _ => v
/-- The value of one key. -/
def oneF (kind : Int) (l : List OpV) (x : Int) (recs : List RecV) : AV := recs.foldl (keptAt kind l x) AV.zero
def trapN (l : List OpV) (recs : List RecV) : Nat := (recs.filter fun r => decide (runF l r = .trapped)).length

theorem fold_batch (kind : Int) (l : List OpV) (x : Int) : ∀ (recs : List RecV) (M : Int → AV) (n : Nat), (recs.foldl (batchStep kind l) (M, n)).1 x = recs.foldl (keptAt kind l x) (M x) ∧ (recs.foldl (batchStep kind l) (M, n)).2 = n + trapN l recs
  | [], M, n => ⟨rfl, rfl⟩
  | r :: rs, M, n => by
    rw [List.foldl_cons, List.foldl_cons]
    cases h : runF l r with
    | kept r' =>
      have e : batchStep kind l (M, n) r = (setM M r'.key (aggMerge kind (M r'.key) (aggOf kind r'.val)), n) := by simp only [batchStep, h]
      have e2 : keptAt kind l x (M x) r = setM M r'.key (aggMerge kind (M r'.key) (aggOf kind r'.val)) x := by
        simp only [keptAt, h, setM]
        by_cases hx : r'.key = x
        · subst hx; simp
        · rw [if_neg hx, if_neg (fun e => hx e.symm)]
      rw [e, e2]
      have ih := fold_batch kind l x rs (setM M r'.key (aggMerge kind (M r'.key) (aggOf kind r'.val))) n
      refine ⟨ih.1, ih.2.trans ?_⟩
      simp [trapN, h]
    | dropped =>
      have e : batchStep kind l (M, n) r = (M, n) := by simp only [batchStep, h]
      have e2 : keptAt kind l x (M x) r = M x := by simp only [keptAt, h]
      rw [e, e2]
      have ih := fold_batch kind l x rs M n
      refine ⟨ih.1, ih.2.trans ?_⟩
      simp [trapN, h]
    | trapped =>
      have e : batchStep kind l (M, n) r = (M, n + 1) := by simp only [batchStep, h]
      have e2 : keptAt kind l x (M x) r = M x := by simp only [keptAt, h]
      rw [e, e2]
      have ih := fold_batch kind l x rs M (n + 1)
      refine ⟨ih.1, ih.2.trans ?_⟩
      simp [trapN, h]
      omega

theorem batch_one (kind : Int) (l : List OpV) (x : Int) (recs : List RecV) : (batchF kind l recs).1 x = oneF kind l x recs := (fold_batch kind l x recs _ 0).1
theorem batch_trap (kind : Int) (l : List OpV) (recs : List RecV) : (batchF kind l recs).2 = trapN l recs := by
  have := (fold_batch kind l 0 recs (fun _ => AV.zero) 0).2
  rw [Nat.zero_add] at this
  exact this
theorem trapN_append (l : List OpV) (a b : List RecV) : trapN l (a ++ b) = trapN l a + trapN l b := by simp [trapN]

section
variable {kind : Int} {l : List OpV} (hk : known kind = true)
include hk
theorem keptAt_fit {x : Int} {v : AV} {r : RecV} (hv : AFit kind v) (hr : r.val < 18446744073709551616) : AFit kind (keptAt kind l x v r) := by
  unfold keptAt
  split
  · rename_i r' h
    split
    · exact merge_fit hk hv (aggOf_fit hk (runF_fok hr h))
    · exact hv
  · exact hv
theorem fold_fit (x : Int) : ∀ (recs : List RecV) (v : AV), AFit kind v → (∀ r ∈ recs, r.val < 18446744073709551616) → AFit kind (recs.foldl (keptAt kind l x) v)
  | [], v, hv, _ => hv
  | r :: rs, v, hv, hr => fold_fit x rs _ (keptAt_fit hk hv (hr r (by simp))) (fun q hq => hr q (by simp [hq]))
theorem one_fit (x : Int) {recs : List RecV} (hr : ∀ r ∈ recs, r.val < 18446744073709551616) : AFit kind (oneF kind l x recs) := fold_fit hk x recs _ (.inl rfl) hr
theorem fold_merge (x : Int) : ∀ (recs : List RecV) (v : AV), AFit kind v → (∀ r ∈ recs, r.val < 18446744073709551616) → recs.foldl (keptAt kind l x) v = aggMerge kind v (oneF kind l x recs)
  | [], v, hv, _ => (merge_zero_right hk hv).symm
  | r :: rs, v, hv, hr => by
    have hrs : ∀ q ∈ rs, q.val < 18446744073709551616 := fun q hq => hr q (by simp [hq])
    have hr0 := hr r (by simp)
    have hz : AFit kind AV.zero := .inl rfl
    unfold oneF
    rw [List.foldl_cons, List.foldl_cons, fold_merge x rs _ (keptAt_fit hk hv hr0) hrs, fold_merge x rs _ (keptAt_fit hk hz hr0) hrs]
    have h1 := one_fit (l := l) hk x hrs
    unfold keptAt
    split
    · rename_i r' h
      have ho := aggOf_fit hk (runF_fok hr0 h)
      split
      · rw [merge_zero_left hk ho, merge_assoc hk hv ho h1]
      · rw [merge_zero_left hk h1]
    · rw [merge_zero_left hk h1]
theorem one_append (x : Int) {a b : List RecV} (ha : ∀ r ∈ a, r.val < 18446744073709551616) (hb : ∀ r ∈ b, r.val < 18446744073709551616) : oneF kind l x (a ++ b) = aggMerge kind (oneF kind l x a) (oneF kind l x b) := by
  conv => lhs; unfold oneF
  rw [List.foldl_append]
  exact fold_merge hk x b _ (one_fit hk x ha) hb
end

theorem find_tab {M : Int → AV} (ss : List Int) (x : Int) : findF (tabOf M ss) x = if x ∈ ss then M x else AV.zero := by
  induction ss with
  | nil => rfl
  | cons y ys ih =>
    unfold findF tabOf at *
    rw [List.map_cons, List.find?_cons]
    by_cases h : y = x
    · subst h; simp
    · have hb : ((⟨y, M y⟩ : PairV).key == x) = false := by simpa using h
      rw [hb]
      simp only [List.mem_cons]
      rw [ih]
      by_cases hx : x ∈ ys
      · rw [if_pos hx, if_pos (.inr hx)]
      · rw [if_neg hx, if_neg (by rintro (e | e); exact h e.symm; exact hx e)]

theorem Tab.find {M : Int → AV} {t : List PairV} {n : Nat} (h : Tab M t n) (hz : ∀ x, (M x).has = false → M x = AV.zero) (x : Int) : findF t x = M x := by
  obtain ⟨ss, h1, rfl, _⟩ := h
  rw [find_tab]
  by_cases hx : x ∈ ss
  · rw [if_pos hx]
  · rw [if_neg hx]
    refine (hz x ?_).symm
    cases hh : (M x).has
    · rfl
    · exact absurd ((h1.2 x).2 hh) hx

theorem add_find (kind : Int) (x : Int) : ∀ (t : List PairV) (M : Int → AV), Sound t → (t.foldl (addStep kind) M) x = if (findF t x).has = true then aggMerge kind (M x) (findF t x) else M x
  | [], M, _ => by simp [findF, AV.zero]
  | p :: t, M, h => by
    have ht : Sound t := ⟨fun q hq => h.1 q (by simp [hq]), (List.pairwise_cons.1 h.2).2⟩
    have hp := (List.pairwise_cons.1 h.2).1
    rw [List.foldl_cons, add_find kind x t _ ht]
    by_cases hx : p.key = x
    · have hn : findF t x = AV.zero := by
        unfold findF
        rw [List.find?_eq_none.2 (fun q hq => by have := hp q hq; simp; omega)]
      have hf : findF (p :: t) x = p.val := by simp [findF, hx]
      rw [hn, hf, if_neg (by simp [AV.zero]), if_pos (h.1 p (by simp))]
      simp [addStep, setM, hx]
    · have hf : findF (p :: t) x = findF t x := by simp [findF, hx]
      have hM : addStep kind M p x = M x := by simp only [addStep, setM]; rw [if_neg (fun e => hx e.symm)]
      rw [hf, hM]

theorem add_parts {kind : Int} {l : List OpV} (hk : known kind = true) {a b : List RecV} (ha : ∀ r ∈ a, r.val < 18446744073709551616) (hb : ∀ r ∈ b, r.val < 18446744073709551616) {ta tb : List PairV} {n m : Nat}
    (hta : Tab (batchF kind l a).1 ta n) (htb : Tab (batchF kind l b).1 tb m) : addF kind ta tb = (batchF kind l (a ++ b)).1 ∧ addF kind tb ta = (batchF kind l (a ++ b)).1 := by
  have za : ∀ x, ((batchF kind l a).1 x).has = false → (batchF kind l a).1 x = AV.zero := fun x h => by rw [batch_one] at h ⊢; exact (one_fit hk x ha).zero_of h
  have zb : ∀ x, ((batchF kind l b).1 x).has = false → (batchF kind l b).1 x = AV.zero := fun x h => by rw [batch_one] at h ⊢; exact (one_fit hk x hb).zero_of h
  have key : ∀ (ta tb : List PairV) (va vb : AV) (x : Int), Sound ta → Sound tb → AFit kind va → AFit kind vb → findF ta x = va → findF tb x = vb → addF kind ta tb x = aggMerge kind va vb := by
    intro ta tb va vb x sa sb fa fb ea eb
    unfold addF
    rw [List.foldl_append, add_find kind x tb _ sb, add_find kind x ta _ sa, ea, eb]
    have e1 : (if va.has = true then aggMerge kind AV.zero va else AV.zero) = va := by
      cases h : va.has
      · rw [fa.zero_of h]; rfl
      · simp [merge_zero_left hk fa]
    rw [e1]
    cases h : vb.has
    · rw [fb.zero_of h, merge_zero_right hk fa]; simp
    · simp
  have fa := fun x => one_fit (l := l) hk x ha
  have fb := fun x => one_fit (l := l) hk x hb
  constructor
  · funext x
    rw [batch_one, one_append hk x ha hb]
    exact key ta tb _ _ x hta.sound htb.sound (fa x) (fb x) (by rw [hta.find za, batch_one]) (by rw [htb.find zb, batch_one])
  · funext x
    rw [batch_one, one_append hk x ha hb, merge_comm hk (fa x) (fb x)]
    exact key tb ta _ _ x htb.sound hta.sound (fb x) (fa x) (by rw [htb.find zb, batch_one]) (by rw [hta.find za, batch_one])

end Go.Proofs.Ytifpcjpmannddaa
