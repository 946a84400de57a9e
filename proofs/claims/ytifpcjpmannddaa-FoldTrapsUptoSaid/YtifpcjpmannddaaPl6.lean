/- The plain laws of what is kept and what is counted. -/
import Derived.Test.YtifpcjpmannddaaPl5
namespace Go.Proofs.Ytifpcjpmannddaa
open Go.Proofs Go.RowKit

def isKept (l : List OpV) (r : RecV) : Bool := match runF l r with
  | .kept _ => true
  | _ => false
/-- The keys of what is kept, one a record. -/
def keptKeys (l : List OpV) (recs : List RecV) : List Int := recs.filterMap fun r => match runF l r with
  | .kept r' => some r'.key
  | _ => none

theorem keptKeys_length (l : List OpV) (recs : List RecV) : (keptKeys l recs).length = (recs.filter (isKept l)).length := by
  induction recs with
  | nil => rfl
  | cons r rs ih =>
    unfold keptKeys at *
    rw [List.filterMap_cons, List.filter_cons]
    cases h : runF l r <;> simp [isKept, h, ih]

theorem fold_kept (kind : Int) (l : List OpV) : ∀ (recs : List RecV) (M : Int → AV) (n m : Nat), (recs.filter (isKept l)).foldl (batchStep kind l) (M, n) = ((recs.foldl (batchStep kind l) (M, m)).1, n)
  | [], _, _, _ => rfl
  | r :: rs, M, n, m => by
    rw [List.filter_cons, List.foldl_cons]
    cases h : runF l r with
    | kept r' =>
      rw [if_pos (by simp [isKept, h]), List.foldl_cons]
      have e : ∀ n, batchStep kind l (M, n) r = (setM M r'.key (aggMerge kind (M r'.key) (aggOf kind r'.val)), n) := fun n => by simp only [batchStep, h]
      rw [e, e]
      exact fold_kept kind l rs _ n m
    | dropped =>
      rw [if_neg (by simp [isKept, h])]
      have e : batchStep kind l (M, m) r = (M, m) := by simp only [batchStep, h]
      rw [e]
      exact fold_kept kind l rs _ n m
    | trapped =>
      rw [if_neg (by simp [isKept, h])]
      have e : batchStep kind l (M, m) r = (M, m + 1) := by simp only [batchStep, h]
      rw [e]
      exact fold_kept kind l rs _ n _
theorem batch_kept (kind : Int) (l : List OpV) (recs : List RecV) : batchF kind l (recs.filter (isKept l)) = ((batchF kind l recs).1, 0) := fold_kept kind l recs _ 0 0

theorem fold_has {kind : Int} (hk : known kind = true) (l : List OpV) (x : Int) : ∀ (recs : List RecV) (v : AV), (recs.foldl (keptAt kind l x) v).has = (v.has || decide (x ∈ keptKeys l recs))
  | [], v => by simp [keptKeys]
  | r :: rs, v => by
    rw [List.foldl_cons, fold_has hk l x rs]
    unfold keptKeys
    rw [List.filterMap_cons]
    cases h : runF l r with
    | kept r' =>
      simp only [keptAt, h]
      by_cases hx : r'.key = x
      · rw [if_pos hx, aggMerge_has hk, aggOf_has hk]; simp [hx]
      · rw [if_neg hx]
        have : ¬ x = r'.key := fun e => hx e.symm
        simp [this]
    | dropped => simp only [keptAt, h]
    | trapped => simp only [keptAt, h]
theorem one_has {kind : Int} (hk : known kind = true) (l : List OpV) (x : Int) (recs : List RecV) : ((batchF kind l recs).1 x).has = decide (x ∈ keptKeys l recs) := by
  rw [batch_one]
  unfold oneF
  rw [fold_has hk]
  simp [AV.zero]

theorem Tab.same_len {M M' : Int → AV} {t u : List PairV} {n m : Nat} (h : Tab M t n) (k : Tab M' u m) (he : ∀ x, (M x).has = (M' x).has) : t.length = u.length := by
  obtain ⟨ss, h1, rfl, _⟩ := h
  obtain ⟨ts, k1, rfl, _⟩ := k
  have : IsKeys M' ss := ⟨h1.1, fun x => by rw [← he]; exact h1.2 x⟩
  rw [isKeys_uniq this k1]
  simp [tabOf]

/-- A count's value after n. -/
def cntV (n : Nat) : AV := if n = 0 then AV.zero else ⟨true, n⟩
theorem cnt_step (n : Nat) (h : n + 1 < 18446744073709551616) (x : Nat) : aggMerge 1 (cntV n) (aggOf 1 x) = cntV (n + 1) := by
  have ho : aggOf 1 x = ⟨true, 1⟩ := by simp [aggOf]
  have hk : known 1 = true := by decide
  rw [ho]
  unfold cntV
  rw [if_neg (by omega : ¬ n + 1 = 0)]
  by_cases hn : n = 0
  · subst hn
    rw [if_pos rfl, merge_zero_left hk (.inr ⟨rfl, by simp, by simp, fun h => by omega⟩)]
    rfl
  · rw [if_neg hn, merge_both hk (.inr ⟨rfl, by simp, by simp; omega, fun h => by omega⟩) (.inr ⟨rfl, by simp, by simp, fun h => by omega⟩) rfl rfl]
    rw [if_neg (by omega), if_neg (by omega)]
    simp
    omega
theorem fold_count (l : List OpV) (x : Int) : ∀ (recs : List RecV) (n : Nat), n + recs.length < 18446744073709551616 → recs.foldl (keptAt 1 l x) (cntV n) = cntV (n + (keptKeys l recs).count x)
  | [], n, _ => by simp [keptKeys]
  | r :: rs, n, hn => by
    rw [List.length_cons] at hn
    rw [List.foldl_cons]
    unfold keptKeys
    rw [List.filterMap_cons]
    cases h : runF l r with
    | kept r' =>
      simp only [keptAt, h]
      by_cases hx : r'.key = x
      · rw [if_pos hx, cnt_step n (by omega), fold_count l x rs (n + 1) (by omega), List.count_cons]
        simp [hx, keptKeys]
        congr 1
        omega
      · rw [if_neg hx, fold_count l x rs n (by omega), List.count_cons]
        simp [hx, keptKeys]
    | dropped => simp only [keptAt, h]; exact fold_count l x rs n (by omega)
    | trapped => simp only [keptAt, h]; exact fold_count l x rs n (by omega)

theorem sum_count_cons (k : Int) (ks : List Int) : ∀ ss : List Int, (ss.map fun x => (k :: ks).count x).sum = (ss.map fun x => ks.count x).sum + ss.count k
  | [] => rfl
  | s :: ss => by
    have ih := sum_count_cons k ks ss
    simp only [List.map_cons, List.sum_cons, List.count_cons, beq_iff_eq] at *
    rw [ih]
    by_cases h : s = k
    · subst h; simp; omega
    · have h' : ¬ k = s := fun e => h e.symm
      simp [h, h']; omega
theorem sum_count (ss : List Int) (hn : ss.Nodup) : ∀ ks : List Int, (∀ k ∈ ks, k ∈ ss) → (ss.map fun x => ks.count x).sum = ks.length
  | [], _ => by
    clear hn
    induction ss with
    | nil => rfl
    | cons s ss ih => simpa using ih
  | k :: ks, h => by
    rw [sum_count_cons, sum_count ss hn ks (fun q hq => h q (by simp [hq])), List.length_cons, List.Nodup.count hn, if_pos (h k (by simp))]

/-- The sum of a table's bits. -/
def sumF (t : List PairV) : Int := (t.map fun p => p.val.bits).sum

theorem sumF_take {t : List PairV} {k : Nat} {p : PairV} (h : t[k]? = some p) : sumF (t.take (k + 1)) = sumF (t.take k) + p.val.bits := by
  unfold sumF
  rw [List.take_add_one, h]
  simp

theorem int_sum {α : Type} (f : α → Int) (g : α → Nat) : ∀ ss : List α, (∀ x ∈ ss, f x = (g x : Int)) → (ss.map f).sum = (((ss.map g).sum : Nat) : Int)
  | [], _ => rfl
  | s :: ss, h => by
    have ih := int_sum f g ss (fun q hq => h q (by simp [hq]))
    rw [List.map_cons, List.sum_cons, List.map_cons, List.sum_cons, ih, h s (by simp)]
    simp

theorem count_sum {l : List OpV} {recs : List RecV} {t : List PairV} {n : Nat} (h : Tab (batchF 1 l recs).1 t n) (hl : recs.length < 18446744073709551616) : sumF t = (keptKeys l recs).length := by
  obtain ⟨ss, h1, rfl, _⟩ := h
  have hk : known 1 = true := by decide
  have hnd : ss.Nodup := h1.1.imp fun {a b} h => by omega
  have hv : ∀ x, (batchF 1 l recs).1 x = cntV ((keptKeys l recs).count x) := fun x => by
    rw [batch_one]
    have := fold_count l x recs 0 (by omega)
    rw [Nat.zero_add] at this
    exact this
  unfold sumF tabOf
  rw [List.map_map, int_sum _ (fun x => (keptKeys l recs).count x) ss (fun x hx => ?_), sum_count ss hnd]
  · intro k hkk
    rw [h1.2, one_has hk]
    exact decide_eq_true hkk
  · show ((batchF 1 l recs).1 x).bits = _
    rw [hv]
    unfold cntV
    split
    · rename_i e; rw [e]; rfl
    · rfl

theorem sumF_mono {t : List PairV} (h : ∀ p ∈ t, 0 ≤ p.val.bits) (k : Nat) : 0 ≤ sumF (t.take k) ∧ sumF (t.take k) ≤ sumF t := by
  have hs : ∀ u : List PairV, (∀ p ∈ u, 0 ≤ p.val.bits) → 0 ≤ sumF u := by
    intro u
    induction u with
    | nil => intro _; exact Int.le_refl _
    | cons p u ih =>
      intro hu
      have h1 := ih (fun q hq => hu q (by simp [hq]))
      have h2 := hu p (by simp)
      unfold sumF at *
      rw [List.map_cons, List.sum_cons]
      omega
  have h1 := hs (t.take k) (fun p hp => h p (List.mem_of_mem_take hp))
  have h2 := hs (t.drop k) (fun p hp => h p (List.mem_of_mem_drop hp))
  have h3 : sumF t = sumF (t.take k) + sumF (t.drop k) := by
    conv => lhs; rw [← List.take_append_drop k t]
    unfold sumF
    rw [List.map_append, List.sum_append]
  omega
theorem count_bits {l : List OpV} {recs : List RecV} {t : List PairV} {n : Nat} (h : Tab (batchF 1 l recs).1 t n) (hl : recs.length < 18446744073709551616) : ∀ p ∈ t, 0 ≤ p.val.bits := by
  obtain ⟨ss, h1, rfl, _⟩ := h
  intro p hp
  obtain ⟨x, _, rfl⟩ := List.mem_map.1 hp
  show 0 ≤ ((batchF 1 l recs).1 x).bits
  have := fold_count l x recs 0 (by omega)
  rw [Nat.zero_add] at this
  rw [batch_one]
  unfold oneF
  show 0 ≤ (recs.foldl (keptAt 1 l x) (cntV 0)).bits
  rw [this]
  unfold cntV
  split
  · exact Int.le_refl _
  · simp

end Go.Proofs.Ytifpcjpmannddaa
