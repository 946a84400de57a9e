/- The laws' arguments, opened: lists of steps and of records, in memory. -/
import Derived.Test.YtifpcjpmannddaaLfw
import Derived.Lib.SmallJoins
namespace Go.Proofs.Ytifpcjpmannddaa
open Go.Proofs Go.RowKit Go.ChangeShapes Go.WideShapes Go.ChangeAt Go.Joins

theorem exists_list {α : Type} (R : Nat → α → Prop) : ∀ n, (∀ i, i < n → ∃ x, R i x) → ∃ l : List α, l.length = n ∧ ∀ i x, l[i]? = some x → R i x
  | 0, _ => ⟨[], rfl, fun i x h => by simp at h⟩
  | n + 1, h => by
    obtain ⟨l, hl, hR⟩ := exists_list R n (fun i hi => h i (by omega))
    obtain ⟨x, hx⟩ := h n (by omega)
    refine ⟨l ++ [x], by simp [hl], fun i y hy => ?_⟩
    by_cases hi : i < n
    · rw [List.getElem?_append_left (by omega)] at hy
      exact hR i y hy
    · rw [List.getElem?_append_right (by omega)] at hy
      have hil : i = n := by
        have := (List.getElem?_eq_some_iff.1 hy).1
        simp at this
        omega
      subst hil
      simp [hl] at hy
      subst hy
      exact hx

section
variable {H : Type} {enc : TypeId × Value → H} {P : Program} {w : World} {base : Nat} {spare : Nat → Bool} {held : Bool}
theorem trod_float64 {t : TypeId} {fuel : Nat} {v : Value} {x : DataW H × List MemPlace} (ht : P.underlying t = some (.float .f64)) (h : DataW.trod enc P w base spare held fuel t [v] = some x) : ∃ n, v = .float .f64 n ∧ n < 18446744073709551616 := by
  cases fuel with
  | zero => simp [DataW.trod] at h
  | succ n =>
    cases v <;> simp [DataW.trod, ht] at h
    rename_i k b
    cases k <;> simp at h
    exact ⟨b, rfl, by simpa [Lit.wf] using h.1⟩
theorem trod_int1 {t : TypeId} {k : IntKind} {fuel : Nat} {v : Value} {x : DataW H × List MemPlace} (ht : P.underlying t = some (.int k)) (h : DataW.trod enc P w base spare held fuel t [v] = some x) : ∃ n, v = .int k n ∧ (Lit.int k n).wf = true := by
  obtain ⟨n, h1, _, h2⟩ := DataW.trod_int ht h
  simp at h1
  exact ⟨n, h1, h2⟩
end

theorem rowOf_mk {α : Type} {enc : α → List Value} {size : Nat} {w : World} {a : Addr} {l : List α} (hsz : 0 < size) (hs : ∀ x, (enc x).length = size) (h : ∀ i x, l[i]? = some x → ∀ (j : Nat) (u : Value), (enc x)[j]? = some u → w.cell? (a.add (i * size + j)) = some u) : RowOf enc size w w.heap.size (some a) l := fun hn => by
  obtain ⟨b, off, sp⟩ := a
  have hx : l[0]? = some l[0] := List.getElem?_eq_getElem hn
  have hu : (enc l[0])[0]? = some ((enc l[0])[0]'(by rw [hs]; exact hsz)) := List.getElem?_eq_getElem _
  have h0 := h 0 _ hx 0 _ hu
  rw [show 0 * size + 0 = 0 by omega] at h0
  have e0 : (Addr.add ⟨b, off, sp⟩ 0) = ⟨b, off, sp⟩ := by simp [Addr.add]
  rw [e0] at h0
  have hsp : sp = none := by
    cases sp with
    | none => rfl
    | some s =>
      unfold World.cell? at h0
      split at h0
      · simp at h0
      · cases h0
  subst hsp
  refine ⟨b, off, rfl, World.block_lt_of_cell? w _ h0, fun k x hk j u hu => ?_⟩
  have := h k x hk j u hu
  have e : (Addr.add ⟨b, off, none⟩ (k * size + j)) = ⟨b, off + k * size + j, none⟩ := by
    unfold Addr.add
    split
    · rename_i hz
      have h1 : k * size = 0 := by omega
      have h2 : j = 0 := by omega
      rw [h1, h2]; rfl
    · show (⟨b, off + (k * size + j), none⟩ : Addr) = _
      rw [Nat.add_assoc]
  rwa [e] at this

section
variable {H : Type} {enc : TypeId × Value → H} {w : World} {base : Nat} {spare : Nat → Bool} {held : Bool}

theorem open_ops {fuel : Nat} {v : Value} {x : DataW H × List MemPlace} (h : DataW.trod enc Try.prog w base spare held fuel 22 [v] = some x) :
    ∃ (l : List OpV) (A : Option Addr) (cap : Nat), v = .slice A l.length cap ∧ RowOf OpV.cells 3 w w.heap.size A l ∧ (∀ o ∈ l, o.n ≤ 9223372036854775807) ∧ l.length ≤ cap ∧ cap ≤ maxLen ∧ (∃ ds sp : List (DataW H), ds.length = l.length ∧ x.1 = .slice ds sp ∨ l = []) := by
  rcases open_slice_fields (e := 57) Try.underlying22 Try.underlying57 (by kernel_rfl) (by kernel_rfl) h with ⟨h0, _⟩ | ⟨a, len, cap, m, D, Pl, h0, _, hlc, hcm, hm, hx, hat⟩
  · simp at h0
    exact ⟨[], none, 0, h0, RowOf.nil, by simp, by simp, by simp, ⟨[], [], .inr rfl⟩⟩
  · simp at h0
    have hlm : ∀ i, i < len → i < m := fun i hi => by rw [hm]; split <;> omega
    obtain ⟨l, hl, hR⟩ := exists_list (fun i (o : OpV) => (∀ (j : Nat) (u : Value), o.cells[j]? = some u → w.cell? (a.add (i * 3 + j)) = some u) ∧ o.n ≤ 9223372036854775807) len (fun i hi => by
      obtain ⟨ys, n, _, _, _, hf⟩ := hat i (hlm i hi)
      obtain ⟨v0, y0, hc0, _, ht0⟩ := hf 0 _ rfl
      obtain ⟨v1, y1, hc1, _, ht1⟩ := hf 1 _ rfl
      obtain ⟨v2, y2, hc2, _, ht2⟩ := hf 2 _ rfl
      obtain ⟨k, rfl, _⟩ := trod_int1 Try.underlying3 ht0
      obtain ⟨q, rfl, hq⟩ := trod_int1 Try.underlying2 ht1
      obtain ⟨f, rfl, _⟩ := trod_float64 Try.underlying39 ht2
      refine ⟨⟨k, q, f⟩, fun j u hu => ?_, ?_⟩
      · rcases j with _ | _ | _ | j <;> simp [OpV.cells] at hu <;> subst hu
        · exact hc0
        · exact hc1
        · exact hc2
      · have e2 : IntKind.max .i64 = 9223372036854775807 := rfl
        simp [Lit.wf, e2] at hq
        exact hq.2)
    subst hl
    refine ⟨l, some a, cap, h0, rowOf_mk (by omega) (fun _ => rfl) (fun i x hx => (hR i x hx).1), fun o ho => ?_, hlc, hcm, ⟨(List.range l.length).map D, _, .inl ⟨by simp, by rw [hx]⟩⟩⟩
    obtain ⟨i, hi, rfl⟩ := List.mem_iff_getElem.1 ho
    exact (hR i _ (List.getElem?_eq_getElem hi)).2

theorem open_recs {fuel : Nat} {v : Value} {x : DataW H × List MemPlace} (h : DataW.trod enc Try.prog w base spare held fuel 23 [v] = some x) :
    ∃ (l : List RecV) (A : Option Addr) (cap : Nat), v = .slice A l.length cap ∧ RowOf RecV.cells 2 w w.heap.size A l ∧ RecsOk l ∧ l.length ≤ cap ∧ cap ≤ maxLen ∧ (∃ ds sp : List (DataW H), ds.length = l.length ∧ x.1 = .slice ds sp ∨ l = []) := by
  rcases open_slice_fields (e := 41) Try.underlying23 Try.underlying41 (by kernel_rfl) (by kernel_rfl) h with ⟨h0, _⟩ | ⟨a, len, cap, m, D, Pl, h0, _, hlc, hcm, hm, hx, hat⟩
  · simp at h0
    exact ⟨[], none, 0, h0, RowOf.nil, by simp [RecsOk], by simp, by simp, ⟨[], [], .inr rfl⟩⟩
  · simp at h0
    have hlm : ∀ i, i < len → i < m := fun i hi => by rw [hm]; split <;> omega
    obtain ⟨l, hl, hR⟩ := exists_list (fun i (o : RecV) => (∀ (j : Nat) (u : Value), o.cells[j]? = some u → w.cell? (a.add (i * 2 + j)) = some u) ∧ o.Ok ∧ o.val < 18446744073709551616) len (fun i hi => by
      obtain ⟨ys, n, _, _, _, hf⟩ := hat i (hlm i hi)
      obtain ⟨v0, y0, hc0, _, ht0⟩ := hf 0 _ rfl
      obtain ⟨v1, y1, hc1, _, ht1⟩ := hf 1 _ rfl
      obtain ⟨k, rfl, hk⟩ := trod_int1 Try.underlying38 ht0
      obtain ⟨f, rfl, hf⟩ := trod_float64 Try.underlying39 ht1
      refine ⟨⟨k, f⟩, fun j u hu => ?_, ?_, hf⟩
      · rcases j with _ | _ | j <;> simp [RecV.cells] at hu <;> subst hu
        · exact hc0
        · exact hc1
      · have e1 : IntKind.min .u64 = 0 := rfl
        have e2 : IntKind.max .u64 = 18446744073709551615 := rfl
        simp [Lit.wf, e1, e2] at hk
        exact hk)
    subst hl
    refine ⟨l, some a, cap, h0, rowOf_mk (by omega) (fun _ => rfl) (fun i x hx => (hR i x hx).1), fun o ho => ?_, hlc, hcm, ⟨(List.range l.length).map D, _, .inl ⟨by simp, by rw [hx]⟩⟩⟩
    obtain ⟨i, hi, rfl⟩ := List.mem_iff_getElem.1 ho
    exact (hR i _ (List.getElem?_eq_getElem hi)).2
end

end Go.Proofs.Ytifpcjpmannddaa
