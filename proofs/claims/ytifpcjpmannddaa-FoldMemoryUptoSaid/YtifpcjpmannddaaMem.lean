/- Rows of memory: rows that a list of pairs reads from, rows told by their blocks, what a world keeps beside some blocks. -/
import Derived.Test.YtifpcjpmannddaaAdr
namespace Go.Proofs.Ytifpcjpmannddaa
open Go.Proofs Go.RowKit

section
variable {α : Type} {enc : α → List Value} {size : Nat} {w w' : World} {B lo hi : Nat} {A : Option Addr} {l : List α}
theorem flat_length (hs : ∀ x, (enc x).length = size) (l : List α) : (l.flatMap enc).length = l.length * size := by
  induction l with
  | nil => simp
  | cons x xs ih => rw [List.flatMap_cons, List.length_append, hs, ih, List.length_cons, Nat.succ_mul]; omega
theorem flat_get (hs : ∀ x, (enc x).length = size) (h0 : 0 < size) {j : Nat} {u : Value} (h : (l.flatMap enc)[j]? = some u) : ∃ k r x, l[k]? = some x ∧ (enc x)[r]? = some u ∧ j = k * size + r := by
  have hj := (List.getElem?_eq_some_iff.1 h).1
  rw [flat_length hs] at hj
  have hk : j / size < l.length := Nat.div_lt_of_lt_mul (by rw [Nat.mul_comm]; exact hj)
  have hr : j % size < (enc l[j / size]).length := by rw [hs]; exact Nat.mod_lt _ h0
  have e : j = j / size * size + j % size := by rw [Nat.mul_comm]; exact (Nat.div_add_mod _ _).symm
  have h1 := flat_at hs l (j / size) _ (List.getElem?_eq_getElem hk) (j % size) _ (List.getElem?_eq_getElem hr)
  rw [← e, h] at h1
  exact ⟨j / size, j % size, l[j / size], List.getElem?_eq_getElem hk, by rw [List.getElem?_eq_getElem hr, ← h1], e⟩
theorem addr_add (b o j : Nat) : (Addr.add ⟨b, o, none⟩ j) = ⟨b, o + j, none⟩ := by
  unfold Addr.add
  split
  · rename_i h; subst h; rfl
  · rfl
theorem reads_row (hs : ∀ x, (enc x).length = size) (h0 : 0 < size) (h : RowOf enc size w B A l) : Reads w B size A l.length (l.flatMap enc) :=
  ⟨flat_length hs l, fun hn => by
    obtain ⟨b, off, rfl, hb, hc⟩ := h hn
    refine ⟨_, rfl, hb, fun j u hu => ?_⟩
    obtain ⟨k, r, x, hx, hr, rfl⟩ := flat_get hs h0 hu
    rw [addr_add, ← Nat.add_assoc]
    exact hc k x hx r u hr⟩

/-- A row that lies in a block from lo to hi. -/
def RowBt (enc : α → List Value) (size : Nat) (w : World) (lo hi : Nat) (A : Option Addr) (l : List α) : Prop :=
  0 < l.length → ∃ b off, A = some ⟨b, off, none⟩ ∧ lo ≤ b ∧ b < hi ∧ ∀ k x, l[k]? = some x → ∀ j u, (enc x)[j]? = some u → w.cell? ⟨b, off + k * size + j, none⟩ = some u
theorem RowBt.row (h : RowBt enc size w lo hi A l) {B : Nat} (hB : hi ≤ B) : RowOf enc size w B A l := fun hn => by
  obtain ⟨b, off, e, _, h2, hc⟩ := h hn
  exact ⟨b, off, e, by omega, hc⟩
theorem RowOf.bt (h : RowOf enc size w B A l) : RowBt enc size w 0 B A l := fun hn => by
  obtain ⟨b, off, e, h2, hc⟩ := h hn
  exact ⟨b, off, e, by omega, h2, hc⟩
theorem cell_heap {b o : Nat} (h : w'.heap[b]? = w.heap[b]?) : w'.cell? ⟨b, o, none⟩ = w.cell? ⟨b, o, none⟩ := by
  unfold World.cell?
  simp only [h]
theorem RowBt.keep (h : RowBt enc size w lo hi A l) (hk : ∀ b, lo ≤ b → b < hi → w'.heap[b]? = w.heap[b]?) : RowBt enc size w' lo hi A l := fun hn => by
  obtain ⟨b, off, e, h1, h2, hc⟩ := h hn
  exact ⟨b, off, e, h1, h2, fun k x hx j u hu => (cell_heap (hk b h1 h2)).trans (hc k x hx j u hu)⟩
theorem RowBt.call (h : RowBt enc size w lo hi A l) (hh : hi ≤ w.heap.size) (hb : Below w.heap.size w w') : RowBt enc size w' lo hi A l := h.keep fun b _ h2 => hb.block b (by omega)
theorem RowBt.of_own {base : Nat} {e : TypeId} {v : Value} (hs : ∀ x, (enc x).length = size) (h : w.ownsRow base e size v l.length (l.flatMap enc)) : ∃ A cap, v = .slice A l.length cap ∧ RowBt enc size w base w.heap.size A l := by
  rcases h.2 with ⟨rfl, hn⟩ | ⟨g, cap, cur, rfl, hb, hg, hnc, hcm, hsz, ht⟩
  · exact ⟨none, 0, by rw [hn], fun hl => by omega⟩
  · refine ⟨_, cap, rfl, fun _ => ⟨g, 0, rfl, hb, (Array.getElem?_eq_some_iff.1 hg).1, fun k x hk j u hu => ?_⟩⟩
    have h1 := flat_at hs l k x hk j u hu
    rw [← ht] at h1
    rw [cell_of_row w g (0 + k * size + j) cur e (0, 0) hg, Nat.zero_add]
    rw [List.getElem?_take] at h1
    split at h1
    · simpa using h1
    · cases h1
theorem RowBt.take (h : RowBt enc size w lo hi A l) (k : Nat) : RowBt enc size w lo hi A (l.take k) := fun hn => by
  obtain ⟨b, off, e, h1, h2, hc⟩ := h (by rw [List.length_take] at hn; omega)
  refine ⟨b, off, e, h1, h2, fun i x hi => hc i x ?_⟩
  rw [List.getElem?_take] at hi
  split at hi
  · exact hi
  · cases hi
theorem RowBt.drop {b off : Nat} (h : RowBt enc size w lo hi (some ⟨b, off, none⟩) l) (k : Nat) : RowBt enc size w lo hi (some ⟨b, off + k * size, none⟩) (l.drop k) := fun hn => by
  rw [List.length_drop] at hn
  obtain ⟨b', off', e, h1, h2, hc⟩ := h (by omega)
  injection e with e
  injection e with e1 e2
  subst e1 e2
  refine ⟨b, off + k * size, rfl, h1, h2, fun i x hi j u hu => ?_⟩
  rw [List.getElem?_drop] at hi
  have := hc _ x hi j u hu
  rw [← this]
  congr 2
  rw [Nat.add_mul]; omega
end

/-- Behind WP nothing has changed but what lies in the blocks from lo to hi, in block g, and what is newer. -/
def Aside (WP : World) (lo hi g : Nat) (w : World) : Prop := WP.heap.size ≤ w.heap.size ∧ ∀ b, b < WP.heap.size → (b < lo ∨ hi ≤ b) → b ≠ g → w.heap[b]? = WP.heap[b]?
section
variable {WP w w' : World} {lo hi g : Nat}
theorem Aside.refl (WP : World) (lo hi g : Nat) : Aside WP lo hi g WP := ⟨Nat.le_refl _, fun _ _ _ _ => rfl⟩
theorem Aside.call (h : Aside WP lo hi g w) (hb : Below w.heap.size w w') : Aside WP lo hi g w' :=
  ⟨Nat.le_trans h.1 hb.size, fun b h1 h2 h3 => (hb.block b (by have := h.1; omega)).trans (h.2 b h1 h2 h3)⟩
theorem Aside.alloc (h : Aside WP lo hi g w) (o : Obj) : Aside WP lo hi g (w.alloc o) := h.call ((Below.refl _ _).alloc (Nat.le_refl _) _)
theorem Aside.set (h : Aside WP lo hi g w) {p : Addr} (hp : (lo ≤ p.block ∧ p.block < hi) ∨ p.block = g ∨ WP.heap.size ≤ p.block) (u : Value) : Aside WP lo hi g (w.setCell p u) :=
  ⟨by simpa using h.1, fun b h1 h2 h3 => (Below.heap_setCell w p u b (by omega)).trans (h.2 b h1 h2 h3)⟩
theorem Aside.grown (h : Aside WP lo hi g w) {row : Option Nat} (hg : w.grownBy w' row) (hs : w.heap.size ≤ w'.heap.size) (hr : ∀ b, row = some b → (lo ≤ b ∧ b < hi) ∨ b = g ∨ WP.heap.size ≤ b) : Aside WP lo hi g w' :=
  ⟨Nat.le_trans h.1 hs, fun b h1 h2 h3 => (hg.block b (by have := h.1; omega) (fun e => by have := hr b e.symm; omega)).trans (h.2 b h1 h2 h3)⟩
end
theorem RowBt.aside {α : Type} {enc : α → List Value} {size : Nat} {WP w : World} {lo hi g l1 h1 : Nat} {A : Option Addr} {l : List α} (h : RowBt enc size WP l1 h1 A l) (ha : Aside WP lo hi g w) (hh : h1 ≤ WP.heap.size) (hs : h1 ≤ lo ∨ hi ≤ l1) (hg : h1 ≤ g ∨ g < l1) : RowBt enc size w l1 h1 A l :=
  h.keep fun b k1 k2 => ha.2 b (by omega) (by omega) (by omega)

section
variable {w w' : World} {base : Nat} {e : TypeId} {size n : Nat} {v : Value} {xs : List Value}
theorem own_nx (h : w.ownsRow base e size v n xs) (hb : Below w.heap.size w w') : w'.ownsRow base e size v n xs :=
  ⟨h.1, h.2.imp id fun ⟨g, cap, cur, e1, e2, e3, e4⟩ => ⟨g, cap, cur, e1, e2, (hb.block g (Array.getElem?_eq_some_iff.1 e3).1).trans e3, e4⟩⟩
theorem own_heap (h : w.ownsRow base e size v n xs) (hk : ∀ g, v.ownBlock = some g → w'.heap[g]? = w.heap[g]?) : w'.ownsRow base e size v n xs :=
  ⟨h.1, h.2.imp id fun ⟨g, cap, cur, e1, e2, e3, e4⟩ => ⟨g, cap, cur, e1, e2, (hk g (by rw [e1]; rfl)).trans e3, e4⟩⟩
end

end Go.Proofs.Ytifpcjpmannddaa
