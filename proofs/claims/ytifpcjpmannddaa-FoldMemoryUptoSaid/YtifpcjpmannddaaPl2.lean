/- The pipeline's plain functions, and rows of structs in memory. -/
import Derived.Test.YtifpcjpmannddaaAg1
namespace Go.Proofs.Ytifpcjpmannddaa
open Go.Proofs Go.RowKit

/-- A step of a pipeline. -/
structure OpV where
  kind : Int
  n : Int
  x : Nat
  deriving DecidableEq
def OpV.cells (o : OpV) : List Value := [.int .i64 o.kind, .int .i64 o.n, .float .f64 o.x]
abbrev OpV.v (o : OpV) : Value := .agg #[.int .i64 o.kind, .int .i64 o.n, .float .f64 o.x]
/-- A record. -/
structure RecV where
  key : Int
  val : Nat
  deriving DecidableEq
def RecV.cells (r : RecV) : List Value := [.int .u64 r.key, .float .f64 r.val]
abbrev RecV.v (r : RecV) : Value := .agg #[.int .u64 r.key, .float .f64 r.val]
/-- A key and its value. -/
structure PairV where
  key : Int
  val : AV
  deriving DecidableEq
def PairV.cells (p : PairV) : List Value := [.int .u64 p.key, .bool p.val.has, .int .u64 p.val.bits]
abbrev PairV.v (p : PairV) : Value := .agg #[.int .u64 p.key, .bool p.val.has, .int .u64 p.val.bits]

def isStep (o : OpV) : Bool :=
  if o.kind = 7 then decide (-2200 ≤ o.n) && decide (o.n ≤ 2200)
  else if o.kind = 11 then decide (1 ≤ o.n)
  else decide (1 ≤ o.kind) && decide (o.kind ≤ 12)

def checkF (l : List OpV) : Int := if 8 < l.length then 30 else if l.all isStep then 0 else 30

/-- A slice's cells read as a list. -/
def RowOf {α : Type} (enc : α → List Value) (size : Nat) (w : World) (B : Nat) (A : Option Addr) (l : List α) : Prop :=
  0 < l.length → ∃ b off, A = some ⟨b, off, none⟩ ∧ b < B ∧ ∀ k x, l[k]? = some x → ∀ j u, (enc x)[j]? = some u → w.cell? ⟨b, off + k * size + j, none⟩ = some u

section
variable {α : Type} {enc : α → List Value} {size : Nat} {w w' : World} {B B' : Nat} {A : Option Addr} {l : List α}
theorem RowOf.below (h : RowOf enc size w B A l) (hb : Below B w w') : RowOf enc size w' B A l := fun hn => by
  obtain ⟨b, off, e, hlt, hc⟩ := h hn
  exact ⟨b, off, e, hlt, fun k x hk j u hu => (hb.cell (p := ⟨b, _, none⟩) hlt).trans (hc k x hk j u hu)⟩
theorem RowOf.more (h : RowOf enc size w B A l) (hB : B ≤ B') : RowOf enc size w B' A l := fun hn => by
  obtain ⟨b, off, e, hlt, hc⟩ := h hn
  exact ⟨b, off, e, by omega, hc⟩
theorem RowOf.call (h : RowOf enc size w B A l) (hB : B ≤ w.heap.size) (hb : Below w.heap.size w w') : RowOf enc size w' B A l := h.below (hb.mono hB)
theorem RowOf.nil : RowOf enc size w B A ([] : List α) := fun h => absurd h (by simp)
theorem RowOf.at_ (h : RowOf enc size w B A l) {k : Nat} (hk : k < l.length) : ∃ b off x, A = some ⟨b, off, none⟩ ∧ b < B ∧ l[k]? = some x ∧ (∀ u, (enc x)[0]? = some u → w.cell? ⟨b, off + k * size, none⟩ = some u) ∧ ∀ j u, (enc x)[j]? = some u → w.cell? ⟨b, off + k * size + j, none⟩ = some u := by
  obtain ⟨b, off, e, hlt, hc⟩ := h (by omega)
  have hx : l[k]? = some l[k] := List.getElem?_eq_getElem hk
  exact ⟨b, off, l[k], e, hlt, hx, fun u hu => hc k _ hx 0 u hu, fun j u hu => hc k _ hx j u hu⟩
end

end Go.Proofs.Ytifpcjpmannddaa
