/-
  What is proved: the law PackJoins answers true, and nothing that was there has turned.
  Conditions: both arguments read as fields.
-/
import Derived.Test.YtbenoopgpgffjaaJoinsGood
namespace Go.Proofs.Ytbenoopgpgffjaa
open Go.RowKit

theorem joins_walk (A : Option Addr) (n c : Nat) (l : List Pack.Fd) (A' : Option Addr) (m c' : Nat) (l' : List Pack.Fd) (w : World) (hl : l.length = n) (hr : Rd w w.heap.size 3 A n (fsCells l))
    (hl' : l'.length = m) (hr' : Rd w w.heap.size 3 A' m (fsCells l')) : Calls Try.prog 8 #[.slice A n c, .slice A' m c'] w (Fine w) := by
  by_cases hbig : 200 < n ∨ 200 < m
  · exact joins_big A n c A' m c' w hbig
  · have hn : n ≤ 200 := by omega
    have hm : m ≤ 200 := by omega
    cases hx : Pack.encode l with
    | error er => exact joins_bad A n c l A' m c' l' w hl hr hl' hr' hn hm er (Pack.encode_join_left hx) (Or.inl ⟨er, hx⟩)
    | ok x =>
      cases hy : Pack.encode l' with
      | error er => exact joins_bad A n c l A' m c' l' w hl hr hl' hr' hn hm er (Pack.encode_join_right hx hy) (Or.inr ⟨x, er, hx, hy⟩)
      | ok y => exact joins_good A n c l A' m c' l' w hl hr hl' hr' hn hm x y hx hy
end Go.Proofs.Ytbenoopgpgffjaa
