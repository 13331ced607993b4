/-
  What is proved: the law PackWrites answers true, and nothing that was there has turned.
  Conditions: the argument reads as fields.
-/
import Derived.Test.YtbenoopgpgffjaaAlive
namespace Go.Proofs.Ytbenoopgpgffjaa
open Go.RowKit

/-- The law answers true, and nothing that was there has turned. -/
def Fine (w : World) (e : Ending) (w' : World) : Prop := e = .returned (.bool true) ∧ Below w.heap.size w w'

set_option maxHeartbeats 1000000 in
set_option maxRecDepth 100000 in
theorem writes_walk (A : Option Addr) (n c : Nat) (l : List Pack.Fd) (w : World) (hl : l.length = n) (hr : Rd w w.heap.size 3 A n (fsCells l)) :
    Calls Try.prog 3 #[.slice A n c] w (Fine w) := by
  by_cases hbig : 300 < n
  · have hbig1 : (300 : Int) < n := by omega
    go_enter Try.func3, Try.ntmps3
    go_wp2_with fail
    refine (alive_any _).mono ?_
    rintro e w1 ⟨rfl, hb1⟩
    go_wp2
    go_ret
    exact ⟨rfl, hb1⟩
  · have hbig1 : (n : Int) ≤ 300 := by omega
    have HE := hide fun w1 hr1 => encode_any A n c l w1 hl hr1 (by omega)
    have HF := hide fun w1 hr1 => refencode_any A n c l w1 hl hr1 (by omega)
    have HR := hide hr
    clear hl hr
    cases hx : Pack.encode l with
    | ok x =>
      have HX := hide hx
      clear hx
      go_enter Try.func3, Try.ntmps3
      go_wp2_with fail
      refine (HE.out _ HR.out).mono ?_
      rintro e w1 ⟨hb1, he⟩
      rw [HX.out] at he
      simp only at he
      obtain ⟨v1, rfl, hown1⟩ := he
      obtain ⟨A1, n1, rfl, _, _⟩ := own_shape hown1
      have hrd1 := Rd.of_own hown1
      clear hown1
      go_wp2_with fail
      refine (HF.out _ (HR.out.on hb1)).mono ?_
      rintro e w2 ⟨hb2, he⟩
      rw [HX.out] at he
      simp only at he
      obtain ⟨v2, rfl, hown2⟩ := he
      obtain ⟨A2, n2, rfl, _, _⟩ := own_shape hown2
      have hrd2 := Rd.of_own hown2
      clear hown2
      go_wp2_with fail
      refine (alive_any _).mono ?_
      rintro e w3 ⟨rfl, hb3⟩
      have hs1 := run_str (c := n1) ((hrd1.on hb2).on hb3)
      have hs2 := run_str (c := n2) (hrd2.on hb3)
      have hb : Below w.heap.size w w3 := hb1.trans ((hb2.mono hb1.size).trans (hb3.mono (Nat.le_trans hb1.size hb2.size)))
      clear hrd1 hrd2 hb1 hb2 hb3
      go_wp2_with fail
      go_ret
      exact ⟨rfl, hb⟩
    | error er =>
      have HX := hide hx
      clear hx
      go_enter Try.func3, Try.ntmps3
      go_wp2_with fail
      refine (HE.out _ HR.out).mono ?_
      rintro e w1 ⟨hb1, he⟩
      rw [HX.out] at he
      simp only at he
      subst he
      go_wp2_with fail
      refine (HF.out _ (HR.out.on hb1)).mono ?_
      rintro e w2 ⟨hb2, he⟩
      rw [HX.out] at he
      simp only at he
      subst he
      go_wp2_with fail
      refine (alive_any _).mono ?_
      rintro e w3 ⟨rfl, hb3⟩
      have hs1 := run_str (c := 0) (l := []) (Rd.nil_ w3 0 1 none)
      have hb : Below w.heap.size w w3 := hb1.trans ((hb2.mono hb1.size).trans (hb3.mono (Nat.le_trans hb1.size hb2.size)))
      clear hb1 hb2 hb3
      go_wp2_with fail
      go_ret
      exact ⟨rfl, hb⟩
end Go.Proofs.Ytbenoopgpgffjaa
