/-
  What is proved: the law PackAgain answers true, and nothing that was there has turned.
  Conditions: the arguments read as numbers and as bytes.
-/
import Derived.Test.YtbenoopgpgffjaaReadsWalk
import Derived.Test.YtbenoopgpgffjaaLaws
namespace Go.Proofs.Ytbenoopgpgffjaa
open Go.RowKit

set_option maxHeartbeats 2000000 in
set_option maxRecDepth 100000 in
theorem again_walk (A : Option Addr) (n c : Nat) (ks : List Int) (A' : Option Addr) (m c' : Nat) (bs : List UInt8) (w : World) (hl : ks.length = n) (hr : Rd w w.heap.size 1 A n (intCells ks))
    (hl' : bs.length = m) (hmc : m ≤ c') (hcm : c' ≤ maxLen) (hr' : Rd w w.heap.size 1 A' m (byteCells bs)) :
    Calls Try.prog 5 #[.slice A n c, .slice A' m c'] w (Fine w) := by
  by_cases hbig : 300 < n
  · have hbig1 : (300 : Int) < n := by omega
    go_enter Try.func5, Try.ntmps5
    go_wp2_with fail
    refine (alive_any _).mono ?_
    rintro e w1 ⟨rfl, hb1⟩
    go_wp2
    go_ret
    exact ⟨rfl, hb1⟩
  · have hbig1 : (n : Int) ≤ 300 := by omega
    have D1 := hide fun w1 h1 h2 => decode_any A n c ks A' m c' bs w1 hl h1 (by omega) hl' hmc hcm h2
    have HL := hide hl
    clear hl hl'
    cases hx : Pack.decode ks bs with
    | error er =>
      obtain ⟨z1, z2⟩ := decode_ne hx
      have HX := hide hx
      clear hx
      go_enter Try.func5, Try.ntmps5
      go_wp2_with fail
      refine (D1.out _ hr hr').mono ?_
      rintro e w1 ⟨hb1, he⟩
      rw [HX.out] at he
      simp only at he
      subst he
      clear hr hr'
      go_wp2_with fail
      refine (alive_any _).mono ?_
      rintro e w2 ⟨rfl, hb2⟩
      go_wp2
      go_ret
      exact ⟨rfl, hb1.trans (hb2.mono hb1.size)⟩
    | ok fs =>
      have hlf := decode_len hx
      rw [HL.out] at hlf
      have hlf2 : fs.length ≤ 300 := by omega
      have HE := hide (Pack.encode_decode hx)
      have HX := hide hx
      clear hx hlf
      go_enter Try.func5, Try.ntmps5
      go_wp2_with fail
      refine (D1.out _ hr hr').mono ?_
      rintro e w1 ⟨hb1, he⟩
      rw [HX.out] at he
      simp only at he
      obtain ⟨v1, rfl, hown1⟩ := he
      obtain ⟨A1, c1, rfl, _, _⟩ := own_shape hown1
      have hrd1 := Rd.of_own hown1
      have hr1 := hr'.on hb1
      clear hown1 hr hr'
      go_wp2_with fail
      refine (encode_any A1 _ c1 fs _ rfl hrd1 (by omega)).mono ?_
      rintro e w2 ⟨hb2, he⟩
      rw [HE.out] at he
      simp only at he
      obtain ⟨v2, rfl, hown2⟩ := he
      obtain ⟨A2, c2, rfl, _, _⟩ := own_shape hown2
      have hrd2 := Rd.of_own hown2
      have hr2 := hr1.on hb2
      clear hown2 hrd1 hr1
      go_wp2_with fail
      refine (alive_any _).mono ?_
      rintro e w3 ⟨rfl, hb3⟩
      have hs1 := run_str (c := c2) (hrd2.on hb3)
      have hs2 := run_str (c := c') (hr2.on hb3)
      have hb : Below w.heap.size w w3 := hb1.trans ((hb2.mono hb1.size).trans (hb3.mono (Nat.le_trans hb1.size hb2.size)))
      clear hrd2 hr2 hb1 hb2 hb3
      go_wp2_with fail
      go_ret
      exact ⟨rfl, hb⟩
end Go.Proofs.Ytbenoopgpgffjaa
