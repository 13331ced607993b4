/-
  What is proved: 'harpsichordref02.Decode' computes 'Pack.decode'; 'harpsichordlaw02.alive' is true.
  Conditions: at most 1000 kinds.
-/
import Derived.Test.YtbenoopgpgffjaaRefSome
import Derived.Test.YtbenoopgpgffjaaRefEncode
import Derived.Test.YtbenoopgpgffjaaKinds
namespace Go.Proofs.Ytbenoopgpgffjaa
open Go.RowKit

set_option maxHeartbeats 1000000 in
set_option maxRecDepth 100000 in
theorem refdecode_any (A : Option Addr) (n c : Nat) (ks : List Int) (A' : Option Addr) (m c' : Nat) (bs : List UInt8) (w : World) (hl : ks.length = n) (hr : Rd w w.heap.size 1 A n (intCells ks)) (hn : n ≤ 1000)
    (hl' : bs.length = m) (hmc : m ≤ c') (hcm : c' ≤ maxLen) (hr' : Rd w w.heap.size 1 A' m (byteCells bs)) :
    Calls Try.prog 14 #[.slice A n c, .slice A' m c'] w (Told w.heap.size w (Pack.decode ks bs)) := by
  have hS := hide (refsome_any A n c ks A' m c' bs w hl hr hn hl' hmc hcm hr')
  have H' := hide hl'
  clear hl hl' hr hr'
  unfold maxLen at hcm
  cases hx : Pack.some_ ks bs with
  | error er =>
    have HX := hide hx
    obtain ⟨e1, e2⟩ := some_ne hx
    clear hx
    go_enter Try.func14, Try.ntmps14
    go_wp2_with fail
    refine hS.out.mono ?_
    rintro e w1 ⟨hb1, he⟩
    rw [HX.out] at he
    simp only at he
    subst he
    go_wp2
    go_ret2
    unfold Told Pack.decode
    rw [HX.out]
    exact ⟨hb1, rfl⟩
  | ok q =>
    obtain ⟨fs, a⟩ := q
    have HX := hide hx
    obtain ⟨ha1, _, _⟩ := Pack.some_le _ _ hx
    rw [H'.out] at ha1
    clear hx
    by_cases hlt : a < m
    · have hlt1 : (a : Int) < m := by omega
      have hlt2 := beq_of_lt hlt
      have HLT := hide hlt
      go_enter Try.func14, Try.ntmps14
      go_wp2_with fail
      refine hS.out.mono ?_
      rintro e w1 ⟨hb1, he⟩
      rw [HX.out] at he
      simp only at he
      obtain ⟨v, rfl, hown⟩ := he
      go_wp2
      go_ret2
      unfold Told Pack.decode
      rw [HX.out]
      simp only
      rw [if_pos (by rw [H'.out]; exact HLT.out)]
      exact ⟨hb1, rfl⟩
    · have ham : a = m := by omega
      subst ham
      go_enter Try.func14, Try.ntmps14
      go_wp2_with fail
      refine hS.out.mono ?_
      rintro e w1 ⟨hb1, he⟩
      rw [HX.out] at he
      simp only at he
      obtain ⟨v, rfl, hown⟩ := he
      go_wp2
      go_ret2
      unfold Told Pack.decode
      rw [HX.out]
      simp only
      rw [if_neg (by rw [H'.out]; omega)]
      exact ⟨hb1, _, rfl, hown⟩

/-- What 'alive' writes and reads. -/
def aliveFs : List Pack.Fd := [⟨1, 7, ⟨#[]⟩⟩, ⟨3, 0, ⟨#[97, 98]⟩⟩]
def aliveBs : List UInt8 := [7, 0, 2, 97, 98]
theorem alive_enc : Pack.encode aliveFs = .ok aliveBs := by kernel_rfl
theorem alive_dec : Pack.decode [1, 3] aliveBs = .ok aliveFs := by kernel_rfl

set_option maxHeartbeats 1000000 in
set_option maxRecDepth 100000 in
theorem alive_any (w : World) : Calls Try.prog 10 #[] w fun e w' => e = .returned (.bool true) ∧ Below w.heap.size w w' := by
  go_enter Try.func10, Try.ntmps10
  go_wp2_with fail
  refine (encode_any (some ⟨w.heap.size, 0, none⟩) 2 2 aliveFs _ rfl (Rd.newFields w aliveFs 2 w.heap.size rfl rfl) (by omega)).mono ?_
  rintro e w1 ⟨hb1, he⟩
  rw [alive_enc] at he
  simp only at he
  obtain ⟨v1, rfl, hown1⟩ := he
  obtain ⟨A1, n1, rfl, hn1, hm1⟩ := own_shape hown1
  have hrd1 := Rd.of_own hown1
  have hbw1 : Below w.heap.size w w1 := ((Below.refl _ _).alloc (Nat.le_refl _) _).trans (hb1.mono (by simp))
  clear hown1 hb1
  have hlen1 : aliveBs.length = 5 := rfl
  have hlf : aliveFs.length = 2 := rfl
  rw [hlen1] at hrd1 hn1
  rw [hlen1]
  clear hlen1
  go_wp2_with fail
  refine (decode_any (some ⟨w1.heap.size, 0, none⟩) 2 2 [1, 3] A1 5 n1 aliveBs _ rfl (Rd.newInts w1 [1, 3] 2 w1.heap.size rfl rfl) (by omega) rfl hn1 hm1 (hrd1.alloc' _)).mono ?_
  rintro e w2 ⟨hb2, he⟩
  rw [alive_dec] at he
  simp only at he
  obtain ⟨v2, rfl, hown2⟩ := he
  obtain ⟨A2, n2, rfl, hn2, hm2⟩ := own_shape hown2
  have hbw2 : Below w.heap.size w w2 := (hbw1.alloc hbw1.size _).trans (hb2.mono (by have := hbw1.size; simp; omega))
  have hrd2 := Rd.of_own hown2
  obtain ⟨b, off, rfl, _, _, _, c2⟩ := hrd2.field rfl (k := 1) (by rw [hlf]; omega)
  have hstr := run_str (c := n1) ((hrd1.alloc' (.cells #[.int .i64 1, .int .i64 3] 3)).on (hb2.mono (Nat.le_refl _)))
  have e1 : Pack.ofBl aliveBs = ⟨#[7, 0, 2, 97, 98]⟩ := rfl
  rw [e1] at hstr
  have c3 : w2.cell? ⟨b, off + 1 * 3 + 2, none⟩ = some (.string ⟨#[97, 98]⟩) := c2
  clear hrd1 hown2 hrd2 hbw1 hb2 c2 e1
  go_wp2_with fail
  go_ret
  exact ⟨rfl, hbw2⟩
end Go.Proofs.Ytbenoopgpgffjaa
