/-
  What is proved: 'pack.next' computes 'Pack.dec1', at every kind and all bytes.
  Conditions: the bytes read as bytes, of a capacity that an int holds.
-/
import Derived.Test.YtbenoopgpgffjaaNext
namespace Go.Proofs.Ytbenoopgpgffjaa
open Go.RowKit

theorem dec_none (k : Int) (bs : List UInt8) (h : Pack.sizeOf k = none) : Pack.dec1 k bs = .error 21 := by
  simp [Pack.dec1, h, Pack.eForm]
theorem dec_end (k : Int) (n : Nat) (bs : List UInt8) (h : Pack.sizeOf k = some n) (hm : bs.length < n) : Pack.dec1 k bs = .error 20 := by
  simp [Pack.dec1, h, hm, Pack.eEnd]

set_option maxHeartbeats 1000000 in
set_option maxRecDepth 100000 in
theorem next_end (k : Int) (n : Nat) (A : Option Addr) (m c : Nat) (w : World) (hs : sizeInt k = n) (hn : n ≤ 8) (hm : m < n) :
    Calls Try.prog 21 #[.int .i64 k, .slice A m c] w fun e w' => e = .returned (nextVal (.error 20)) ∧ Below w.heap.size w w' := by
  have HS := hide hs
  clear hs
  have hm1 : (m : Int) < n := by omega
  have hm2 : (0 : Int) ≤ n := by omega
  go_enter Try.func21, Try.ntmps21
  go_wp2_with fail
  refine (size_any k _).mono ?_
  rintro e w1 ⟨rfl, rfl⟩
  rw [HS.out]
  go_wp2
  refine bodyPost_ret (v := nextVal (.error 20)) (by simp [results, Try.results21, go_sem, nextVal]) rfl ⟨rfl, ?_⟩
  exact ((Below.refl _ _).alloc (Nat.le_refl _) _).alloc (by simp) _

theorem next_any (k : Int) (A : Option Addr) (m c : Nat) (bs : List UInt8) (w : World) (hl : bs.length = m) (hmc : m ≤ c) (hcm : c ≤ maxLen) (hr : Rd w w.heap.size 1 A m (byteCells bs)) :
    Calls Try.prog 21 #[.int .i64 k, .slice A m c] w fun e w' => e = .returned (nextVal (Pack.dec1 k bs)) ∧ Below w.heap.size w w' := by
  have short : ∀ n : Nat, Pack.sizeOf k = some n → n ≤ 8 → m < n → Calls Try.prog 21 #[.int .i64 k, .slice A m c] w fun e w' => e = .returned (nextVal (Pack.dec1 k bs)) ∧ Below w.heap.size w w' := by
    intro n h1 h2 h3
    rw [dec_end k n bs h1 (by omega)]
    exact next_end k n A m c w (by unfold sizeInt; rw [h1]) h2 h3
  by_cases h1 : k = 1
  · subst h1
    by_cases hm : 1 ≤ m
    · exact next_one A m c bs w hl hmc hcm hr hm
    · exact short 1 rfl (by omega) (by omega)
  · by_cases h4 : k = 4
    · subst h4
      by_cases hm : 1 ≤ m
      · exact next_four A m c bs w hl hmc hcm hr hm
      · exact short 1 rfl (by omega) (by omega)
    · by_cases h2 : k = 2
      · subst h2
        by_cases hm : 8 ≤ m
        · exact next_two A m c bs w hl hmc hcm hr hm
        · exact short 8 rfl (by omega) (by omega)
      · by_cases h3 : k = 3
        · subst h3
          by_cases hm : 2 ≤ m
          · exact next_three A m c bs w hl hmc hcm hr hm
          · exact short 2 rfl (by omega) (by omega)
        · rw [dec_none k bs (by unfold Pack.sizeOf; rw [if_neg h1, if_neg h4, if_neg h2, if_neg h3])]
          have f : ∀ {a b : Int}, ¬ a = b → (a == b) = false := fun h => by simpa using h
          exact next_none k _ w (f h1) (f h2) (f h3) (f h4)
end Go.Proofs.Ytbenoopgpgffjaa
