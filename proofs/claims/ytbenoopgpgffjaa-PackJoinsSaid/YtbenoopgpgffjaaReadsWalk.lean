/-
  What is proved: the law PackReads answers true, and nothing that was there has turned.
  Conditions: the arguments read as numbers and as bytes.
-/
import Derived.Test.YtbenoopgpgffjaaWritesWalk
namespace Go.Proofs.Ytbenoopgpgffjaa
open Go.RowKit

/-- The error and the fields of a whole reading; of a beginning, with how many bytes. -/
def Both (r : Except Int (List Pack.Fd)) (a : Int) (l : List Pack.Fd) : Prop := match r with
  | .ok fs => a = 0 ∧ l = fs
  | .error x => a = x ∧ l = []
def Three (r : Except Int (List Pack.Fd × Nat)) (a : Int) (l : List Pack.Fd) (t : Int) : Prop := match r with
  | .ok (fs, n) => a = 0 ∧ l = fs ∧ t = n
  | .error x => a = x ∧ l = [] ∧ t = 0

/-- What a reading answers has a slice's shape, whatever it is. -/
theorem told_shape {B : Nat} {w : World} {r : Except Int (List Pack.Fd)} {e : Ending} {w' : World} (h : Told B w r e w') :
    Below B w w' ∧ ∃ A c er l, e = .returned (.tuple #[.slice A l.length c, .int .i64 er]) ∧ Rd w' w'.heap.size 3 A l.length (fsCells l) ∧ Both r er l := by
  obtain ⟨hb, he⟩ := h
  refine ⟨hb, ?_⟩
  cases r with
  | ok fs =>
    obtain ⟨v, rfl, hown⟩ := he
    obtain ⟨A, c, rfl, _, _⟩ := own_shape hown
    exact ⟨A, c, 0, fs, rfl, Rd.of_own hown, rfl, rfl⟩
  | error x => exact ⟨none, 0, x, [], he, Rd.nil_ _ _ _ _, rfl, rfl⟩
theorem began_shape {B : Nat} {w : World} {r : Except Int (List Pack.Fd × Nat)} {e : Ending} {w' : World} (h : Began B w r e w') :
    Below B w w' ∧ ∃ A c er l t, e = .returned (.tuple #[.slice A l.length c, .int .i64 t, .int .i64 er]) ∧ Rd w' w'.heap.size 3 A l.length (fsCells l) ∧ Three r er l t := by
  obtain ⟨hb, he⟩ := h
  refine ⟨hb, ?_⟩
  cases r with
  | ok q =>
    obtain ⟨fs, n⟩ := q
    obtain ⟨v, rfl, hown⟩ := he
    obtain ⟨A, c, rfl, _, _⟩ := own_shape hown
    exact ⟨A, c, 0, fs, n, rfl, Rd.of_own hown, rfl, rfl, rfl⟩
  | error x => exact ⟨none, 0, x, [], 0, he, Rd.nil_ _ _ _ _, rfl, rfl, rfl⟩
theorem told_two {r : Except Int (List Pack.Fd)} {a b : Int} {l m : List Pack.Fd} (h : Both r a l) (k : Both r b m) : b = a ∧ m = l := by
  cases r with
  | ok fs => exact ⟨k.1.trans h.1.symm, k.2.trans h.2.symm⟩
  | error x => exact ⟨k.1.trans h.1.symm, k.2.trans h.2.symm⟩
theorem began_two {r : Except Int (List Pack.Fd × Nat)} {a b t s : Int} {l m : List Pack.Fd} (h : Three r a l t) (k : Three r b m s) : b = a ∧ m = l ∧ s = t := by
  cases r with
  | ok q => exact ⟨k.1.trans h.1.symm, k.2.1.trans h.2.1.symm, k.2.2.trans h.2.2.symm⟩
  | error x => exact ⟨k.1.trans h.1.symm, k.2.1.trans h.2.1.symm, k.2.2.trans h.2.2.symm⟩
theorem decode_len {ks : List Int} {bs : List UInt8} {fs : List Pack.Fd} (hd : Pack.decode ks bs = .ok fs) : fs.length = ks.length := by
  unfold Pack.decode at hd
  cases hs : Pack.some_ ks bs with
  | error x => rw [hs] at hd; cases hd
  | ok q =>
    obtain ⟨gs, n⟩ := q
    rw [hs] at hd
    simp only at hd
    have h3 := (Pack.some_le _ _ hs).2.2
    split at hd
    · cases hd
    · injection hd with hd
      subst hd
      exact h3
theorem told_len {ks : List Int} {bs : List UInt8} {a : Int} {l : List Pack.Fd} (h : Both (Pack.decode ks bs) a l) : l.length ≤ ks.length := by
  cases hd : Pack.decode ks bs with
  | ok fs =>
    rw [hd] at h
    obtain ⟨_, rfl⟩ := h
    exact Nat.le_of_eq (decode_len hd)
  | error x => rw [hd] at h; obtain ⟨_, rfl⟩ := h; simp
theorem began_len {ks : List Int} {bs : List UInt8} {a t : Int} {l : List Pack.Fd} (h : Three (Pack.some_ ks bs) a l t) : l.length ≤ ks.length := by
  cases hd : Pack.some_ ks bs with
  | ok q =>
    obtain ⟨fs, n⟩ := q
    rw [hd] at h
    obtain ⟨_, rfl, _⟩ := h
    have h3 := (Pack.some_le _ _ hd).2.2
    omega
  | error x => rw [hd] at h; obtain ⟨_, rfl, _⟩ := h; simp

set_option maxHeartbeats 2000000 in
set_option maxRecDepth 100000 in
theorem reads_walk (A : Option Addr) (n c : Nat) (ks : List Int) (A' : Option Addr) (m c' : Nat) (bs : List UInt8) (w : World) (hl : ks.length = n) (hr : Rd w w.heap.size 1 A n (intCells ks))
    (hl' : bs.length = m) (hmc : m ≤ c') (hcm : c' ≤ maxLen) (hr' : Rd w w.heap.size 1 A' m (byteCells bs)) :
    Calls Try.prog 4 #[.slice A n c, .slice A' m c'] w (Fine w) := by
  by_cases hbig : 300 < n
  · have hbig1 : (300 : Int) < n := by omega
    go_enter Try.func4, Try.ntmps4
    go_wp2_with fail
    refine (alive_any _).mono ?_
    rintro e w1 ⟨rfl, hb1⟩
    go_wp2
    go_ret
    exact ⟨rfl, hb1⟩
  · have hbig1 : (n : Int) ≤ 300 := by omega
    have D1 := hide fun w1 h1 h2 => decode_any A n c ks A' m c' bs w1 hl h1 (by omega) hl' hmc hcm h2
    have D2 := hide fun w1 h1 h2 => refdecode_any A n c ks A' m c' bs w1 hl h1 (by omega) hl' hmc hcm h2
    have S1 := hide fun w1 h1 h2 => some_any A n c ks A' m c' bs w1 hl h1 (by omega) hl' hmc hcm h2
    have S2 := hide fun w1 h1 h2 => refsome_any A n c ks A' m c' bs w1 hl h1 (by omega) hl' hmc hcm h2
    have HL := hide hl
    clear hl hl'
    go_enter Try.func4, Try.ntmps4
    go_wp2_with fail
    refine (D1.out _ hr hr').mono ?_
    intro e w1 h1
    obtain ⟨hb1, A1, c1, e1, l1, rfl, hrd1, hm1⟩ := told_shape h1
    clear h1
    have hlen1 := told_len hm1
    rw [HL.out] at hlen1
    have HM1 := hide hm1
    clear hm1
    have hr1 := hr.on hb1
    have hr1' := hr'.on hb1
    go_wp2_with fail
    refine (D2.out _ hr1 hr1').mono ?_
    intro e w2 h2
    obtain ⟨hb2, A2, c2, e2, l2, rfl, hrd2, hm2⟩ := told_shape h2
    clear h2
    obtain ⟨rfl, rfl⟩ := told_two HM1.out hm2
    clear hm2
    have hr2 := hr1.on hb2
    have hr2' := hr1'.on hb2
    go_wp2_with fail
    refine (S1.out _ hr2 hr2').mono ?_
    intro e w3 h3
    obtain ⟨hb3, A3, c3, e3, l3, t3, rfl, hrd3, hm3⟩ := began_shape h3
    clear h3
    have hlen3 := began_len hm3
    rw [HL.out] at hlen3
    have HM3 := hide hm3
    clear hm3
    have hr3 := hr2.on hb3
    have hr3' := hr2'.on hb3
    go_wp2_with fail
    refine (S2.out _ hr3 hr3').mono ?_
    intro e w4 h4
    obtain ⟨hb4, A4, c4, e4, l4, t4, rfl, hrd4, hm4⟩ := began_shape h4
    clear h4
    obtain ⟨rfl, rfl, rfl⟩ := began_two HM3.out hm4
    clear hm4
    go_wp2_with fail
    refine (alive_any _).mono ?_
    rintro e w5 ⟨rfl, hb5⟩
    have g1 := (((hrd1.on hb2).on hb3).on hb4).on hb5
    have g2 := ((hrd2.on hb3).on hb4).on hb5
    have g3 := (hrd3.on hb4).on hb5
    have g4 := hrd4.on hb5
    have hb : Below w.heap.size w w5 := by
      have z1 := hb1.size
      have z2 := hb2.size
      have z3 := hb3.size
      have z4 := hb4.size
      exact hb1.trans ((hb2.mono (by omega)).trans ((hb3.mono (by omega)).trans ((hb4.mono (by omega)).trans (hb5.mono (by omega)))))
    clear hb1 hb2 hb3 hb4 hb5 hrd1 hrd2 hrd3 hrd4 hr hr' hr1 hr1' hr2 hr2' hr3 hr3'
    go_wp2_with fail
    refine (same_any A1 A2 _ c1 c2 l2 _ _ _ rfl g1 g2 (by omega)).mono ?_
    rintro e w6 ⟨rfl, m6, rfl⟩
    go_wp2_with fail
    refine (same_any A3 A4 _ c3 c4 l4 _ _ _ rfl (g3.drewN m6) (g4.drewN m6) (by omega)).mono ?_
    rintro e w7 ⟨rfl, m7, rfl⟩
    go_wp2_with fail
    go_ret
    exact ⟨rfl, below_drewN hb (m6 + m7)⟩
end Go.Proofs.Ytbenoopgpgffjaa
