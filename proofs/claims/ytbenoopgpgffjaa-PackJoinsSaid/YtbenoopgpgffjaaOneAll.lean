/-
  What is proved: 'pack.one' lays the bytes that 'Pack.enc1' says behind what it was given, or tells the error that 'Pack.enc1' says.
  Conditions: the row is the call's own (or nil), of at most 2^46 bytes.
-/
import Derived.Test.YtbenoopgpgffjaaOneText
namespace Go.Proofs.Ytbenoopgpgffjaa
open Go.RowKit

/-- A field as a value. -/
def fdVal (f : Pack.Fd) : Value := .agg #[.int .i64 f.k, .int .i64 f.n, .string f.s]

theorem empty_of_size {s : ByteArray} (h : ¬ 0 < s.size) : s = ⟨#[]⟩ := by
  obtain ⟨d⟩ := s
  have : d.size = 0 := by
    have h' : (ByteArray.mk d).size = d.size := rfl
    omega
  have hd : d = #[] := Array.eq_empty_of_size_eq_zero this
  rw [hd]
theorem full_of_size {s : ByteArray} (h : 0 < s.size) : s.toList.isEmpty = false := by
  rw [ByteArray.toList_eq]
  obtain ⟨⟨l⟩⟩ := s
  cases l with
  | nil => simp [ByteArray.size] at h
  | cons a r => rfl
theorem beq_no {a b : Int} (h : ¬ a = b) : (a == b) = false := by simpa using h

set_option maxHeartbeats 400000 in
theorem one_ok (f : Pack.Fd) (ys : List UInt8) (hf : Pack.enc1 f = .ok ys) (base : Nat) (v : Value) (m : Nat) (xs : List Value) (w : World) (hown : w.ownsRow base 5 1 v m xs) (hs : m ≤ 70368744177664) (hb : base ≤ w.heap.size) :
    Calls Try.prog 19 #[v, fdVal f] w fun e w' => ∃ v', e = .returned (.tuple #[v', .int .i64 0]) ∧ w'.ownsRow base 5 1 v' (m + ys.length) (xs ++ byteCells ys) ∧ Below base w w' := by
  obtain ⟨k, n, s⟩ := f
  unfold Pack.enc1 at hf
  simp only at hf
  unfold fdVal
  simp only
  by_cases h3 : k = 3
  · subst h3
    rw [if_pos rfl] at hf
    by_cases hn : n ≠ 0
    · rw [if_pos hn] at hf; cases hf
    · rw [if_neg hn] at hf
      have hn0 : n = 0 := by omega
      subst hn0
      by_cases hl : 1024 < s.size
      · rw [if_pos hl] at hf; cases hf
      · rw [if_neg hl] at hf
        injection hf with hf
        subst hf
        have e : (Pack.b8 (s.size / 256) :: Pack.b8 s.size :: Pack.bl s).length = 2 + s.size := by simp only [List.length_cons, Pack.bl_size]; omega
        rw [e]
        exact one_text s (by omega) base v m xs w hown hs hb
  · rw [if_neg h3] at hf
    by_cases hz : 0 < s.size
    · rw [if_pos hz] at hf; cases hf
    · rw [if_neg hz] at hf
      have es := empty_of_size hz
      subst es
      by_cases hn : n < 0
      · rw [if_pos hn] at hf; cases hf
      · rw [if_neg hn] at hf
        by_cases h1 : k = 1
        · subst h1
          rw [if_pos rfl] at hf
          by_cases hr : n < 256
          · rw [if_pos hr] at hf
            injection hf with hf
            subst hf
            exact one_small n (by omega) hr base v m xs w hown hs hb
          · rw [if_neg hr] at hf; cases hf
        · rw [if_neg h1] at hf
          by_cases h4 : k = 4
          · subst h4
            rw [if_pos rfl] at hf
            by_cases hr : n < 2
            · rw [if_pos hr] at hf
              injection hf with hf
              subst hf
              exact one_switch n (by omega) hr base v m xs w hown hs hb
            · rw [if_neg hr] at hf; cases hf
          · rw [if_neg h4] at hf
            by_cases h2 : k = 2
            · subst h2
              rw [if_pos rfl] at hf
              by_cases hr : n ≤ 4611686018427387904
              · rw [if_pos hr] at hf
                injection hf with hf
                subst hf
                exact one_whole n (by omega) hr base v m xs w hown hs hb
              · rw [if_neg hr] at hf; cases hf
            · rw [if_neg h2] at hf; cases hf

set_option maxHeartbeats 400000 in
theorem one_err (f : Pack.Fd) (er : Int) (hf : Pack.enc1 f = .error er) (v : Value) (base : Nat) (w : World) (hb : base ≤ w.heap.size) :
    Calls Try.prog 19 #[v, fdVal f] w fun e w' => e = .returned (.tuple #[.slice none 0 0, .int .i64 er]) ∧ Below base w w' := by
  obtain ⟨k, n, s⟩ := f
  unfold Pack.enc1 at hf
  simp only at hf
  unfold fdVal
  simp only
  by_cases h3 : k = 3
  · subst h3
    rw [if_pos rfl] at hf
    by_cases hn : n ≠ 0
    · rw [if_pos hn] at hf
      injection hf with hf
      subst hf
      exact one_form3 n s v base w (beq_no hn) (by simpa using hn) hb
    · rw [if_neg hn] at hf
      have hn0 : n = 0 := by omega
      subst hn0
      by_cases hl : 1024 < s.size
      · rw [if_pos hl] at hf
        injection hf with hf
        subst hf
        exact one_long s hl v base w hb
      · rw [if_neg hl] at hf; cases hf
  · rw [if_neg h3] at hf
    by_cases hz : 0 < s.size
    · rw [if_pos hz] at hf
      injection hf with hf
      subst hf
      exact one_stray k n s (beq_no h3) (full_of_size hz) v base w hb
    · rw [if_neg hz] at hf
      have es := empty_of_size hz
      subst es
      by_cases hn : n < 0
      · rw [if_pos hn] at hf
        injection hf with hf
        subst hf
        exact one_neg k n (beq_no h3) hn v base w hb
      · rw [if_neg hn] at hf
        by_cases h1 : k = 1
        · subst h1
          rw [if_pos rfl] at hf
          by_cases hr : n < 256
          · rw [if_pos hr] at hf; cases hf
          · rw [if_neg hr] at hf
            injection hf with hf
            subst hf
            exact one_small_over n (by omega) v base w hb
        · rw [if_neg h1] at hf
          by_cases h4 : k = 4
          · subst h4
            rw [if_pos rfl] at hf
            by_cases hr : n < 2
            · rw [if_pos hr] at hf; cases hf
            · rw [if_neg hr] at hf
              injection hf with hf
              subst hf
              exact one_switch_over n (by omega) v base w hb
          · rw [if_neg h4] at hf
            by_cases h2 : k = 2
            · subst h2
              rw [if_pos rfl] at hf
              by_cases hr : n ≤ 4611686018427387904
              · rw [if_pos hr] at hf; cases hf
              · rw [if_neg hr] at hf
                injection hf with hf
                subst hf
                exact one_whole_over n (by omega) v base w hb
            · rw [if_neg h2] at hf
              injection hf with hf
              subst hf
              exact one_other k n (by omega) (beq_no h1) (beq_no h2) (beq_no h3) (beq_no h4) v base w hb
end Go.Proofs.Ytbenoopgpgffjaa
