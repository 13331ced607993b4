/-
  What is proved: the plain laws from writing to reading: what was written is read as it was, whatever stands behind it; of a shorter beginning it is told that it is short; records join.
  Conditions: none beyond each statement's own premises.
-/
import Derived.Test.YtbenoopgpgffjaaLaws
namespace Go.Proofs.Ytbenoopgpgffjaa.Pack

theorem eq_empty {s : ByteArray} (h : ¬ 0 < s.size) : s = empty := by
  obtain ⟨d⟩ := s
  have h1 : (ByteArray.mk d).size = d.size := rfl
  have h2 : d = #[] := Array.eq_empty_of_size_eq_zero (by omega)
  rw [h2]
  rfl
theorem num_b8 (n : Nat) (h : n < 256) : num [b8 n] = n := by rw [num_one, b8_toNat]; omega
theorem num_len (n : Nat) (h : n ≤ 1024) : num [b8 (n / 256), b8 n] = n := by rw [num_two, b8_toNat, b8_toNat]; omega

/-- The ways in which a field is written. -/
theorem enc1_cases {f : Fd} {x : List UInt8} (h : enc1 f = .ok x) :
    (∃ n : Nat, n < 256 ∧ f = ⟨1, (n : Int), empty⟩ ∧ x = [b8 n]) ∨ (∃ n : Nat, n < 2 ∧ f = ⟨4, (n : Int), empty⟩ ∧ x = [b8 n]) ∨
    (∃ n : Nat, n ≤ 4611686018427387904 ∧ f = ⟨2, (n : Int), empty⟩ ∧ x = be8 n) ∨ (∃ s : ByteArray, s.size ≤ 1024 ∧ f = ⟨3, 0, s⟩ ∧ x = b8 (s.size / 256) :: b8 s.size :: bl s) := by
  obtain ⟨k, n, s⟩ := f
  unfold enc1 at h
  simp only at h
  by_cases h3 : k = 3
  · rw [if_pos h3] at h
    by_cases hn : n ≠ 0
    · rw [if_pos hn] at h; cases h
    · rw [if_neg hn] at h
      by_cases hs : 1024 < s.size
      · rw [if_pos hs] at h; cases h
      · rw [if_neg hs] at h
        injection h with h
        have hn0 : n = 0 := by omega
        subst hn0
        subst h3
        exact .inr (.inr (.inr ⟨s, by omega, rfl, h.symm⟩))
  · rw [if_neg h3] at h
    by_cases hs : 0 < s.size
    · rw [if_pos hs] at h; cases h
    · rw [if_neg hs] at h
      have es := eq_empty hs
      subst es
      by_cases hn : n < 0
      · rw [if_pos hn] at h; cases h
      · rw [if_neg hn] at h
        obtain ⟨m, rfl⟩ := Int.eq_ofNat_of_zero_le (show 0 ≤ n by omega)
        rw [Int.toNat_natCast] at h
        by_cases h1 : k = 1
        · rw [if_pos h1] at h
          by_cases hr : (m : Int) < 256
          · rw [if_pos hr] at h
            injection h with h
            subst h1
            exact .inl ⟨m, by omega, rfl, h.symm⟩
          · rw [if_neg hr] at h; cases h
        · rw [if_neg h1] at h
          by_cases h4 : k = 4
          · rw [if_pos h4] at h
            by_cases hr : (m : Int) < 2
            · rw [if_pos hr] at h
              injection h with h
              subst h4
              exact .inr (.inl ⟨m, by omega, rfl, h.symm⟩)
            · rw [if_neg hr] at h; cases h
          · rw [if_neg h4] at h
            by_cases h2 : k = 2
            · rw [if_pos h2] at h
              by_cases hr : (m : Int) ≤ 4611686018427387904
              · rw [if_pos hr] at h
                injection h with h
                subst h2
                exact .inr (.inr (.inl ⟨m, by omega, rfl, h.symm⟩))
              · rw [if_neg hr] at h; cases h
            · rw [if_neg h2] at h; cases h

theorem dec_enc1 {f : Fd} {x : List UInt8} (h : enc1 f = .ok x) (more : List UInt8) : dec1 f.k (x ++ more) = .ok (f, x.length) := by
  rcases enc1_cases h with ⟨n, hn, rfl, rfl⟩ | ⟨n, hn, rfl, rfl⟩ | ⟨n, hn, rfl, rfl⟩ | ⟨s, hs, rfl, rfl⟩
  · have e : ([b8 n] ++ more).take 1 = [b8 n] := rfl
    simp [dec1, sizeOf, num_b8 n hn]
  · have e : ¬ 1 < n := by omega
    simp [dec1, sizeOf, num_b8 n (by omega), e]
  · have e : (be8 n ++ more).take 8 = be8 n := rfl
    have e2 : ¬ (be8 n ++ more).length < 8 := by rw [List.length_append, be8_len]; omega
    have e3 : ¬ 4611686018427387904 < n := by omega
    simp only [dec1, sizeOf, if_true, if_neg (show ¬ (2 : Int) = 1 by omega), if_neg (show ¬ (2 : Int) = 4 by omega)]
    rw [if_neg e2, e, num_be8 n hn, if_neg (by omega), if_pos (by omega), be8_len]
  · have e : (b8 (s.size / 256) :: b8 s.size :: bl s ++ more).take 2 = [b8 (s.size / 256), b8 s.size] := rfl
    have hl : (b8 (s.size / 256) :: b8 s.size :: bl s ++ more).length = 2 + s.size + more.length := by
      simp only [List.cons_append, List.length_cons, List.length_append, bl_size]; omega
    have hd : (b8 (s.size / 256) :: b8 s.size :: bl s ++ more).drop 2 = bl s ++ more := rfl
    have ht : (bl s ++ more).take s.size = bl s := by rw [← bl_size s]; exact List.take_left
    simp only [dec1, sizeOf, if_true, if_neg (show ¬ (3 : Int) = 1 by omega), if_neg (show ¬ (3 : Int) = 4 by omega), if_neg (show ¬ (3 : Int) = 2 by omega)]
    rw [hl, e, num_len s.size hs, if_neg (by omega), if_neg (by omega), if_neg (by simp), if_neg (by omega), if_neg (by omega), hd, ht, ofBl_bl]
    simp only [List.length_cons, bl_size]
    rw [Nat.add_comm 2 s.size]

theorem some_encode (l : List Fd) : ∀ {x : List UInt8} (more : List UInt8), encode l = .ok x → some_ (l.map (·.k)) (x ++ more) = .ok (l, x.length) := by
  induction l with
  | nil => intro x more h; simp only [encode] at h; injection h with h; subst h; rfl
  | cons f r ih =>
    intro x more h
    simp only [encode] at h
    cases h1 : enc1 f with
    | error e => rw [h1] at h; cases h
    | ok y =>
      rw [h1] at h
      simp only at h
      cases h2 : encode r with
      | error e => rw [h2] at h; cases h
      | ok z =>
        rw [h2] at h
        simp only at h
        injection h with h
        subst h
        simp only [List.map_cons, some_]
        rw [List.append_assoc, dec_enc1 h1 (z ++ more)]
        simp only
        rw [List.drop_left, ih more h2]
        simp only [List.length_append]

theorem decode_encode {l : List Fd} {x : List UInt8} (h : encode l = .ok x) : decode (l.map (·.k)) x = .ok l := by
  have h1 := some_encode l [] h
  rw [List.append_nil] at h1
  unfold decode
  rw [h1]
  simp

/-! ### cuts -/
theorem dec_cut1 {f : Fd} {x : List UInt8} (h : enc1 f = .ok x) {cut : Nat} (hc : cut < x.length) : dec1 f.k (x.take cut) = .error eEnd := by
  rcases enc1_cases h with ⟨n, hn, rfl, rfl⟩ | ⟨n, hn, rfl, rfl⟩ | ⟨n, hn, rfl, rfl⟩ | ⟨s, hs, rfl, rfl⟩
  · have e : ([b8 n].take cut).length < 1 := by rw [List.length_take]; simp only [List.length_cons, List.length_nil] at hc ⊢; omega
    simp only [dec1, sizeOf, if_true]
    rw [if_pos e]
  · have e : ([b8 n].take cut).length < 1 := by rw [List.length_take]; simp only [List.length_cons, List.length_nil] at hc ⊢; omega
    simp only [dec1, sizeOf, if_true, if_neg (show ¬ (4 : Int) = 1 by omega)]
    rw [if_pos e]
  · have e : ((be8 n).take cut).length < 8 := by rw [List.length_take]; rw [be8_len] at hc ⊢; omega
    simp only [dec1, sizeOf, if_true, if_neg (show ¬ (2 : Int) = 1 by omega), if_neg (show ¬ (2 : Int) = 4 by omega)]
    rw [if_pos e]
  · have hl : (b8 (s.size / 256) :: b8 s.size :: bl s).length = s.size + 2 := by simp only [List.length_cons, bl_size]
    simp only [dec1, sizeOf, if_true, if_neg (show ¬ (3 : Int) = 1 by omega), if_neg (show ¬ (3 : Int) = 4 by omega), if_neg (show ¬ (3 : Int) = 2 by omega)]
    rw [List.length_take, hl]
    by_cases h2 : cut < 2
    · rw [if_pos (by omega)]
    · rw [if_neg (by omega)]
      obtain ⟨j, rfl⟩ : ∃ j, cut = j + 2 := ⟨cut - 2, by omega⟩
      have e : ((b8 (s.size / 256) :: b8 s.size :: bl s).take (j + 2)).take 2 = [b8 (s.size / 256), b8 s.size] := by simp
      rw [e, num_len s.size hs, if_neg (by omega), if_neg (by simp), if_neg (by omega), if_pos (by omega)]

theorem some_cut (l : List Fd) : ∀ {x : List UInt8} {cut : Nat}, encode l = .ok x → cut < x.length → some_ (l.map (·.k)) (x.take cut) = .error eEnd := by
  induction l with
  | nil => intro x cut h hc; simp only [encode] at h; injection h with h; subst h; simp at hc
  | cons f r ih =>
    intro x cut h hc
    simp only [encode] at h
    cases h1 : enc1 f with
    | error e => rw [h1] at h; cases h
    | ok y =>
      rw [h1] at h
      simp only at h
      cases h2 : encode r with
      | error e => rw [h2] at h; cases h
      | ok z =>
        rw [h2] at h
        simp only at h
        injection h with h
        subst h
        rw [List.length_append] at hc
        simp only [List.map_cons, some_]
        by_cases hy : cut < y.length
        · rw [List.take_append_of_le_length (by omega), dec_cut1 h1 hy]
        · have e : (y ++ z).take cut = y ++ z.take (cut - y.length) := by
            rw [List.take_append, List.take_of_length_le (by omega)]
          rw [e, dec_enc1 h1]
          simp only
          rw [List.drop_left, ih h2 (by omega)]

theorem decode_cut {l : List Fd} {x : List UInt8} {cut : Nat} (h : encode l = .ok x) (hc : cut < x.length) : decode (l.map (·.k)) (x.take cut) = .error eEnd := by
  unfold decode
  rw [some_cut l h hc]

/-! ### joins -/
theorem encode_join_ok {a b : List Fd} {x y : List UInt8} (h : encode a = .ok x) (k : encode b = .ok y) : encode (a ++ b) = .ok (x ++ y) := by
  rw [encode_append, h, k]
theorem encode_join_left {a b : List Fd} {e : Int} (h : encode a = .error e) : encode (a ++ b) = .error e := by
  rw [encode_append, h]
theorem encode_join_right {a b : List Fd} {x : List UInt8} {e : Int} (h : encode a = .ok x) (k : encode b = .error e) : encode (a ++ b) = .error e := by
  rw [encode_append, h, k]
theorem encode_errs (l : List Fd) {e : Int} (h : encode l = .error e) : e = eForm ∨ e = eLong := by
  induction l with
  | nil => simp only [encode] at h; cases h
  | cons f r ih =>
    simp only [encode] at h
    cases h1 : enc1 f with
    | error e1 => rw [h1] at h; simp only at h; injection h with h; subst h; exact enc1_errs h1
    | ok y =>
      rw [h1] at h
      simp only at h
      cases h2 : encode r with
      | error e2 => rw [h2] at h; simp only at h; injection h with h; subst h; exact ih h2
      | ok z => rw [h2] at h; simp only at h; cases h

end Go.Proofs.Ytbenoopgpgffjaa.Pack
namespace Go.Proofs.Ytbenoopgpgffjaa
theorem encode_ne {l : List Pack.Fd} {e : Int} (h : Pack.encode l = .error e) : ((e == 0) = false) ∧ ((e != 0) = true) := by
  rcases Pack.encode_errs l h with rfl | rfl <;> exact ⟨rfl, rfl⟩
end Go.Proofs.Ytbenoopgpgffjaa
