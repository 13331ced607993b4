/-
  What is proved: the plain laws between writing and reading records: what was written is read as it was, what was read is written as it was; cuts; joins.
  Conditions: none beyond each statement's own premises.
-/
import Derived.Test.YtbenoopgpgffjaaPure
namespace Go.Proofs.Ytbenoopgpgffjaa.Pack

theorem num_append (a b : List UInt8) : num (a ++ b) = num a * 256 ^ b.length + num b := by
  have h : ∀ (b : List UInt8) (v : Nat), b.foldl (fun v x => v * 256 + x.toNat) v = v * 256 ^ b.length + b.foldl (fun v x => v * 256 + x.toNat) 0 := by
    intro b
    induction b with
    | nil => intro v; simp
    | cons x r ih =>
      intro v
      simp only [List.foldl_cons]
      rw [ih (v * 256 + x.toNat), ih (0 * 256 + x.toNat)]
      simp only [List.length_cons, Nat.pow_succ, Nat.zero_mul, Nat.zero_add]
      rw [Nat.add_mul, Nat.mul_assoc, Nat.mul_comm 256, Nat.add_assoc]
  unfold num
  rw [List.foldl_append, h]

theorem b8_self (x : UInt8) (n : Nat) (h : n % 256 = x.toNat) : b8 n = x := by
  apply UInt8.toNat_inj.1
  rw [b8_toNat, h]

theorem num_one (x : UInt8) : num [x] = x.toNat := by simp [num]
theorem num_two (x y : UInt8) : num [x, y] = x.toNat * 256 + y.toNat := by simp [num]
theorem num_eight (a b c d e f g h : UInt8) : num [a, b, c, d, e, f, g, h] = ((((((a.toNat * 256 + b.toNat) * 256 + c.toNat) * 256 + d.toNat) * 256 + e.toNat) * 256 + f.toNat) * 256 + g.toNat) * 256 + h.toNat := by simp [num]

theorem be8_num (a b c d e f g h : UInt8) : be8 (num [a, b, c, d, e, f, g, h]) = [a, b, c, d, e, f, g, h] := by
  have ha := a.toNat_lt; have hb := b.toNat_lt; have hc := c.toNat_lt; have hd := d.toNat_lt
  have he := e.toNat_lt; have hf := f.toNat_lt; have hg := g.toNat_lt; have hh := h.toNat_lt
  rw [num_eight]
  unfold be8
  congr 1
  · exact b8_self _ _ (by omega)
  congr 1
  · exact b8_self _ _ (by omega)
  congr 1
  · exact b8_self _ _ (by omega)
  congr 1
  · exact b8_self _ _ (by omega)
  congr 1
  · exact b8_self _ _ (by omega)
  congr 1
  · exact b8_self _ _ (by omega)
  congr 1
  · exact b8_self _ _ (by omega)
  congr 1
  · exact b8_self _ _ (by omega)

theorem num_be8 (n : Nat) (h : n ≤ 4611686018427387904) : num (be8 n) = n := by
  unfold be8
  rw [num_eight]
  simp only [b8_toNat]
  omega

theorem be8_len (n : Nat) : (be8 n).length = 8 := rfl

/-! ### what was read is written as it was -/
theorem take_one (b : List UInt8) (h : 1 ≤ b.length) : ∃ x, b.take 1 = [x] := by
  match b, h with
  | x :: r, _ => exact ⟨x, rfl⟩
theorem take_two (b : List UInt8) (h : 2 ≤ b.length) : ∃ x y, b.take 2 = [x, y] := by
  match b, h with
  | x :: y :: r, _ => exact ⟨x, y, rfl⟩
theorem take_eight (b : List UInt8) (h : 8 ≤ b.length) : ∃ x0 x1 x2 x3 x4 x5 x6 x7, b.take 8 = [x0, x1, x2, x3, x4, x5, x6, x7] := by
  match b, h with
  | x0 :: x1 :: x2 :: x3 :: x4 :: x5 :: x6 :: x7 :: r, _ => exact ⟨x0, x1, x2, x3, x4, x5, x6, x7, rfl⟩

theorem enc_dec1 {k : Int} {b : List UInt8} {f : Fd} {n : Nat} (h : dec1 k b = .ok (f, n)) : enc1 f = .ok (b.take n) := by
  unfold dec1 at h
  by_cases h1 : k = 1
  · subst h1
    simp only [sizeOf, if_true] at h
    by_cases hl : b.length < 1
    · rw [if_pos hl] at h; cases h
    · rw [if_neg hl] at h
      simp at h
      obtain ⟨rfl, rfl⟩ := h
      obtain ⟨x, hx⟩ := take_one b (by omega)
      have hb := x.toNat_lt
      rw [hx, num_one]
      have h2 : ((x.toNat : Nat) : Int) < 256 := by omega
      simp [enc1, empty, ByteArray.size, h2, b8_self x x.toNat (Nat.mod_eq_of_lt hb)]
  · by_cases h4 : k = 4
    · subst h4
      simp only [sizeOf, if_true, if_neg (show ¬ (4 : Int) = 1 by omega)] at h
      by_cases hl : b.length < 1
      · rw [if_pos hl] at h; cases h
      · rw [if_neg hl] at h
        by_cases hv : 1 < num (b.take 1)
        · rw [if_pos (Or.inr ⟨trivial, hv⟩)] at h; cases h
        · rw [if_neg (by omega)] at h
          simp at h
          obtain ⟨rfl, rfl⟩ := h
          obtain ⟨x, hx⟩ := take_one b (by omega)
          have hb := x.toNat_lt
          rw [hx, num_one] at hv ⊢
          have h2 : ((x.toNat : Nat) : Int) < 2 := by omega
          simp [enc1, empty, ByteArray.size, h2, b8_self x x.toNat (Nat.mod_eq_of_lt hb)]
    · by_cases h2 : k = 2
      · subst h2
        simp only [sizeOf, if_true, if_neg (show ¬ (2 : Int) = 1 by omega), if_neg (show ¬ (2 : Int) = 4 by omega)] at h
        by_cases hl : b.length < 8
        · rw [if_pos hl] at h; cases h
        · rw [if_neg hl] at h
          by_cases hv : 4611686018427387904 < num (b.take 8)
          · rw [if_pos (Or.inl ⟨trivial, hv⟩)] at h; cases h
          · rw [if_neg (by omega)] at h
            simp at h
            obtain ⟨rfl, rfl⟩ := h
            obtain ⟨x0, x1, x2, x3, x4, x5, x6, x7, hx⟩ := take_eight b (by omega)
            rw [hx] at hv ⊢
            have hbe := be8_num x0 x1 x2 x3 x4 x5 x6 x7
            generalize num [x0, x1, x2, x3, x4, x5, x6, x7] = v at hv hbe ⊢
            have h3 : (v : Int) ≤ 4611686018427387904 := by omega
            simp [enc1, empty, ByteArray.size, h3, hbe]
      · by_cases h3 : k = 3
        · subst h3
          simp only [sizeOf, if_true, if_neg (show ¬ (3 : Int) = 1 by omega), if_neg (show ¬ (3 : Int) = 4 by omega), if_neg (show ¬ (3 : Int) = 2 by omega)] at h
          by_cases hl : b.length < 2
          · rw [if_pos hl] at h; cases h
          · rw [if_neg hl, if_neg (by omega), if_neg (by simp)] at h
            by_cases hv : 1024 < num (b.take 2)
            · rw [if_pos hv] at h; cases h
            · rw [if_neg hv] at h
              by_cases he : b.length - 2 < num (b.take 2)
              · rw [if_pos he] at h; cases h
              · rw [if_neg he] at h
                injection h with h
                injection h with hf hn
                subst hf
                subst hn
                obtain ⟨x, y, hx⟩ := take_two b (by omega)
                have hxl := x.toNat_lt
                have hyl := y.toNat_lt
                have hnum : num (b.take 2) = x.toNat * 256 + y.toNat := by rw [hx, num_two]
                generalize num (b.take 2) = v at hv he hnum ⊢
                have hsz : (ofBl ((b.drop 2).take v)).size = v := by
                  rw [← bl_size, bl_ofBl, List.length_take, List.length_drop]
                  omega
                have e1 : enc1 ⟨3, 0, ofBl ((b.drop 2).take v)⟩ = .ok (b8 (v / 256) :: b8 v :: (b.drop 2).take v) := by
                  unfold enc1
                  rw [if_pos rfl, if_neg (by simp)]
                  simp only
                  rw [hsz, if_neg hv, bl_ofBl]
                rw [e1, b8_self x (v / 256) (by omega), b8_self y v (by omega)]
                rw [List.take_add, hx]
                rfl
        · have hs : sizeOf k = none := by unfold sizeOf; rw [if_neg h1, if_neg h4, if_neg h2, if_neg h3]
          rw [hs] at h
          cases h

theorem encode_some (ks : List Int) : ∀ (b : List UInt8) {fs : List Fd} {n : Nat}, some_ ks b = .ok (fs, n) → encode fs = .ok (b.take n) := by
  induction ks with
  | nil => intro b fs n h; simp only [some_] at h; injection h with h; injection h with h1 h2; subst h1; subst h2; simp [encode]
  | cons k r ih =>
    intro b fs n h
    simp only [some_] at h
    cases h1 : dec1 k b with
    | error e => rw [h1] at h; cases h
    | ok p =>
      obtain ⟨f, n1⟩ := p
      rw [h1] at h
      simp only at h
      cases h2 : some_ r (b.drop n1) with
      | error e => rw [h2] at h; cases h
      | ok q =>
        obtain ⟨gs, m⟩ := q
        rw [h2] at h
        simp only at h
        injection h with h
        injection h with h3 h4
        subst h3
        subst h4
        simp only [encode]
        rw [enc_dec1 h1, ih _ h2]
        simp only
        rw [List.take_add]

theorem encode_decode {ks : List Int} {b : List UInt8} {fs : List Fd} (h : decode ks b = .ok fs) : encode fs = .ok b := by
  unfold decode at h
  cases hs : some_ ks b with
  | error e => rw [hs] at h; cases h
  | ok q =>
    obtain ⟨gs, n⟩ := q
    rw [hs] at h
    simp only at h
    by_cases hl : n < b.length
    · rw [if_pos hl] at h; cases h
    · rw [if_neg hl] at h
      injection h with h
      subst h
      rw [encode_some _ _ hs, List.take_of_length_le (by omega)]

theorem decode_errs {ks : List Int} {b : List UInt8} {e : Int} (h : decode ks b = .error e) : e = eForm ∨ e = eEnd ∨ e = eLong := by
  unfold decode at h
  cases hs : some_ ks b with
  | error x => rw [hs] at h; simp only at h; injection h with h; subst h; exact some_errs _ _ hs
  | ok q =>
    obtain ⟨gs, n⟩ := q
    rw [hs] at h
    simp only at h
    split at h
    · injection h with h; subst h; exact Or.inl rfl
    · cases h

end Go.Proofs.Ytbenoopgpgffjaa.Pack
namespace Go.Proofs.Ytbenoopgpgffjaa
theorem decode_ne {ks : List Int} {b : List UInt8} {e : Int} (h : Pack.decode ks b = .error e) : ((e == 0) = false) ∧ ((e != 0) = true) := by
  rcases Pack.decode_errs h with rfl | rfl | rfl <;> exact ⟨rfl, rfl⟩
end Go.Proofs.Ytbenoopgpgffjaa
