/-
  What is proved: what 'harpsichordref02.number' and 'pack.next' compute.
  Conditions: one kind a theorem; the bytes that the kind has at first are there.
-/
import Derived.Test.YtbenoopgpgffjaaSmall
namespace Go.Proofs.Ytbenoopgpgffjaa
open Go.RowKit

theorem num_take (l : List UInt8) (k : Nat) (hk : k < l.length) : Pack.num (l.take (k + 1)) = Pack.num (l.take k) * 256 + l[k].toNat := by
  rw [Pack.take_snoc l k hk, Pack.num, List.foldl_append]; rfl
theorem num_lt (l : List UInt8) : Pack.num l < 256 ^ l.length := by
  have h : ∀ (l : List UInt8) (v : Nat) (m : Nat), v < 256 ^ m → l.foldl (fun v x => v * 256 + x.toNat) v < 256 ^ (m + l.length) := by
    intro l
    induction l with
    | nil => intro v m h; simpa using h
    | cons x r ih =>
      intro v m h
      have hx := x.toNat_lt
      have h2 := ih (v * 256 + x.toNat) (m + 1) (by rw [Nat.pow_succ]; omega)
      have e : m + 1 + r.length = m + (x :: r).length := by simp only [List.length_cons]; omega
      rw [e] at h2
      exact h2
  have := h l 0 0 (by decide)
  simpa [Pack.num] using this
theorem num_u64 (l : List UInt8) (h : l.length ≤ 8) : Pack.num l ≤ 18446744073709551615 := by
  have h1 := num_lt l
  have h2 : 256 ^ l.length ≤ 256 ^ 8 := Nat.pow_le_pow_right (by omega) h
  have h3 : (256 : Nat) ^ 8 = 18446744073709551616 := by decide
  omega

set_option maxHeartbeats 400000 in
theorem number_any (A : Option Addr) (n c : Nat) (l : List UInt8) (w : World) (B : Nat) (hl : l.length = n) (hr : Rd w B 1 A n (byteCells l)) (hn : n ≤ 8) :
    Calls Try.prog 22 #[.slice A n c] w fun e w' => e = .returned (.int .u64 (Pack.num l)) ∧ w = w' := by
  have H := hide hl
  clear hl
  go_enter Try.func22, Try.ntmps22
  go_wp2
  go_loop [3, 4] (fun v i => ∃ k : Nat, k ≤ n ∧ i = .int .i64 k ∧ v = .int .u64 (Pack.num (l.take k))) (fun _ i => n - (intOf i).toNat)
  case atStart => exact ⟨0, Nat.zero_le _, rfl, rfl⟩
  case round =>
    obtain ⟨k, hk, rfl, rfl⟩ := hrel
    by_cases hlt : k < n
    · obtain ⟨b, off, rfl, _, hc⟩ := hr.2 (by omega)
      have hkl : k < l.length := by rw [H.out]; exact hlt
      have c0 := hc k _ (byteCells_get l k hkl)
      have hN := hide (num_take l k hkl)
      have hU := num_u64 (l.take k) (by have := List.length_take_le k l; omega)
      have hU2 := num_u64 (l.take (k + 1)) (by have := List.length_take_le (k + 1) l; omega)
      rw [hN.out] at hU2
      have hx := l[k].toNat_lt
      obtain ⟨x, hxx⟩ : ∃ x, x = l[k].toNat := ⟨_, rfl⟩
      obtain ⟨y, hyy⟩ : ∃ y, y = Pack.num (l.take k) := ⟨_, rfl⟩
      rw [← hxx] at c0 hx hU2
      rw [← hyy] at hU hU2 ⊢
      have HX := hide hxx
      have HY := hide hyy
      clear hc hxx hyy
      go_wp2
      go_round
      case rel => exact ⟨k + 1, by omega, by go_num, by rw [hN.out, ← HY.out, ← HX.out]; go_num⟩
      case measure => simp [intOf]; omega
    · have hkn : k = n := by omega
      subst hkn
      rw [List.take_of_length_le (by rw [H.out]; exact Nat.le_refl _)]
      go_wp2
      go_ret
      exact ⟨rfl, rfl⟩

theorem num_small (l : List UInt8) (k : Nat) (h : l.length ≤ k) (hk : k ≤ 7) : Pack.num l ≤ 72057594037927935 := by
  have h1 := num_lt l
  have h2 : 256 ^ l.length ≤ 256 ^ 7 := Nat.pow_le_pow_right (by omega) (by omega)
  have h3 : (256 : Nat) ^ 7 = 72057594037927936 := by decide
  omega
theorem or_join (y x : Nat) (hy : y ≤ 72057594037927935) (hx : x < 256) : bits .or .u64 ((y : Int) * 256) (x : Int) = (y : Int) * 256 + x := by
  have h := u64_or_nat (y * 256) x (by omega) (by omega)
  have e : ((y * 256 : Nat) : Int) = (y : Int) * 256 := by omega
  rw [e] at h
  have hj : y * 256 ||| x = y * 256 + x := by rw [Nat.or_comm]; exact nat_join8' (y * 256) x (by omega) hx
  rw [h, hj, Int.natCast_add, e]

/-- A field's value that was read. -/
def nextVal (r : Except Int (Pack.Fd × Nat)) : Value := match r with
  | .ok (f, n) => .tuple #[.agg #[.int .i64 f.k, .int .i64 f.n, .string f.s], .int .i64 n, .int .i64 0]
  | .error e => .tuple #[.agg #[.int .i64 0, .int .i64 0, .string ⟨#[]⟩], .int .i64 0, .int .i64 e]

theorem dec_one (bs : List UInt8) (h : 1 ≤ bs.length) : Pack.dec1 1 bs = .ok (⟨1, (Pack.num (bs.take 1) : Int), Pack.empty⟩, 1) := by
  have h1 : ¬ bs.length < 1 := by omega
  simp [Pack.dec1, Pack.sizeOf, h1]
theorem dec_four_big (bs : List UInt8) (h : 1 ≤ bs.length) (hv : 1 < Pack.num (bs.take 1)) : Pack.dec1 4 bs = .error 21 := by
  have h1 : ¬ bs.length < 1 := by omega
  simp [Pack.dec1, Pack.sizeOf, h1, hv, Pack.eForm]
theorem dec_four (bs : List UInt8) (h : 1 ≤ bs.length) (hv : ¬ 1 < Pack.num (bs.take 1)) : Pack.dec1 4 bs = .ok (⟨4, (Pack.num (bs.take 1) : Int), Pack.empty⟩, 1) := by
  have h1 : ¬ bs.length < 1 := by omega
  simp [Pack.dec1, Pack.sizeOf, h1, hv]
theorem dec_two_big (bs : List UInt8) (h : 8 ≤ bs.length) (hv : 4611686018427387904 < Pack.num (bs.take 8)) : Pack.dec1 2 bs = .error 21 := by
  have h1 : ¬ bs.length < 8 := by omega
  simp [Pack.dec1, Pack.sizeOf, h1, hv, Pack.eForm]
theorem dec_two (bs : List UInt8) (h : 8 ≤ bs.length) (hv : ¬ 4611686018427387904 < Pack.num (bs.take 8)) : Pack.dec1 2 bs = .ok (⟨2, (Pack.num (bs.take 8) : Int), Pack.empty⟩, 8) := by
  have h1 : ¬ bs.length < 8 := by omega
  simp [Pack.dec1, Pack.sizeOf, h1, hv]
theorem dec_three_long (bs : List UInt8) (h : 2 ≤ bs.length) (hv : 1024 < Pack.num (bs.take 2)) : Pack.dec1 3 bs = .error 22 := by
  have h1 : ¬ bs.length < 2 := by omega
  simp [Pack.dec1, Pack.sizeOf, h1, hv, Pack.eLong]
theorem dec_three_end (bs : List UInt8) (h : 2 ≤ bs.length) (hv : ¬ 1024 < Pack.num (bs.take 2)) (he : bs.length - 2 < Pack.num (bs.take 2)) : Pack.dec1 3 bs = .error 20 := by
  have h1 : ¬ bs.length < 2 := by omega
  simp [Pack.dec1, Pack.sizeOf, h1, hv, he, Pack.eEnd]
theorem dec_three (bs : List UInt8) (h : 2 ≤ bs.length) (hv : ¬ 1024 < Pack.num (bs.take 2)) (he : ¬ bs.length - 2 < Pack.num (bs.take 2)) : Pack.dec1 3 bs = .ok (⟨3, 0, Pack.ofBl ((bs.drop 2).take (Pack.num (bs.take 2)))⟩, 2 + Pack.num (bs.take 2)) := by
  have h1 : ¬ bs.length < 2 := by omega
  simp [Pack.dec1, Pack.sizeOf, h1, hv, he]

set_option maxHeartbeats 1000000 in
set_option maxRecDepth 100000 in
theorem next_none (k : Int) (v : Value) (w : World) (h1 : (k == 1) = false) (h2 : (k == 2) = false) (h3 : (k == 3) = false) (h4 : (k == 4) = false) :
    Calls Try.prog 21 #[.int .i64 k, v] w fun e w' => e = .returned (nextVal (.error 21)) ∧ Below w.heap.size w w' := by
  have hsz : sizeInt k = -1 := by simp_all [sizeInt, Pack.sizeOf]
  go_enter Try.func21, Try.ntmps21
  go_wp2_with fail
  refine (size_any k _).mono ?_
  rintro e w1 ⟨rfl, rfl⟩
  rw [hsz]
  go_wp2
  refine bodyPost_ret (v := nextVal (.error 21)) (by simp [results, Try.results21, go_sem, nextVal]) rfl ⟨rfl, ?_⟩
  exact ((Below.refl _ _).alloc (Nat.le_refl _) _).alloc (by simp) _


set_option maxHeartbeats 1000000 in
theorem next_two (A : Option Addr) (m c : Nat) (bs : List UInt8) (w : World) (hl : bs.length = m) (hmc : m ≤ c) (hcm : c ≤ maxLen) (hr : Rd w w.heap.size 1 A m (byteCells bs)) (hm : 8 ≤ m) :
    Calls Try.prog 21 #[.int .i64 2, .slice A m c] w fun e w' => e = .returned (nextVal (Pack.dec1 2 bs)) ∧ Below w.heap.size w w' := by
  have hsz : sizeInt 2 = 8 := rfl
  have H := hide hl
  clear hl
  unfold maxLen at hcm
  obtain ⟨b, off, rfl, hbb, hc⟩ := hr.2 (by omega)
  have hlen : (bs.take 8).length = 8 := by rw [List.length_take, H.out]; omega
  go_enter Try.func21, Try.ntmps21
  go_wp2_with fail
  refine (size_any 2 _).mono ?_
  rintro e w1 ⟨rfl, rfl⟩
  rw [hsz]
  go_wp2
  go_loop [9, 30] (fun v i => ∃ j : Nat, j ≤ 8 ∧ i = .int .i64 j ∧ v = .int .u64 (Pack.num (bs.take j))) (fun _ i => 8 - (intOf i).toNat)
  case atStart => exact ⟨0, Nat.zero_le _, rfl, rfl⟩
  case round =>
    obtain ⟨j, hj, rfl, rfl⟩ := hrel
    by_cases hlt : j < 8
    · have hjl : j < bs.length := by rw [H.out]; omega
      have c0 := hc j _ (byteCells_get bs j hjl)
      have hN := hide (num_take bs j hjl)
      have hU := num_small (bs.take j) 7 (by have := List.length_take_le j bs; omega) (by omega)
      have hx := bs[j].toNat_lt
      obtain ⟨x, hxx⟩ : ∃ x, x = bs[j].toNat := ⟨_, rfl⟩
      obtain ⟨y, hyy⟩ : ∃ y, y = Pack.num (bs.take j) := ⟨_, rfl⟩
      rw [← hxx] at c0 hx
      rw [← hyy] at hU ⊢
      have HX := hide hxx
      have HY := hide hyy
      have hor := or_join y x hU hx
      clear hc hxx hyy hr
      go_wp2
      go_round
      case rel => exact ⟨j + 1, by omega, by go_num, by rw [hN.out, ← HY.out, ← HX.out]; go_num⟩
      case measure => simp [intOf]; omega
    · have hjn : j = 8 := by omega
      subst hjn
      obtain ⟨y, hyy⟩ : ∃ y, y = Pack.num (bs.take 8) := ⟨_, rfl⟩
      have hU := num_u64 (bs.take 8) (by omega)
      have hS := num_lt (bs.take 8)
      rw [hlen] at hS
      rw [← hyy] at hU hS ⊢
      have HY := hide hyy
      have HL := hide hlen
      clear hyy hlen hr hc
      by_cases hbig : 4611686018427387904 < y
      · have HB := hide hbig
        have HD := hide (dec_two_big bs (by rw [H.out]; exact hm) (by rw [← HY.out]; exact HB.out))
        go_wp2
        refine bodyPost_ret (v := nextVal (.error 21)) (by simp [results, Try.results21, go_sem, nextVal]) rfl ⟨by rw [HD.out], ?_⟩
        exact ((Below.refl _ _).alloc (Nat.le_refl _) _).alloc (by simp) _
      · have HB := hide hbig
        have hle : y ≤ 4611686018427387904 := by omega
        have HD := hide (dec_two bs (by rw [H.out]; exact hm) (by rw [← HY.out]; exact HB.out))
        go_wp2
        refine bodyPost_ret (v := nextVal (.ok (⟨2, (y : Int), Pack.empty⟩, 8))) (by simp [results, Try.results21, go_sem, nextVal, Pack.empty]) rfl ⟨by rw [HD.out, ← HY.out], ?_⟩
        exact ((Below.refl _ _).alloc (Nat.le_refl _) _).alloc (by simp) _

set_option maxHeartbeats 1000000 in
theorem next_one (A : Option Addr) (m c : Nat) (bs : List UInt8) (w : World) (hl : bs.length = m) (hmc : m ≤ c) (hcm : c ≤ maxLen) (hr : Rd w w.heap.size 1 A m (byteCells bs)) (hm : 1 ≤ m) :
    Calls Try.prog 21 #[.int .i64 1, .slice A m c] w fun e w' => e = .returned (nextVal (Pack.dec1 1 bs)) ∧ Below w.heap.size w w' := by
  have hsz : sizeInt 1 = 1 := rfl
  have H := hide hl
  clear hl
  unfold maxLen at hcm
  obtain ⟨b, off, rfl, hbb, hc⟩ := hr.2 (by omega)
  have hlen : (bs.take 1).length = 1 := by rw [List.length_take, H.out]; omega
  go_enter Try.func21, Try.ntmps21
  go_wp2_with fail
  refine (size_any 1 _).mono ?_
  rintro e w1 ⟨rfl, rfl⟩
  rw [hsz]
  go_wp2
  go_loop [9, 30] (fun v i => ∃ j : Nat, j ≤ 1 ∧ i = .int .i64 j ∧ v = .int .u64 (Pack.num (bs.take j))) (fun _ i => 1 - (intOf i).toNat)
  case atStart => exact ⟨0, Nat.zero_le _, rfl, rfl⟩
  case round =>
    obtain ⟨j, hj, rfl, rfl⟩ := hrel
    by_cases hlt : j < 1
    · have hjl : j < bs.length := by rw [H.out]; omega
      have c0 := hc j _ (byteCells_get bs j hjl)
      have hN := hide (num_take bs j hjl)
      have hU := num_small (bs.take j) 7 (by have := List.length_take_le j bs; omega) (by omega)
      have hx := bs[j].toNat_lt
      obtain ⟨x, hxx⟩ : ∃ x, x = bs[j].toNat := ⟨_, rfl⟩
      obtain ⟨y, hyy⟩ : ∃ y, y = Pack.num (bs.take j) := ⟨_, rfl⟩
      rw [← hxx] at c0 hx
      rw [← hyy] at hU ⊢
      have HX := hide hxx
      have HY := hide hyy
      have hor := or_join y x hU hx
      clear hc hxx hyy hr
      go_wp2
      go_round
      case rel => exact ⟨j + 1, by omega, by go_num, by rw [hN.out, ← HY.out, ← HX.out]; go_num⟩
      case measure => simp [intOf]; omega
    · have hjn : j = 1 := by omega
      subst hjn
      obtain ⟨y, hyy⟩ : ∃ y, y = Pack.num (bs.take 1) := ⟨_, rfl⟩
      have hU := num_u64 (bs.take 1) (by omega)
      have hS := num_lt (bs.take 1)
      rw [hlen] at hS
      rw [← hyy] at hU hS ⊢
      have HY := hide hyy
      have HL := hide hlen
      clear hyy hlen hr hc
      have HD := hide (dec_one bs (by rw [H.out]; exact hm))
      go_wp2
      refine bodyPost_ret (v := nextVal (.ok (⟨1, (y : Int), Pack.empty⟩, 1))) (by simp [results, Try.results21, go_sem, nextVal, Pack.empty]) rfl ⟨by rw [HD.out, ← HY.out], ?_⟩
      exact ((Below.refl _ _).alloc (Nat.le_refl _) _).alloc (by simp) _

set_option maxHeartbeats 1000000 in
theorem next_four (A : Option Addr) (m c : Nat) (bs : List UInt8) (w : World) (hl : bs.length = m) (hmc : m ≤ c) (hcm : c ≤ maxLen) (hr : Rd w w.heap.size 1 A m (byteCells bs)) (hm : 1 ≤ m) :
    Calls Try.prog 21 #[.int .i64 4, .slice A m c] w fun e w' => e = .returned (nextVal (Pack.dec1 4 bs)) ∧ Below w.heap.size w w' := by
  have hsz : sizeInt 4 = 1 := rfl
  have H := hide hl
  clear hl
  unfold maxLen at hcm
  obtain ⟨b, off, rfl, hbb, hc⟩ := hr.2 (by omega)
  have hlen : (bs.take 1).length = 1 := by rw [List.length_take, H.out]; omega
  go_enter Try.func21, Try.ntmps21
  go_wp2_with fail
  refine (size_any 4 _).mono ?_
  rintro e w1 ⟨rfl, rfl⟩
  rw [hsz]
  go_wp2
  go_loop [9, 30] (fun v i => ∃ j : Nat, j ≤ 1 ∧ i = .int .i64 j ∧ v = .int .u64 (Pack.num (bs.take j))) (fun _ i => 1 - (intOf i).toNat)
  case atStart => exact ⟨0, Nat.zero_le _, rfl, rfl⟩
  case round =>
    obtain ⟨j, hj, rfl, rfl⟩ := hrel
    by_cases hlt : j < 1
    · have hjl : j < bs.length := by rw [H.out]; omega
      have c0 := hc j _ (byteCells_get bs j hjl)
      have hN := hide (num_take bs j hjl)
      have hU := num_small (bs.take j) 7 (by have := List.length_take_le j bs; omega) (by omega)
      have hx := bs[j].toNat_lt
      obtain ⟨x, hxx⟩ : ∃ x, x = bs[j].toNat := ⟨_, rfl⟩
      obtain ⟨y, hyy⟩ : ∃ y, y = Pack.num (bs.take j) := ⟨_, rfl⟩
      rw [← hxx] at c0 hx
      rw [← hyy] at hU ⊢
      have HX := hide hxx
      have HY := hide hyy
      have hor := or_join y x hU hx
      clear hc hxx hyy hr
      go_wp2
      go_round
      case rel => exact ⟨j + 1, by omega, by go_num, by rw [hN.out, ← HY.out, ← HX.out]; go_num⟩
      case measure => simp [intOf]; omega
    · have hjn : j = 1 := by omega
      subst hjn
      obtain ⟨y, hyy⟩ : ∃ y, y = Pack.num (bs.take 1) := ⟨_, rfl⟩
      have hU := num_u64 (bs.take 1) (by omega)
      have hS := num_lt (bs.take 1)
      rw [hlen] at hS
      rw [← hyy] at hU hS ⊢
      have HY := hide hyy
      have HL := hide hlen
      clear hyy hlen hr hc
      by_cases hbig : 1 < y
      · have HB := hide hbig
        have HD := hide (dec_four_big bs (by rw [H.out]; exact hm) (by rw [← HY.out]; exact HB.out))
        go_wp2
        refine bodyPost_ret (v := nextVal (.error 21)) (by simp [results, Try.results21, go_sem, nextVal]) rfl ⟨by rw [HD.out], ?_⟩
        exact ((Below.refl _ _).alloc (Nat.le_refl _) _).alloc (by simp) _
      · have HB := hide hbig
        have hle : y ≤ 1 := by omega
        have HD := hide (dec_four bs (by rw [H.out]; exact hm) (by rw [← HY.out]; exact HB.out))
        go_wp2
        refine bodyPost_ret (v := nextVal (.ok (⟨4, (y : Int), Pack.empty⟩, 1))) (by simp [results, Try.results21, go_sem, nextVal, Pack.empty]) rfl ⟨by rw [HD.out, ← HY.out], ?_⟩
        exact ((Below.refl _ _).alloc (Nat.le_refl _) _).alloc (by simp) _

set_option maxHeartbeats 1000000 in
theorem next_three (A : Option Addr) (m c : Nat) (bs : List UInt8) (w : World) (hl : bs.length = m) (hmc : m ≤ c) (hcm : c ≤ maxLen) (hr : Rd w w.heap.size 1 A m (byteCells bs)) (hm : 2 ≤ m) :
    Calls Try.prog 21 #[.int .i64 3, .slice A m c] w fun e w' => e = .returned (nextVal (Pack.dec1 3 bs)) ∧ Below w.heap.size w w' := by
  have hsz : sizeInt 3 = 2 := rfl
  have H := hide hl
  clear hl
  unfold maxLen at hcm
  obtain ⟨b, off, rfl, hbb, hc⟩ := hr.2 (by omega)
  have hlen : (bs.take 2).length = 2 := by rw [List.length_take, H.out]; omega
  go_enter Try.func21, Try.ntmps21
  go_wp2_with fail
  refine (size_any 3 _).mono ?_
  rintro e w1 ⟨rfl, rfl⟩
  rw [hsz]
  go_wp2
  go_loop [9, 30] (fun v i => ∃ j : Nat, j ≤ 2 ∧ i = .int .i64 j ∧ v = .int .u64 (Pack.num (bs.take j))) (fun _ i => 2 - (intOf i).toNat)
  case atStart => exact ⟨0, Nat.zero_le _, rfl, rfl⟩
  case round =>
    obtain ⟨j, hj, rfl, rfl⟩ := hrel
    by_cases hlt : j < 2
    · have hjl : j < bs.length := by rw [H.out]; omega
      have c0 := hc j _ (byteCells_get bs j hjl)
      have hN := hide (num_take bs j hjl)
      have hU := num_small (bs.take j) 7 (by have := List.length_take_le j bs; omega) (by omega)
      have hx := bs[j].toNat_lt
      obtain ⟨x, hxx⟩ : ∃ x, x = bs[j].toNat := ⟨_, rfl⟩
      obtain ⟨y, hyy⟩ : ∃ y, y = Pack.num (bs.take j) := ⟨_, rfl⟩
      rw [← hxx] at c0 hx
      rw [← hyy] at hU ⊢
      have HX := hide hxx
      have HY := hide hyy
      have hor := or_join y x hU hx
      clear hc hxx hyy hr
      go_wp2
      go_round
      case rel => exact ⟨j + 1, by omega, by go_num, by rw [hN.out, ← HY.out, ← HX.out]; go_num⟩
      case measure => simp [intOf]; omega
    · have hjn : j = 2 := by omega
      subst hjn
      obtain ⟨y, hyy⟩ : ∃ y, y = Pack.num (bs.take 2) := ⟨_, rfl⟩
      have hU := num_u64 (bs.take 2) (by omega)
      have hS := num_lt (bs.take 2)
      rw [hlen] at hS
      rw [← hyy] at hU hS ⊢
      have HY := hide hyy
      have HL := hide hlen
      clear hyy hlen
      by_cases hlong : 1024 < y
      · have HB := hide hlong
        clear hr hc
        have HD := hide (dec_three_long bs (by rw [H.out]; exact hm) (by rw [← HY.out]; exact HB.out))
        go_wp2
        refine bodyPost_ret (v := nextVal (.error 22)) (by simp [results, Try.results21, go_sem, nextVal]) rfl ⟨by rw [HD.out], ?_⟩
        exact ((Below.refl _ _).alloc (Nat.le_refl _) _).alloc (by simp) _
      · have HB := hide hlong
        have hle : y ≤ 1024 := by omega
        by_cases hend : m - 2 < y
        · have HE := hide hend
          have hend2 : (m : Int) - 2 < y := by omega
          clear hr hc
          have HD := hide (dec_three_end bs (by rw [H.out]; exact hm) (by rw [← HY.out]; exact HB.out) (by rw [← HY.out, H.out]; exact HE.out))
          go_wp2
          refine bodyPost_ret (v := nextVal (.error 20)) (by simp [results, Try.results21, go_sem, nextVal]) rfl ⟨by rw [HD.out], ?_⟩
          exact ((Below.refl _ _).alloc (Nat.le_refl _) _).alloc (by simp) _
        · have HE := hide hend
          have hend2 : (y : Int) ≤ (m : Int) - 2 := by omega
          have HD := hide (dec_three bs (by rw [H.out]; exact hm) (by rw [← HY.out]; exact HB.out) (by rw [← HY.out, H.out]; exact HE.out))
          have hcut := ((((hr.cut (k := 2) (cap := c) hm hmc).take (k := y) (by omega)).alloc' (.cells #[.int .i64 0, .int .i64 0, .string ⟨#[]⟩] 40))).alloc' (.cells #[.int .i64 3, .int .i64 0, .string ⟨#[]⟩] 40)
          rw [Nat.mul_one, Nat.mul_one, ← byteCells_drop, ← byteCells_take] at hcut
          by_cases hc2 : c = 2
          · subst hc2
            have hstr := run_str (c := 0) hcut
            simp only [if_true] at hstr
            clear hr hc hcut
            go_wp2
            refine bodyPost_ret (v := nextVal (.ok (⟨3, 0, Pack.ofBl ((bs.drop 2).take y)⟩, 2 + y))) (by simp [results, Try.results21, go_sem, nextVal]) rfl ⟨by rw [HD.out, ← HY.out], ?_⟩
            exact ((Below.refl _ _).alloc (Nat.le_refl _) _).alloc (by simp) _
          · have hstr := run_str (c := c - 2) hcut
            rw [if_neg hc2] at hstr
            simp only [Option.map_some, Addr.add_lit] at hstr
            clear hr hc hcut
            go_wp2
            refine bodyPost_ret (v := nextVal (.ok (⟨3, 0, Pack.ofBl ((bs.drop 2).take y)⟩, 2 + y))) (by simp [results, Try.results21, go_sem, nextVal]) rfl ⟨by rw [HD.out, ← HY.out], ?_⟩
            exact ((Below.refl _ _).alloc (Nat.le_refl _) _).alloc (by simp) _
end Go.Proofs.Ytbenoopgpgffjaa
