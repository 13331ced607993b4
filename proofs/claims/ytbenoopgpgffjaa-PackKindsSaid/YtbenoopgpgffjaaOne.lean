/-
  What is proved: what 'pack.one' computes.
  Conditions: one branch a theorem; the row is the call's own (or nil), of at most 2^46 bytes.
-/
import Derived.Test.YtbenoopgpgffjaaSmall
import Derived.ScopeJumps
namespace Go.Proofs.Ytbenoopgpgffjaa
open Go.RowKit

theorem jump_of_noGoto {P : Program} {c : Code} {l : Nat} {J : Act → World → Prop} {Q : Exit → Act → World → Prop} {a : Act} {w : World} (h : c.wp P (Exit.noGoto Q) a w) : c.wp P (Exit.jump l J Q) a w := by
  intro b k cs
  obtain ⟨e, a1, w1, hq, harr⟩ := h b k cs
  refine ⟨e, a1, w1, ?_, harr⟩
  cases e with
  | goto _ => exact False.elim hq
  | _ => exact hq

/-- A scope in which the run jumps forward once. -/
theorem wp_scope_forward {P : Program} {c rest : Code} {Q : Exit → Act → World → Prop} {a : Act} {w : World} (l : Nat) (hf : findLabel c l = some rest)
    (h : c.wp P (Exit.jump l (fun a' w' => rest.wp P (Exit.noGoto Q) a' w') Q) a w) : (Code.scope c).wp P Q a w :=
  wp_scope_jumps l (fun a' w' => rest.wp P (Exit.noGoto Q) a' w') (fun _ _ => 0) hf h fun _ _ hJ => jump_of_noGoto hJ

theorem b8_cell (n : Int) (h0 : 0 ≤ n) (h1 : n < 256) : ((Pack.b8 n.toNat).toNat : Int) = n := by
  rw [Pack.b8_toNat]; omega

theorem be8_cells (n : Int) (h0 : 0 ≤ n) (h1 : n ≤ 4611686018427387904) : (#[.int .u8 (n / 72057594037927936), .int .u8 (n / 281474976710656 % 256), .int .u8 (n / 1099511627776 % 256), .int .u8 (n / 4294967296 % 256), .int .u8 (n / 16777216 % 256), .int .u8 (n / 65536 % 256), .int .u8 (n / 256 % 256), .int .u8 (n % 256)] : Array Value).toList = byteCells (Pack.be8 n.toNat) := by
  simp only [byteCells, Pack.be8, List.map_cons, List.map_nil, Pack.b8_toNat, List.cons.injEq, Value.int.injEq, true_and, and_true]
  omega

set_option maxHeartbeats 400000 in
theorem one_form3 (n : Int) (s : ByteArray) (v : Value) (base : Nat) (w : World) (_hn : (n == 0) = false) (hn' : (n != 0) = true) (hb : base ≤ w.heap.size) :
    Calls Try.prog 19 #[v, .agg #[.int .i64 3, .int .i64 n, .string s]] w fun e w' => e = .returned (.tuple #[.slice none 0 0, .int .i64 21]) ∧ Below base w w' := by
  go_enter Try.func19, Try.ntmps19
  go_wp2
  refine wp_scope_forward 0 rfl ?_
  go_wp2
  go_step3
  refine ⟨rfl, ?_⟩
  go_wp2
  rw [Exit.noGoto_ret]
  go_ret2
  exact ⟨rfl, (Below.refl _ _).alloc hb _⟩

set_option maxHeartbeats 400000 in
theorem one_small (n : Int) (h0 : 0 ≤ n) (h1 : n < 256) (base : Nat) (v : Value) (m : Nat) (xs : List Value) (w : World) (hown : w.ownsRow base 5 1 v m xs) (hs : m ≤ 70368744177664) (hb : base ≤ w.heap.size) :
    Calls Try.prog 19 #[v, .agg #[.int .i64 1, .int .i64 n, .string ⟨#[]⟩]] w fun e w' => ∃ v', e = .returned (.tuple #[v', .int .i64 0]) ∧ w'.ownsRow base 5 1 v' (m + 1) (xs ++ byteCells [Pack.b8 n.toNat]) ∧ Below base w w' := by
  go_enter Try.func19, Try.ntmps19
  go_wp2
  go_step3
  go_wp2_with fail
  refine (lay_any base v m xs _ 1 1 [Pack.b8 n.toNat] _ ((hown.alloc _).alloc _) (Rd.newBytes _ #[.int .u8 n] _ (w.heap.size + 1) (by simp) (by simp [byteCells, b8_cell n h0 h1])) (by omega) (by simp; omega)).mono ?_
  rintro e w1 ⟨v', rfl, hown', hg, _⟩
  have hb1 := below_append (((Below.refl base w).alloc hb _).alloc (by simp; omega) _) ((hown.alloc _).alloc _) hg (Nat.le_refl _) (by simp; omega)
  clear hown hg
  go_wp2
  rw [Exit.noGoto_ret]
  go_ret2
  exact ⟨_, rfl, hown', hb1⟩

set_option maxHeartbeats 400000 in
theorem one_switch (n : Int) (h0 : 0 ≤ n) (h1 : n < 2) (base : Nat) (v : Value) (m : Nat) (xs : List Value) (w : World) (hown : w.ownsRow base 5 1 v m xs) (hs : m ≤ 70368744177664) (hb : base ≤ w.heap.size) :
    Calls Try.prog 19 #[v, .agg #[.int .i64 4, .int .i64 n, .string ⟨#[]⟩]] w fun e w' => ∃ v', e = .returned (.tuple #[v', .int .i64 0]) ∧ w'.ownsRow base 5 1 v' (m + 1) (xs ++ byteCells [Pack.b8 n.toNat]) ∧ Below base w w' := by
  go_enter Try.func19, Try.ntmps19
  go_wp2
  go_step3
  go_wp2_with fail
  refine (lay_any base v m xs _ 1 1 [Pack.b8 n.toNat] _ ((hown.alloc _).alloc _) (Rd.newBytes _ #[.int .u8 n] _ (w.heap.size + 1) (by simp) (by simp [byteCells, b8_cell n h0 (by omega)])) (by omega) (by simp; omega)).mono ?_
  rintro e w1 ⟨v', rfl, hown', hg, _⟩
  have hb1 := below_append (((Below.refl base w).alloc hb _).alloc (by simp; omega) _) ((hown.alloc _).alloc _) hg (Nat.le_refl _) (by simp; omega)
  clear hown hg
  go_wp2
  rw [Exit.noGoto_ret]
  go_ret2
  exact ⟨_, rfl, hown', hb1⟩

set_option maxHeartbeats 400000 in
theorem one_whole (n : Int) (h0 : 0 ≤ n) (h1 : n ≤ 4611686018427387904) (base : Nat) (v : Value) (m : Nat) (xs : List Value) (w : World) (hown : w.ownsRow base 5 1 v m xs) (hs : m ≤ 70368744177664) (hb : base ≤ w.heap.size) :
    Calls Try.prog 19 #[v, .agg #[.int .i64 2, .int .i64 n, .string ⟨#[]⟩]] w fun e w' => ∃ v', e = .returned (.tuple #[v', .int .i64 0]) ∧ w'.ownsRow base 5 1 v' (m + 8) (xs ++ byteCells (Pack.be8 n.toNat)) ∧ Below base w w' := by
  go_enter Try.func19, Try.ntmps19
  go_wp2
  go_step3
  go_wp2_with fail
  refine (lay_any base v m xs _ 8 8 (Pack.be8 n.toNat) _ ((hown.alloc _).alloc _) (Rd.newBytes _ #[.int .u8 (n / 72057594037927936), .int .u8 (n / 281474976710656 % 256), .int .u8 (n / 1099511627776 % 256), .int .u8 (n / 4294967296 % 256), .int .u8 (n / 16777216 % 256), .int .u8 (n / 65536 % 256), .int .u8 (n / 256 % 256), .int .u8 (n % 256)] _ (w.heap.size + 1) (by simp) (be8_cells n h0 h1)) (by omega) (by simp; omega)).mono ?_
  rintro e w1 ⟨v', rfl, hown', hg, _⟩
  have hb1 := below_append (((Below.refl base w).alloc hb _).alloc (by simp; omega) _) ((hown.alloc _).alloc _) hg (Nat.le_refl _) (by simp; omega)
  clear hown hg
  go_wp2
  rw [Exit.noGoto_ret]
  go_ret2
  exact ⟨_, rfl, hown', hb1⟩

set_option maxHeartbeats 400000 in
theorem one_long (s : ByteArray) (h1 : 1024 < s.size) (v : Value) (base : Nat) (w : World) (hb : base ≤ w.heap.size) :
    Calls Try.prog 19 #[v, .agg #[.int .i64 3, .int .i64 0, .string s]] w fun e w' => e = .returned (.tuple #[.slice none 0 0, .int .i64 22]) ∧ Below base w w' := by
  go_enter Try.func19, Try.ntmps19
  go_wp2
  go_step3
  go_wp2
  try rw [Exit.noGoto_ret]
  go_ret2
  exact ⟨rfl, (Below.refl _ _).alloc hb _⟩

set_option maxHeartbeats 400000 in
theorem one_stray (k n : Int) (s : ByteArray) (hk : (k == 3) = false) (hs : s.toList.isEmpty = false) (v : Value) (base : Nat) (w : World) (hb : base ≤ w.heap.size) :
    Calls Try.prog 19 #[v, .agg #[.int .i64 k, .int .i64 n, .string s]] w fun e w' => e = .returned (.tuple #[.slice none 0 0, .int .i64 21]) ∧ Below base w w' := by
  go_enter Try.func19, Try.ntmps19
  go_wp2
  refine wp_scope_forward 0 rfl ?_
  go_wp2
  go_step3
  refine ⟨rfl, ?_⟩
  go_wp2
  try rw [Exit.noGoto_ret]
  go_ret2
  exact ⟨rfl, (Below.refl _ _).alloc hb _⟩

set_option maxHeartbeats 400000 in
theorem one_neg (k n : Int) (hk : (k == 3) = false) (hn : n < 0) (v : Value) (base : Nat) (w : World) (hb : base ≤ w.heap.size) :
    Calls Try.prog 19 #[v, .agg #[.int .i64 k, .int .i64 n, .string ⟨#[]⟩]] w fun e w' => e = .returned (.tuple #[.slice none 0 0, .int .i64 21]) ∧ Below base w w' := by
  go_enter Try.func19, Try.ntmps19
  go_wp2
  refine wp_scope_forward 0 rfl ?_
  go_wp2
  go_step3
  refine ⟨rfl, ?_⟩
  go_wp2
  try rw [Exit.noGoto_ret]
  go_ret2
  exact ⟨rfl, (Below.refl _ _).alloc hb _⟩

set_option maxHeartbeats 400000 in
theorem one_small_over (n : Int) (h0 : 256 ≤ n) (v : Value) (base : Nat) (w : World) (hb : base ≤ w.heap.size) :
    Calls Try.prog 19 #[v, .agg #[.int .i64 1, .int .i64 n, .string ⟨#[]⟩]] w fun e w' => e = .returned (.tuple #[.slice none 0 0, .int .i64 21]) ∧ Below base w w' := by
  go_enter Try.func19, Try.ntmps19
  go_wp2
  go_step3
  go_wp2
  go_step3
  go_wp2
  try rw [Exit.noGoto_ret]
  go_ret2
  exact ⟨rfl, (Below.refl _ _).alloc hb _⟩

set_option maxHeartbeats 400000 in
theorem one_switch_over (n : Int) (h0 : 2 ≤ n) (v : Value) (base : Nat) (w : World) (hb : base ≤ w.heap.size) :
    Calls Try.prog 19 #[v, .agg #[.int .i64 4, .int .i64 n, .string ⟨#[]⟩]] w fun e w' => e = .returned (.tuple #[.slice none 0 0, .int .i64 21]) ∧ Below base w w' := by
  go_enter Try.func19, Try.ntmps19
  go_wp2
  go_step3
  go_wp2
  go_step3
  go_wp2
  try rw [Exit.noGoto_ret]
  go_ret2
  exact ⟨rfl, (Below.refl _ _).alloc hb _⟩

set_option maxHeartbeats 400000 in
theorem one_whole_over (n : Int) (h0 : 4611686018427387904 < n) (v : Value) (base : Nat) (w : World) (hb : base ≤ w.heap.size) :
    Calls Try.prog 19 #[v, .agg #[.int .i64 2, .int .i64 n, .string ⟨#[]⟩]] w fun e w' => e = .returned (.tuple #[.slice none 0 0, .int .i64 21]) ∧ Below base w w' := by
  go_enter Try.func19, Try.ntmps19
  go_wp2
  go_step3
  go_wp2
  go_step3
  go_wp2
  try rw [Exit.noGoto_ret]
  go_ret2
  exact ⟨rfl, (Below.refl _ _).alloc hb _⟩

set_option maxHeartbeats 400000 in
theorem one_other (k n : Int) (h0 : 0 ≤ n) (h1 : (k == 1) = false) (h2 : (k == 2) = false) (h3 : (k == 3) = false) (h4 : (k == 4) = false) (v : Value) (base : Nat) (w : World) (hb : base ≤ w.heap.size) :
    Calls Try.prog 19 #[v, .agg #[.int .i64 k, .int .i64 n, .string ⟨#[]⟩]] w fun e w' => e = .returned (.tuple #[.slice none 0 0, .int .i64 21]) ∧ Below base w w' := by
  go_enter Try.func19, Try.ntmps19
  go_wp2
  go_step3
  go_wp2
  go_step3
  go_wp2
  try rw [Exit.noGoto_ret]
  go_ret2
  exact ⟨rfl, (Below.refl _ _).alloc hb _⟩

end Go.Proofs.Ytbenoopgpgffjaa
