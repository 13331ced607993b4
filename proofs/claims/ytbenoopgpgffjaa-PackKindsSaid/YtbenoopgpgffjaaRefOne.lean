/-
  What is proved: what 'harpsichordref02.one' computes.
  Conditions: one branch a theorem; the field is of the kind and size that each names.
-/
import Derived.Test.YtbenoopgpgffjaaEncode
import Derived.Lib.AppendStr
namespace Go.Proofs.Ytbenoopgpgffjaa
open Go.RowKit

/-- A new block of bytes is owned. -/
theorem own_lit (w : World) (base : Nat) (cs : Array Value) (ys : List UInt8) (g n : Nat) (hg : w.heap.size = g) (hb : base ≤ g) (hn : cs.size = n) (hm : n ≤ maxLen) (hc : cs.toList = byteCells ys) :
    (w.alloc (.cells cs 5)).ownsRow base 5 1 (.slice (some ⟨g, 0, none⟩) n n) n (byteCells ys) := by
  subst hg
  rw [← hc]
  exact World.ownsRow_lit w cs n hb hm (by omega)

theorem be8_rounds (n : Int) (h0 : 0 ≤ n) (h1 : n ≤ 4611686018427387904) :
    (#[.int .u8 (n / 256 / 256 / 256 / 256 / 256 / 256 / 256 % 256), .int .u8 (n / 256 / 256 / 256 / 256 / 256 / 256 % 256), .int .u8 (n / 256 / 256 / 256 / 256 / 256 % 256), .int .u8 (n / 256 / 256 / 256 / 256 % 256), .int .u8 (n / 256 / 256 / 256 % 256), .int .u8 (n / 256 / 256 % 256), .int .u8 (n / 256 % 256), .int .u8 (n % 256)] : Array Value).toList = byteCells (Pack.be8 n.toNat) := by
  simp only [byteCells, Pack.be8, List.map_cons, List.map_nil, Pack.b8_toNat, List.cons.injEq, Value.int.injEq, true_and, and_true]
  omega

set_option maxHeartbeats 2000000 in
theorem ref_whole (n : Int) (h0 : 0 ≤ n) (h1 : n ≤ 4611686018427387904) (w : World) :
    Calls Try.prog 20 #[.agg #[.int .i64 2, .int .i64 n, .string ⟨#[]⟩]] w fun e w' => ∃ v', e = .returned (.tuple #[v', .int .i64 0]) ∧ w'.ownsRow w.heap.size 5 1 v' 8 (byteCells (Pack.be8 n.toNat)) ∧ Below w.heap.size w w' := by
  have hmk : ∀ w, (Instr.makeSlice 24 (.int .i64 8) (.int .i64 8)).run Try.prog w = .ok (.slice (some ⟨w.heap.size, 0, none⟩) 8 8) (w.alloc (.cells #[.int .u8 0, .int .u8 0, .int .u8 0, .int .u8 0, .int .u8 0, .int .u8 0, .int .u8 0, .int .u8 0] 5)) := fun _ => by kernel_rfl
  go_enter Try.func20, Try.ntmps20
  go_wp2
  refine wp_loop_rounds 9 ?_
  rw [rounds_succ]
  go_wp2
  rw [rounds_succ]
  go_wp2
  rw [rounds_succ]
  go_wp2
  rw [rounds_succ]
  go_wp2
  rw [rounds_succ]
  go_wp2
  rw [rounds_succ]
  go_wp2
  rw [rounds_succ]
  go_wp2
  rw [rounds_succ]
  go_wp2
  rw [rounds_succ]
  go_wp2
  go_ret2
  exact ⟨_, rfl, own_lit _ _ _ _ _ _ (by simp) (by omega) rfl (by unfold maxLen; omega) (be8_rounds n h0 h1), ((Below.refl _ _).alloc (Nat.le_refl _) _).alloc (by simp) _⟩

set_option maxHeartbeats 400000 in
theorem ref_small (n : Int) (h0 : 0 ≤ n) (h1 : n < 256) (w : World) :
    Calls Try.prog 20 #[.agg #[.int .i64 1, .int .i64 n, .string ⟨#[]⟩]] w fun e w' => ∃ v', e = .returned (.tuple #[v', .int .i64 0]) ∧ w'.ownsRow w.heap.size 5 1 v' 1 (byteCells [Pack.b8 n.toNat]) ∧ Below w.heap.size w w' := by
  go_enter Try.func20, Try.ntmps20
  go_wp2
  go_ret2
  exact ⟨_, rfl, own_lit _ _ _ _ _ _ (by simp) (by omega) rfl (by unfold maxLen; omega) (by simp [byteCells, b8_cell n h0 h1]), ((Below.refl _ _).alloc (Nat.le_refl _) _).alloc (by simp) _⟩
set_option maxHeartbeats 400000 in
theorem ref_switch (n : Int) (h0 : 0 ≤ n) (h1 : n < 2) (w : World) :
    Calls Try.prog 20 #[.agg #[.int .i64 4, .int .i64 n, .string ⟨#[]⟩]] w fun e w' => ∃ v', e = .returned (.tuple #[v', .int .i64 0]) ∧ w'.ownsRow w.heap.size 5 1 v' 1 (byteCells [Pack.b8 n.toNat]) ∧ Below w.heap.size w w' := by
  go_enter Try.func20, Try.ntmps20
  go_wp2
  go_ret2
  exact ⟨_, rfl, own_lit _ _ _ _ _ _ (by simp) (by omega) rfl (by unfold maxLen; omega) (by simp [byteCells, b8_cell n h0 (by omega)]), ((Below.refl _ _).alloc (Nat.le_refl _) _).alloc (by simp) _⟩
set_option maxHeartbeats 400000 in
theorem ref_text (s : ByteArray) (h1 : s.size ≤ 1024) (w : World) :
    Calls Try.prog 20 #[.agg #[.int .i64 3, .int .i64 0, .string s]] w fun e w' => ∃ v', e = .returned (.tuple #[v', .int .i64 0]) ∧ w'.ownsRow w.heap.size 5 1 v' (2 + s.size) (byteCells (Pack.b8 (s.size / 256) :: Pack.b8 s.size :: Pack.bl s)) ∧ Below w.heap.size w w' := by
  obtain ⟨i0, hi, hz0, hz1, hz2⟩ := info_parts byteInfo
  go_enter Try.func20, Try.ntmps20
  go_wp2_with (at_builtin; refine Lib.wpList_append_own_string _ rfl (.tmp 27) (.tmp 29) 24 9 rfl w.heap.size 5 i0 Try.underlying24 Try.underlying9 hi hz0 hz1 hz2 (.slice (some ⟨w.heap.size + 1, 0, none⟩) 2 2) 2 (byteCells [Pack.b8 (s.size / 256), Pack.b8 s.size]) rfl ?c0 s rfl ?c1 ?c2 ?c3 ?_)
  case c0 => exact own_lit _ _ _ _ _ _ (by simp) (by omega) rfl (by unfold maxLen; omega) (by simp [byteCells, Pack.b8_toNat]; omega)
  case c1 => unfold maxLen; omega
  case c2 => omega
  case c3 => simp; omega
  intro v' w1 hown hg _
  have hb : Below w.heap.size w w1 := (((Below.refl _ _).alloc (Nat.le_refl _) _).alloc (by simp) _).grown hg (by simp; omega) (fun k hk => by simp [Value.ownBlock] at hk; omega)
  have e : byteCells [Pack.b8 (s.size / 256), Pack.b8 s.size] ++ Lib.strCells s = byteCells (Pack.b8 (s.size / 256) :: Pack.b8 s.size :: Pack.bl s) := rfl
  rw [e] at hown
  clear e hg
  go_wp2
  go_ret2
  exact ⟨_, rfl, hown, hb⟩

set_option maxHeartbeats 400000 in
theorem ref_form3 (n : Int) (s : ByteArray) (_hn : (n == 0) = false) (hn2 : (n != 0) = true) (w : World) :
    Calls Try.prog 20 #[.agg #[.int .i64 3, .int .i64 n, .string s]] w fun e w' => e = .returned (.tuple #[.slice none 0 0, .int .i64 21]) ∧ Below w.heap.size w w' := by
  go_enter Try.func20, Try.ntmps20
  go_wp2
  go_ret2
  exact ⟨rfl, (Below.refl _ _).alloc (Nat.le_refl _) _⟩

set_option maxHeartbeats 400000 in
theorem ref_long (s : ByteArray) (h1 : 1024 < s.size) (w : World) :
    Calls Try.prog 20 #[.agg #[.int .i64 3, .int .i64 0, .string s]] w fun e w' => e = .returned (.tuple #[.slice none 0 0, .int .i64 22]) ∧ Below w.heap.size w w' := by
  go_enter Try.func20, Try.ntmps20
  go_wp2
  go_ret2
  exact ⟨rfl, (Below.refl _ _).alloc (Nat.le_refl _) _⟩

set_option maxHeartbeats 400000 in
theorem ref_stray (k n : Int) (s : ByteArray) (hk : (k == 3) = false) (hs : s.toList.isEmpty = false) (w : World) :
    Calls Try.prog 20 #[.agg #[.int .i64 k, .int .i64 n, .string s]] w fun e w' => e = .returned (.tuple #[.slice none 0 0, .int .i64 21]) ∧ Below w.heap.size w w' := by
  go_enter Try.func20, Try.ntmps20
  go_wp2
  go_ret2
  exact ⟨rfl, (Below.refl _ _).alloc (Nat.le_refl _) _⟩

set_option maxHeartbeats 400000 in
theorem ref_neg (k n : Int) (hk : (k == 3) = false) (hn : n < 0) (w : World) :
    Calls Try.prog 20 #[.agg #[.int .i64 k, .int .i64 n, .string ⟨#[]⟩]] w fun e w' => e = .returned (.tuple #[.slice none 0 0, .int .i64 21]) ∧ Below w.heap.size w w' := by
  go_enter Try.func20, Try.ntmps20
  go_wp2
  go_ret2
  exact ⟨rfl, (Below.refl _ _).alloc (Nat.le_refl _) _⟩

set_option maxHeartbeats 400000 in
theorem ref_small_over (n : Int) (h0 : 256 ≤ n) (w : World) :
    Calls Try.prog 20 #[.agg #[.int .i64 1, .int .i64 n, .string ⟨#[]⟩]] w fun e w' => e = .returned (.tuple #[.slice none 0 0, .int .i64 21]) ∧ Below w.heap.size w w' := by
  go_enter Try.func20, Try.ntmps20
  go_wp2
  go_ret2
  exact ⟨rfl, (Below.refl _ _).alloc (Nat.le_refl _) _⟩

set_option maxHeartbeats 400000 in
theorem ref_switch_over (n : Int) (h0 : 2 ≤ n) (w : World) :
    Calls Try.prog 20 #[.agg #[.int .i64 4, .int .i64 n, .string ⟨#[]⟩]] w fun e w' => e = .returned (.tuple #[.slice none 0 0, .int .i64 21]) ∧ Below w.heap.size w w' := by
  go_enter Try.func20, Try.ntmps20
  go_wp2
  go_ret2
  exact ⟨rfl, (Below.refl _ _).alloc (Nat.le_refl _) _⟩

set_option maxHeartbeats 400000 in
theorem ref_whole_over (n : Int) (h0 : 4611686018427387904 < n) (w : World) :
    Calls Try.prog 20 #[.agg #[.int .i64 2, .int .i64 n, .string ⟨#[]⟩]] w fun e w' => e = .returned (.tuple #[.slice none 0 0, .int .i64 21]) ∧ Below w.heap.size w w' := by
  go_enter Try.func20, Try.ntmps20
  go_wp2
  go_ret2
  exact ⟨rfl, (Below.refl _ _).alloc (Nat.le_refl _) _⟩

set_option maxHeartbeats 400000 in
theorem ref_other (k n : Int) (h0 : 0 ≤ n) (h1 : (k == 1) = false) (h2 : (k == 2) = false) (h3 : (k == 3) = false) (h4 : (k == 4) = false) (w : World) :
    Calls Try.prog 20 #[.agg #[.int .i64 k, .int .i64 n, .string ⟨#[]⟩]] w fun e w' => e = .returned (.tuple #[.slice none 0 0, .int .i64 21]) ∧ Below w.heap.size w w' := by
  go_enter Try.func20, Try.ntmps20
  go_wp2
  go_ret2
  exact ⟨rfl, (Below.refl _ _).alloc (Nat.le_refl _) _⟩

end Go.Proofs.Ytbenoopgpgffjaa
