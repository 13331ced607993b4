/-
  What is proved: what 'pack.size', 'pack.lay' and 'harpsichordref02.Same' (at two equal lists) compute.
  Conditions: the row that is appended to is the call's own (or nil); at most 2^47 bytes in all; Same: at most 2^42 fields.
-/
import Derived.Test.YtbenoopgpgffjaaMem
import Derived.Deep.QuietTactic
import Derived.BigQuiet
namespace Go.Proofs.Ytbenoopgpgffjaa
open Go.RowKit

/-- The number of first bytes, as Go tells it. -/
def sizeInt (k : Int) : Int := match Pack.sizeOf k with
  | some n => n
  | none => -1

set_option maxHeartbeats 400000 in
theorem size_any (k : Int) (w : World) : Calls Try.prog 24 #[.int .i64 k] w fun e w' => e = .returned (.int .i64 (sizeInt k)) ∧ w = w' := by
  go_enter Try.func24, Try.ntmps24
  go_wp2
  all_goals
    go_ret
    refine ⟨?_, rfl⟩
    simp_all [sizeInt, Pack.sizeOf]

set_option maxHeartbeats 400000 in
theorem lay_any (base : Nat) (v : Value) (n : Nat) (xs : List Value) (A : Option Addr) (m c : Nat) (ys : List UInt8) (w : World) (hown : w.ownsRow base 5 1 v n xs) (hr : Rd w w.heap.size 1 A m (byteCells ys))
    (hs : n + m ≤ 140737488355328) (hb : base ≤ w.heap.size) :
    Calls Try.prog 23 #[v, .slice A m c] w fun e w' => ∃ v', e = .returned v' ∧ w'.ownsRow base 5 1 v' (n + m) (xs ++ byteCells ys) ∧ w.grownBy w' v.ownBlock ∧ (v'.ownBlock = v.ownBlock ∨ v'.ownBlock = some w.heap.size) := by
  obtain ⟨i0, hi, hz0, hz1, hz2⟩ := info_parts byteInfo
  have ho := byteCells_one ys
  go_enter Try.func23, Try.ntmps23
  go_wp2_with (at_builtin; refine wpList_append_rd _ rfl (.tmp 5) (.tmp 6) 24 rfl base 5 i0 (.int .u8 0) 1 1 Try.underlying24 hi hz0 hz1 hz2 rfl (by decide) _ n xs rfl hown _ A m c (byteCells ys) rfl hr ho ?c1 ?c2 hb ?_)
  case c1 => unfold maxLen; omega
  case c2 => exact fit (by omega)
  intro v' w1 hown' hg hat
  go_wp2
  go_ret
  exact ⟨_, rfl, hown', hg, hat⟩

set_option maxHeartbeats 400000 in
set_option maxRecDepth 100000 in
theorem same_any (A A' : Option Addr) (n c c' : Nat) (l : List Pack.Fd) (w : World) (B B' : Nat) (hl : l.length = n) (hr : Rd w B 3 A n (fsCells l)) (hr' : Rd w B' 3 A' n (fsCells l)) (hn : n ≤ 4398046511104) :
    Calls Try.prog 17 #[.slice A n c, .slice A' n c'] w fun e w' => e = .returned (.bool true) ∧ ∃ m, w' = w.drewN m := by
  have H := hide hl
  clear hl
  go_enter Try.func17, Try.ntmps17
  go_wp2
  go_loopw [5] (fun i wr => ∃ k m : Nat, k ≤ n ∧ i = .int .i64 k ∧ w.drewN m = wr) (fun i _ => n - (intOf i).toNat)
  case atStart => exact ⟨0, 0, Nat.zero_le _, rfl, rfl⟩
  case round =>
    obtain ⟨k, m, hk, rfl, rfl⟩ := hrel
    by_cases hlt : k < n
    · obtain ⟨b, off, rfl, _, c0, c1, c2⟩ := hr.field H.out hlt
      obtain ⟨b', off', rfl, _, d0, d1, d2⟩ := hr'.field H.out hlt
      have hk0 : (0 : Int) ≤ k := by omega
      have hk1 : (k : Int) < n := by omega
      go_wp2
      go_quiet (fail)
      go_wp2
      go_roundw
      case rel => exact ⟨k + 1, _, by omega, by go_num, rfl⟩
      case measure => simp [intOf]; omega
    · go_wp2
      go_ret
      exact ⟨rfl, _, rfl⟩
end Go.Proofs.Ytbenoopgpgffjaa
