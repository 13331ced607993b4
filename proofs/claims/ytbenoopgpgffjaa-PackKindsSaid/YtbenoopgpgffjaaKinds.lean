/-
  What is proved: what 'pack.Kinds' computes.
  Conditions: the argument reads as fields, at most 2^42 of them.
-/
import Derived.Test.YtbenoopgpgffjaaMem
namespace Go.Proofs.Ytbenoopgpgffjaa
open Go.RowKit

theorem kinds_take (l : List Pack.Fd) (k : Nat) (hk : k < l.length) : intCells ((l.map (·.k)).take (k + 1)) = intCells ((l.map (·.k)).take k) ++ [.int .i64 l[k].k] := by
  rw [Pack.take_snoc _ k (by simpa using hk), intCells, List.map_append]; simp [intCells]

set_option maxHeartbeats 400000 in
set_option maxRecDepth 100000 in
theorem kinds_any (A : Option Addr) (n c : Nat) (l : List Pack.Fd) (w : World) (hl : l.length = n) (hr : Rd w w.heap.size 3 A n (fsCells l)) (hn : n ≤ 4398046511104) :
    Calls Try.prog 18 #[.slice A n c] w fun e w' => ∃ v, e = .returned v ∧ w'.ownsRow w.heap.size 3 1 v n (intCells (l.map (·.k))) ∧ Below w.heap.size w w' := by
  obtain ⟨i0, hi, hz0, hz1, hz2⟩ := info_parts intInfo
  have H := hide hl
  clear hl
  go_enter Try.func18, Try.ntmps18
  go_wp2
  go_loopw [3, 8] (fun v i wr => ∃ k : Nat, k ≤ n ∧ i = .int .i64 k ∧ wr.ownsRow w.heap.size 3 1 v k (intCells ((l.map (·.k)).take k)) ∧ Below w.heap.size w wr)
    (fun _ i _ => n - (intOf i).toNat)
  case atStart => exact ⟨0, Nat.zero_le _, rfl, World.ownsRow_nil _ _ _ _, Below.refl _ _⟩
  case round =>
    obtain ⟨k, hk, rfl, hown, hb⟩ := hrel
    by_cases hlt : k < n
    · obtain ⟨b, off, rfl, hbb, c0, c1, c2⟩ := (hr.below hb).field H.out hlt
      have hsz := hb.size
      go_wp2_with (at_builtin; refine wpList_append_rd _ rfl (.tmp 12) (.tmp 15) 29 rfl w.heap.size 3 i0 (.int .i64 0) 1 8 Try.underlying29 hi hz0 hz1 hz2 rfl (by decide) _ k _ rfl ((hown.alloc _).alloc _) _ _ 1 1 [.int .i64 (l[k]'(by rw [H.out]; exact hlt)).k] rfl (Rd.new _ #[.int .i64 (l[k]'(by rw [H.out]; exact hlt)).k] 3 1 1 (wr.heap.size + 1) (by simp) rfl) ?c1 ?c2 ?c3 ?c4 ?_)
      case c1 => intro u hu; simp at hu; subst hu; rfl
      case c2 => unfold maxLen; omega
      case c3 => exact fit (by omega)
      case c4 => simp; omega
      intro v' w1 hown' hg _
      have hb1 := below_append ((hb.alloc hsz _).alloc (by simp; omega) _) ((hown.alloc _).alloc _) hg (Nat.le_refl _) (by simp; omega)
      have R : w1.ownsRow w.heap.size 3 1 v' (k + 1) (intCells ((l.map (·.k)).take (k + 1))) := by rw [kinds_take l k (by rw [H.out]; exact hlt)]; exact hown'
      clear hown' hg hown c0 c1 c2 hb
      go_wp2
      go_roundw
      case rel => exact ⟨k + 1, by omega, by go_num, R, hb1⟩
      case measure => simp [intOf]; omega
    · have hkn : k = n := by omega
      subst hkn
      rw [List.take_of_length_le (by rw [List.length_map, H.out]; exact Nat.le_refl _)] at hown
      go_wp2
      go_ret
      exact ⟨_, rfl, hown, hb⟩
end Go.Proofs.Ytbenoopgpgffjaa
