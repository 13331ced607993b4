/-
  What is proved: the law PackKinds answers true, and nothing that was there has turned.
  Conditions: the argument reads as fields, within the form's own reach.
-/
import Derived.Test.YtbenoopgpgffjaaWritesWalk
import Derived.Deep.QuietTactic
import Derived.BigQuiet
namespace Go.Proofs.Ytbenoopgpgffjaa
open Go.RowKit

set_option maxHeartbeats 1000000 in
set_option maxRecDepth 100000 in
theorem kindslaw_walk (A : Option Addr) (n c : Nat) (l : List Pack.Fd) (w : World) (hl : l.length = n) (hr : Rd w w.heap.size 3 A n (fsCells l)) (hn : n ≤ 4398046511104) :
    Calls Try.prog 9 #[.slice A n c] w (Fine w) := by
  have HK := hide (kinds_any A n c l w hl hr hn)
  have H := hide hl
  clear hl
  go_enter Try.func9, Try.ntmps9
  go_wp2_with fail
  refine HK.out.mono ?_
  rintro e w1 ⟨v1, rfl, hown1, hb1⟩
  obtain ⟨A1, c1, rfl, _, _⟩ := own_shape hown1
  have hk1 := Rd.of_own hown1
  have hr1 := hr.on hb1
  have HM : Hid ((l.map (·.k)).length = n) := by rw [List.length_map]; exact H.out
  clear hown1 hr
  go_wp2_with fail
  go_loopw [14] (fun i wr => ∃ k m : Nat, k ≤ n ∧ i = .int .i64 k ∧ w1.drewN m = wr) (fun i _ => n - (intOf i).toNat)
  case atStart => exact ⟨0, 0, Nat.zero_le _, rfl, rfl⟩
  case round =>
    obtain ⟨k, m, hk, rfl, rfl⟩ := hrel
    by_cases hlt : k < n
    · obtain ⟨b, off, rfl, _, c0, _, _⟩ := hr1.field H.out hlt
      obtain ⟨b', off', rfl, _, hc⟩ := hk1.2 (by omega)
      have hg := intCells_get (l.map (·.k)) k (by rw [HM.out]; exact hlt)
      rw [List.getElem_map] at hg
      have d0 := hc k _ hg
      have hk0 : (0 : Int) ≤ k := by omega
      have hk2 : (k : Int) < n := by omega
      clear hc hg hk1 hr1
      go_wp2
      go_quiet (fail)
      go_wp2
      go_roundw
      case rel => exact ⟨k + 1, _, by omega, by go_num, rfl⟩
      case measure => simp [intOf]; omega
    · clear hk1 hr1
      go_wp2_with fail
      refine (alive_any _).mono ?_
      rintro e w2 ⟨rfl, hb2⟩
      have hbm := below_drewN hb1 m
      go_wp2
      go_ret
      exact ⟨rfl, hbm.trans (hb2.mono hbm.size)⟩
end Go.Proofs.Ytbenoopgpgffjaa
