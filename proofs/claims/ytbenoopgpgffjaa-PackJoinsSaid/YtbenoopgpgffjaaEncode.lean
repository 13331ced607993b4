/-
  What is proved: 'pack.Encode' computes 'Pack.encode'.
  Conditions: at most 1000 fields.
-/
import Derived.Test.YtbenoopgpgffjaaOneAll
namespace Go.Proofs.Ytbenoopgpgffjaa
open Go.RowKit

/-- What writing answers: bytes of the call's own, or nothing and the error. -/
def Wrote (B : Nat) (w : World) (r : Except Int (List UInt8)) (e : Ending) (w' : World) : Prop :=
  Below B w w' ∧ match r with
    | .ok x => ∃ v, e = .returned (.tuple #[v, .int .i64 0]) ∧ w'.ownsRow B 5 1 v x.length (byteCells x)
    | .error er => e = .returned (.tuple #[.slice none 0 0, .int .i64 er])

theorem enc1_ne {f : Pack.Fd} {e : Int} (h : Pack.enc1 f = .error e) : ((e == 0) = false) ∧ ((e != 0) = true) := by
  rcases Pack.enc1_errs h with rfl | rfl <;> exact ⟨rfl, rfl⟩

set_option maxHeartbeats 1000000 in
set_option maxRecDepth 100000 in
theorem encode_any (A : Option Addr) (n c : Nat) (l : List Pack.Fd) (w : World) (hl : l.length = n) (hr : Rd w w.heap.size 3 A n (fsCells l)) (hn : n ≤ 1000) :
    Calls Try.prog 11 #[.slice A n c] w (Wrote w.heap.size w (Pack.encode l)) := by
  have H := hide hl
  clear hl
  go_enter Try.func11, Try.ntmps11
  go_wp2
  go_loopw [4, 11] (fun v i wr => ∃ (k : Nat) (x : List UInt8), k ≤ n ∧ i = .int .i64 k ∧ Hid (Pack.encode (l.take k) = .ok x) ∧ wr.ownsRow w.heap.size 5 1 v x.length (byteCells x) ∧ Below w.heap.size w wr)
    (fun _ i _ => n - (intOf i).toNat)
  case atStart => exact ⟨0, [], Nat.zero_le _, rfl, hide rfl, World.ownsRow_nil _ _ _ _, Below.refl _ _⟩
  case round =>
    obtain ⟨k, x, hk, rfl, hx, hown, hb⟩ := hrel
    by_cases hlt : k < n
    · obtain ⟨b, off, rfl, hbb, c0, c1, c2⟩ := (hr.below hb).field H.out hlt
      have hsz := hb.size
      have hxl : x.length ≤ 1026000 := by
        have h1 := Pack.encode_le _ hx.out
        have h2 : (l.take k).length ≤ k := List.length_take_le _ _
        omega
      have hkl : k < l.length := by rw [H.out]; exact hlt
      obtain ⟨f, hf⟩ : ∃ f, f = l[k] := ⟨_, rfl⟩
      rw [← hf] at c0 c1 c2
      have HF := hide hf
      clear hf
      go_wp2_with fail
      cases hy : Pack.enc1 f with
      | ok y =>
        refine (one_ok f y hy w.heap.size _ x.length (byteCells x) _ (hown.alloc _) (by omega) (by simp; omega)).mono ?_
        rintro e w1 ⟨v1, rfl, hown1, hb1⟩
        have hb2 : Below w.heap.size w w1 := (hb.alloc hsz _).trans hb1
        have R : w1.ownsRow w.heap.size 5 1 v1 (x ++ y).length (byteCells (x ++ y)) := by rw [List.length_append, byteCells_append]; exact hown1
        have E : Hid (Pack.encode (l.take (k + 1)) = .ok (x ++ y)) := Pack.encode_ok l k hkl hx.out (by rw [← HF.out]; exact hy)
        clear hy hown1 hb1 hown c0 c1 c2
        go_wp2
        go_roundw
        case rel => exact ⟨k + 1, x ++ y, by omega, by go_num, E, R, hb2⟩
        case measure => simp [intOf]; omega
      | error er =>
        refine (one_err f er hy _ w.heap.size _ (by simp; omega)).mono ?_
        rintro e w1 ⟨rfl, hb1⟩
        have hb2 : Below w.heap.size w w1 := (hb.alloc hsz _).trans hb1
        have E : Hid (Pack.encode l = .error er) := Pack.encode_err l k hkl hx.out (by rw [← HF.out]; exact hy)
        obtain ⟨e1, e2⟩ := enc1_ne hy
        clear hy hb1 hown c0 c1 c2
        go_wp2
        go_ret2
        unfold Wrote
        rw [E.out]
        exact ⟨hb2, rfl⟩
    · have hkn : k = n := by omega
      subst hkn
      rw [List.take_of_length_le (by rw [H.out]; exact Nat.le_refl _)] at hx
      go_wp2
      go_ret2
      unfold Wrote
      rw [hx.out]
      exact ⟨hb, _, rfl, hown⟩
end Go.Proofs.Ytbenoopgpgffjaa
