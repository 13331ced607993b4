/-
  What is proved: 'harpsichordref02.one' answers what 'Pack.enc1' says, and 'harpsichordref02.Encode' computes 'Pack.encode'.
  Conditions: at most 1000 fields.
-/
import Derived.Test.YtbenoopgpgffjaaRefOne
namespace Go.Proofs.Ytbenoopgpgffjaa
open Go.RowKit

set_option maxHeartbeats 400000 in
theorem refone_ok (f : Pack.Fd) (ys : List UInt8) (hf : Pack.enc1 f = .ok ys) (w : World) :
    Calls Try.prog 20 #[fdVal f] w fun e w' => ∃ v', e = .returned (.tuple #[v', .int .i64 0]) ∧ w'.ownsRow w.heap.size 5 1 v' ys.length (byteCells ys) ∧ Below w.heap.size w w' := by
  obtain ⟨k, n, s⟩ := f
  unfold Pack.enc1 at hf
  simp only at hf
  unfold fdVal
  simp only
  by_cases h3 : k = 3
  · subst h3
    rw [if_pos rfl] at hf
    by_cases hn : n ≠ 0
    · rw [if_pos hn] at hf; cases hf
    · rw [if_neg hn] at hf
      have hn0 : n = 0 := by omega
      subst hn0
      by_cases hl : 1024 < s.size
      · rw [if_pos hl] at hf; cases hf
      · rw [if_neg hl] at hf
        injection hf with hf
        subst hf
        have e : (Pack.b8 (s.size / 256) :: Pack.b8 s.size :: Pack.bl s).length = 2 + s.size := by simp only [List.length_cons, Pack.bl_size]; omega
        rw [e]
        exact ref_text s (by omega) w
  · rw [if_neg h3] at hf
    by_cases hz : 0 < s.size
    · rw [if_pos hz] at hf; cases hf
    · rw [if_neg hz] at hf
      have es := empty_of_size hz
      subst es
      by_cases hn : n < 0
      · rw [if_pos hn] at hf; cases hf
      · rw [if_neg hn] at hf
        by_cases h1 : k = 1
        · subst h1
          rw [if_pos rfl] at hf
          by_cases hr : n < 256
          · rw [if_pos hr] at hf
            injection hf with hf
            subst hf
            exact ref_small n (by omega) hr w
          · rw [if_neg hr] at hf; cases hf
        · rw [if_neg h1] at hf
          by_cases h4 : k = 4
          · subst h4
            rw [if_pos rfl] at hf
            by_cases hr : n < 2
            · rw [if_pos hr] at hf
              injection hf with hf
              subst hf
              exact ref_switch n (by omega) hr w
            · rw [if_neg hr] at hf; cases hf
          · rw [if_neg h4] at hf
            by_cases h2 : k = 2
            · subst h2
              rw [if_pos rfl] at hf
              by_cases hr : n ≤ 4611686018427387904
              · rw [if_pos hr] at hf
                injection hf with hf
                subst hf
                exact ref_whole n (by omega) hr w
              · rw [if_neg hr] at hf; cases hf
            · rw [if_neg h2] at hf; cases hf

set_option maxHeartbeats 400000 in
theorem refone_err (f : Pack.Fd) (er : Int) (hf : Pack.enc1 f = .error er) (w : World) :
    Calls Try.prog 20 #[fdVal f] w fun e w' => e = .returned (.tuple #[.slice none 0 0, .int .i64 er]) ∧ Below w.heap.size w w' := by
  obtain ⟨k, n, s⟩ := f
  unfold Pack.enc1 at hf
  simp only at hf
  unfold fdVal
  simp only
  by_cases h3 : k = 3
  · subst h3
    rw [if_pos rfl] at hf
    by_cases hn : n ≠ 0
    · rw [if_pos hn] at hf
      injection hf with hf
      subst hf
      exact ref_form3 n s (beq_no hn) (by simpa using hn) w
    · rw [if_neg hn] at hf
      have hn0 : n = 0 := by omega
      subst hn0
      by_cases hl : 1024 < s.size
      · rw [if_pos hl] at hf
        injection hf with hf
        subst hf
        exact ref_long s hl w
      · rw [if_neg hl] at hf; cases hf
  · rw [if_neg h3] at hf
    by_cases hz : 0 < s.size
    · rw [if_pos hz] at hf
      injection hf with hf
      subst hf
      exact ref_stray k n s (beq_no h3) (full_of_size hz) w
    · rw [if_neg hz] at hf
      have es := empty_of_size hz
      subst es
      by_cases hn : n < 0
      · rw [if_pos hn] at hf
        injection hf with hf
        subst hf
        exact ref_neg k n (beq_no h3) hn w
      · rw [if_neg hn] at hf
        by_cases h1 : k = 1
        · subst h1
          rw [if_pos rfl] at hf
          by_cases hr : n < 256
          · rw [if_pos hr] at hf; cases hf
          · rw [if_neg hr] at hf
            injection hf with hf
            subst hf
            exact ref_small_over n (by omega) w
        · rw [if_neg h1] at hf
          by_cases h4 : k = 4
          · subst h4
            rw [if_pos rfl] at hf
            by_cases hr : n < 2
            · rw [if_pos hr] at hf; cases hf
            · rw [if_neg hr] at hf
              injection hf with hf
              subst hf
              exact ref_switch_over n (by omega) w
          · rw [if_neg h4] at hf
            by_cases h2 : k = 2
            · subst h2
              rw [if_pos rfl] at hf
              by_cases hr : n ≤ 4611686018427387904
              · rw [if_pos hr] at hf; cases hf
              · rw [if_neg hr] at hf
                injection hf with hf
                subst hf
                exact ref_whole_over n (by omega) w
            · rw [if_neg h2] at hf
              injection hf with hf
              subst hf
              exact ref_other k n (by omega) (beq_no h1) (beq_no h2) (beq_no h3) (beq_no h4) w

set_option maxHeartbeats 1000000 in
set_option maxRecDepth 100000 in
theorem refencode_any (A : Option Addr) (n c : Nat) (l : List Pack.Fd) (w : World) (hl : l.length = n) (hr : Rd w w.heap.size 3 A n (fsCells l)) (hn : n ≤ 1000) :
    Calls Try.prog 12 #[.slice A n c] w (Wrote w.heap.size w (Pack.encode l)) := by
  obtain ⟨i0, hi, hz0, hz1, hz2⟩ := info_parts byteInfo
  have H := hide hl
  clear hl
  go_enter Try.func12, Try.ntmps12
  go_wp2
  go_loopw [4, 5] (fun v i wr => ∃ (k : Nat) (x : List UInt8), k ≤ n ∧ i = .int .i64 k ∧ Hid (Pack.encode (l.take k) = .ok x) ∧ wr.ownsRow w.heap.size 5 1 v x.length (byteCells x) ∧ Below w.heap.size w wr)
    (fun _ i _ => n - (intOf i).toNat)
  case atStart => exact ⟨0, [], Nat.zero_le _, rfl, hide rfl, World.ownsRow_nil _ _ _ _, Below.refl _ _⟩
  case round =>
    obtain ⟨k, x, hk, rfl, hx, hown, hb⟩ := hrel
    by_cases hlt : k < n
    · obtain ⟨b, off, rfl, hbb, c0, c1, c2⟩ := (hr.below hb).field H.out hlt
      have hsz := hb.size
      have hxl : x.length ≤ 1026000 := by
        have h1 := Pack.encode_le _ hx.out
        have h2 : (l.take k).length ≤ k := List.length_take_le _ _
        omega
      have hkl : k < l.length := by rw [H.out]; exact hlt
      obtain ⟨f, hf⟩ : ∃ f, f = l[k] := ⟨_, rfl⟩
      rw [← hf] at c0 c1 c2
      have HF := hide hf
      clear hf
      go_wp2_with fail
      cases hy : Pack.enc1 f with
      | ok y =>
        have hyl := Pack.enc1_le hy
        refine (refone_ok f y hy _).mono ?_
        rintro e w1 ⟨v1, rfl, hown1, hb1⟩
        have hbw : Below w.heap.size w w1 := hb.trans (hb1.mono hsz)
        have ho2 : w1.ownsRow w.heap.size 5 1 u4 x.length (byteCells x) := own_below hown hb1
        obtain ⟨A1, n1, rfl, _, _⟩ := own_shape hown1
        have hrd := Rd.of_own hown1
        have hone := byteCells_one y
        have hz : w.heap.size ≤ w1.heap.size := hbw.size
        have E : Hid (Pack.encode (l.take (k + 1)) = .ok (x ++ y)) := Pack.encode_ok l k hkl hx.out (by rw [← HF.out]; exact hy)
        clear hy hown1 hb1 hown c0 c1 c2
        go_wp2_with (at_builtin; refine wpList_append_rd _ rfl (.tmp 25) (.tmp 26) 24 rfl w.heap.size 5 i0 (.int .u8 0) 1 1 Try.underlying24 hi hz0 hz1 hz2 rfl (by decide) _ _ _ rfl ho2 _ A1 y.length n1 (byteCells y) rfl hrd hone ?c1 ?c2 hz ?_)
        case c1 => unfold maxLen; omega
        case c2 => exact fit (by omega)
        intro v2 w2 hown2 hg2 _
        have hb2 := below_append hbw ho2 hg2 (Nat.le_refl _) hz
        have R : w2.ownsRow w.heap.size 5 1 v2 (x ++ y).length (byteCells (x ++ y)) := by rw [List.length_append, byteCells_append]; exact hown2
        clear hown2 hg2 ho2 hrd hbw
        go_wp2
        go_roundw
        case rel => exact ⟨k + 1, x ++ y, by omega, by go_num, E, R, hb2⟩
        case measure => simp [intOf]; omega
      | error er =>
        refine (refone_err f er hy _).mono ?_
        rintro e w1 ⟨rfl, hb1⟩
        have hb2 : Below w.heap.size w w1 := hb.trans (hb1.mono hsz)
        have E : Hid (Pack.encode l = .error er) := Pack.encode_err l k hkl hx.out (by rw [← HF.out]; exact hy)
        obtain ⟨e1, e2⟩ := enc1_ne hy
        clear hy hb1 hown c0 c1 c2
        go_wp2
        go_ret2
        unfold Wrote
        rw [E.out]
        exact ⟨hb2, rfl⟩
    · have hkn : k = n := by omega
      subst hkn
      rw [List.take_of_length_le (by rw [H.out]; exact Nat.le_refl _)] at hx
      go_wp2
      go_ret2
      unfold Wrote
      rw [hx.out]
      exact ⟨hb, _, rfl, hown⟩
end Go.Proofs.Ytbenoopgpgffjaa
