/-
  What is proved: the law PackJoins answers true where both records are written, and nothing that was there has turned.
  Conditions: both arguments read as at most 200 fields that are written.
-/
import Derived.Test.YtbenoopgpgffjaaJoinsWalk
namespace Go.Proofs.Ytbenoopgpgffjaa
open Go.RowKit

theorem ofBl_append (x y : List UInt8) : Pack.ofBl (x ++ y) = Pack.ofBl x ++ Pack.ofBl y := by
  have h : ∀ a b : ByteArray, a.data = b.data → a = b := by
    intro a b h
    cases a
    cases b
    simp only at h
    rw [h]
  apply h
  rw [ByteArray.data_append]
  simp [Pack.ofBl]

set_option maxHeartbeats 4000000 in
set_option maxRecDepth 100000 in
theorem joins_good (A : Option Addr) (n c : Nat) (l : List Pack.Fd) (A' : Option Addr) (m c' : Nat) (l' : List Pack.Fd) (w : World) (hl : l.length = n) (hr : Rd w w.heap.size 3 A n (fsCells l))
    (hl' : l'.length = m) (hr' : Rd w w.heap.size 3 A' m (fsCells l')) (hn : n ≤ 200) (hm : m ≤ 200) (x y : List UInt8) (hx : Pack.encode l = .ok x) (hy : Pack.encode l' = .ok y) : Calls Try.prog 8 #[.slice A n c, .slice A' m c'] w (Fine w) := by
  have h1 : (n : Int) ≤ 200 := by omega
  have h2 : (m : Int) ≤ 200 := by omega
  have HE := hide fun w1 h1 => encode_any A n c l w1 hl h1 (by omega)
  have HF := hide fun w1 h1 => encode_any A' m c' l' w1 hl' h1 (by omega)
  have HG := hide fun A3 c3 w1 h1 => encode_any A3 (n + m) c3 (l ++ l') w1 (by rw [List.length_append, hl, hl']) h1 (by omega)
  have HK := hide fun w1 h1 => kinds_any A n c l w1 hl h1 (by omega)
  have HK' := hide fun w1 h1 => kinds_any A' m c' l' w1 hl' h1 (by omega)
  have ho1 := fsCells_one l
  have ho2 := fsCells_one l'
  obtain ⟨i0, hi, hz0, hz1, hz2⟩ := info_parts fieldInfo
  have HN := hide hl
  have HM := hide hl'
  have hxl : x.length ≤ 205200 := by have := Pack.encode_le l hx; omega
  have hyl : y.length ≤ 205200 := by have := Pack.encode_le l' hy; omega
  have HZ := hide (Pack.encode_join_ok hx hy)
  have HS := hide (Pack.some_encode l y hx)
  have HD := hide (Pack.decode_encode hy)
  have HX := hide hx
  have HY := hide hy
  clear hl hl' hx hy
  go_enter Try.func8, Try.ntmps8
  go_wp2_with fail
  refine (HE.out _ hr).mono ?_
  rintro e w1 ⟨hb1, he⟩
  rw [HX.out] at he
  simp only at he
  obtain ⟨v1, rfl, hown1⟩ := he
  obtain ⟨A1, c1, rfl, _, _⟩ := own_shape hown1
  have hx1 := Rd.of_own hown1
  have hr1 := hr.on hb1
  have hr1' := hr'.on hb1
  clear hr hr' hown1
  go_wp2_with fail
  refine (HF.out _ hr1').mono ?_
  rintro e w2 ⟨hb2, he⟩
  rw [HY.out] at he
  simp only at he
  obtain ⟨v2, rfl, hown2⟩ := he
  obtain ⟨A2, c2, rfl, _, _⟩ := own_shape hown2
  have hy2 := Rd.of_own hown2
  have hx2 := hx1.on hb2
  have hr2 := hr1.on hb2
  have hr2' := hr1'.on hb2
  clear hr1 hr1' hown2 hx1
  have own0 := own_none w2
  have hra := hr2.alloc' (.cells #[] 40)
  go_wp2_with (at_builtin; refine wpList_append_rd _ rfl (.tmp 36) (.tmp 37) 22 rfl w2.heap.size 40 i0 _ 3 32 Try.underlying22 hi hz0 hz1 hz2 rfl (by decide) _ 0 (fsCells []) rfl own0 _ A n c (fsCells l) rfl hra ho1 ?c1 ?c2 ?c3 ?_)
  case c1 => unfold maxLen; omega
  case c2 => exact fit (by omega)
  case c3 => simp
  intro v3 w3 hown3 hg3 _
  have hb3 : Below w2.heap.size w2 w3 := below_append ((Below.refl _ _).alloc (Nat.le_refl _) _) own0 hg3 (Nat.le_refl _) (by simp)
  have hr3' := hr2'.on hb3
  have hs3 := hb3.size
  have hown4 : w3.ownsRow w2.heap.size 40 3 v3 n (fsCells l) := hown3
  clear hg3 own0 hra hown3
  go_wp2_with (at_builtin; refine wpList_append_rd _ rfl (.tmp 38) (.tmp 39) 22 rfl w2.heap.size 40 i0 _ 3 32 Try.underlying22 hi hz0 hz1 hz2 rfl (by decide) _ n (fsCells l) rfl hown4 _ A' m c' (fsCells l') rfl hr3' ho2 ?d1 ?d2 hs3 ?_)
  case d1 => unfold maxLen; omega
  case d2 => exact fit (by omega)
  intro v4 w4 hown5 hg4 _
  have hb4 : Below w2.heap.size w2 w4 := below_append hb3 hown4 hg4 (Nat.le_refl _) hs3
  obtain ⟨A4, c4, rfl, _, _⟩ := own_shape hown5
  have hl4 := Rd.of_own hown5
  rw [← fsCells_append] at hl4
  have hs1 := hb1.size
  have hs2 := hb2.size
  have hbw : Below w.heap.size w w4 := hb1.trans ((hb2.mono hs1).trans (hb4.mono (by omega)))
  have hx4 := hx2.on hb4
  have hy4 := hy2.on hb4
  have hr4 := hr2.on hb4
  have hr4' := hr2'.on hb4
  clear hg4 hown4 hown5 hr3' hb1 hb2 hb3 hb4 ho1 ho2 hs1 hs2 hs3 hx2 hy2 hr2 hr2'
  go_wp2_with fail
  refine (HG.out A4 c4 _ hl4).mono ?_
  rintro e w5 ⟨hb5, he⟩
  rw [HZ.out] at he
  simp only at he
  obtain ⟨v5, rfl, hown5⟩ := he
  obtain ⟨A5, c5, rfl, hn5, hm5⟩ := own_shape hown5
  have hz5 := Rd.of_own hown5
  have HLZ : Hid ((x ++ y).length = x.length + y.length) := List.length_append
  rw [HLZ.out] at hz5 hn5 ⊢
  have hbw5 := hbw.trans (hb5.mono hbw.size)
  have hx5 := hx4.on hb5
  have hy5 := hy4.on hb5
  have hr5 := hr4.on hb5
  have hr5' := hr4'.on hb5
  clear hb5 hbw hl4 hown5 hx4 hy4 hr4 hr4'
  go_wp2_with fail
  refine (HK.out _ hr5).mono ?_
  rintro e w6 ⟨v6, rfl, hown6, hb6⟩
  obtain ⟨A6, c6, rfl, _, _⟩ := own_shape hown6
  have hk6 := Rd.of_own hown6
  have hz6 := hz5.on hb6
  have hx6 := hx5.on hb6
  have hy6 := hy5.on hb6
  have hr6 := hr5.on hb6
  have hr6' := hr5'.on hb6
  have hbw6 := hbw5.trans (hb6.mono hbw5.size)
  clear hown6 hb6 hbw5 hz5 hx5 hy5 hr5 hr5'
  go_wp2_with fail
  refine (some_any A6 n c6 (l.map (·.k)) A5 (x.length + y.length) c5 (x ++ y) _ (by rw [List.length_map, HN.out]) hk6 (by omega) HLZ.out hn5 hm5 hz6).mono ?_
  rintro e w7 ⟨hb7, he⟩
  rw [HS.out] at he
  simp only at he
  obtain ⟨v7, rfl, hown7⟩ := he
  obtain ⟨A7, c7, rfl, _, _⟩ := own_shape hown7
  have hp7 := Rd.of_own hown7
  rw [HN.out] at hp7 ⊢
  have hz7 := hz6.on hb7
  have hx7 := hx6.on hb7
  have hy7 := hy6.on hb7
  have hr7 := hr6.on hb7
  have hr7' := hr6'.on hb7
  have hbw7 := hbw6.trans (hb7.mono hbw6.size)
  clear hown7 hb7 hbw6 hz6 hx6 hy6 hr6 hr6' hk6
  have hr7d := Rd.drew' hr7'
  have hcut := (Rd.drew' hz7).cut (k := x.length) (cap := c5) (by omega) hn5
  rw [Nat.mul_one, ← byteCells_drop, List.drop_left] at hcut
  by_cases hc5 : c5 = x.length
  · have hy0 : y.length = 0 := by omega
    obtain rfl : y = [] := List.eq_nil_of_length_eq_zero hy0
    subst hc5
    have hcat : Pack.ofBl x ++ Pack.ofBl [] = Pack.ofBl x := by rw [← ofBl_append, List.append_nil]
    rw [List.append_nil] at hz7
    replace hz7 : Rd w7 w7.heap.size 1 A5 x.length (byteCells x) := hz7
    replace hy7 : Rd w7 w7.heap.size 1 A2 0 (byteCells []) := hy7
    clear hcut hy0
    go_wp2_with fail
    go_region_with (first
      | (go_at_call 18; refine (HK'.out _ hr7d).mono ?_; rintro e w8 ⟨v8, rfl, hown8, hb8⟩; obtain ⟨A8, c8, rfl, _, _⟩ := own_shape hown8; have hk8 := Rd.of_own hown8; clear hown8)
      | (go_at_call 13; refine (decode_any A8 m c8 (l'.map (·.k)) _ 0 _ [] _ (by rw [List.length_map, HM.out]) hk8 (by omega) rfl (by omega) (by unfold maxLen; omega) (Rd.nil_ _ _ _ _)).mono ?_; rintro e w9 ⟨hb9, he⟩; rw [HD.out] at he; simp only at he; obtain ⟨v9, rfl, hown9⟩ := he; obtain ⟨A9, c9, rfl, _, _⟩ := own_shape hown9))
    all_goals
      have hbw9 : Below w.heap.size w w9 := by
        have s1 := hbw7.size
        have s2 : w7.heap.size ≤ w8.heap.size := hb8.size
        exact hbw7.drew.trans ((hb8.mono s1).trans (hb9.mono (Nat.le_trans s1 s2)))
      have s78 : Below w7.heap.size w7 w9 := (Below.refl _ w7).drew.trans (hb8.trans (hb9.mono hb8.size))
      have hx9 := hx7.on s78
      have hy9 := hy7.on s78
      have hz9 := hz7.on s78
      have hp9 := hp7.on s78
      have hr9 := hr7.on s78
      have hr9' := hr7'.on s78
      have hq9 := Rd.of_own hown9
      clear hb8 hb9 s78 hown9 hk8 hx7 hy7 hz7 hp7 hr7 hr7' hr7d hbw7
      go_wp2_with fail
      refine (alive_any _).mono ?_
      rintro e w10 ⟨rfl, hb10⟩
      have hs1 := run_str (c := c1) (hx9.on hb10)
      have hs2 := run_str (c := c2) (hy9.on hb10)
      have hs3 := run_str (c := x.length) (hz9.on hb10)
      have hp10 := hp9.on hb10
      have hq10 := hq9.on hb10
      have hr10 := hr9.on hb10
      have hr10' := hr9'.on hb10
      have hbw10 := hbw9.trans (hb10.mono hbw9.size)
      have g1 : (Pack.ofBl x).size ≤ 205200 := by rw [← Pack.bl_size, Pack.bl_ofBl]; exact hxl
      have g2 : (Pack.ofBl []).size ≤ 205200 := by rw [← Pack.bl_size, Pack.bl_ofBl]; exact hyl
      clear hx9 hy9 hz9 hp9 hq9 hr9 hr9' hb10 hbw9
      rw [HM.out] at hq10
      go_wp2_with fail
      try rw [HM.out]
      refine (same_any A7 A n c7 c l _ _ _ HN.out hp10 hr10 (by omega)).mono ?_
      rintro e w11 ⟨rfl, m11, rfl⟩
      go_wp2_with fail
      try rw [HM.out]
      refine (same_any A9 A' m c9 c' l' _ _ _ HM.out (hq10.drewN m11) (hr10'.drewN m11) (by omega)).mono ?_
      rintro e w12 ⟨rfl, m12, rfl⟩
      go_wp2_with fail
      go_ret
      exact ⟨rfl, below_drewN hbw10 (m11 + m12)⟩
  · have hc5' : (x.length : Int) < c5 := by omega
    rw [if_neg hc5] at hcut
    have hmin : ((x.length : Int)) ≤ (x.length : Int) + y.length := by omega
    have e1 : x.length + y.length - x.length = y.length := by omega
    rw [e1] at hcut
    have hcat : Pack.ofBl x ++ Pack.ofBl y = Pack.ofBl (x ++ y) := (ofBl_append x y).symm
    clear e1
    go_wp2_with fail
    go_region_with (first
      | (go_at_call 18; refine (HK'.out _ hr7d).mono ?_; rintro e w8 ⟨v8, rfl, hown8, hb8⟩; obtain ⟨A8, c8, rfl, _, _⟩ := own_shape hown8; have hk8 := Rd.of_own hown8; have hcut8 := hcut.on hb8; clear hown8)
      | (go_at_call 13; refine (decode_any A8 m c8 (l'.map (·.k)) _ y.length _ y _ (by rw [List.length_map, HM.out]) hk8 (by omega) rfl (by omega) (by unfold maxLen at hm5 ⊢; omega) hcut8).mono ?_; rintro e w9 ⟨hb9, he⟩; rw [HD.out] at he; simp only at he; obtain ⟨v9, rfl, hown9⟩ := he; obtain ⟨A9, c9, rfl, _, _⟩ := own_shape hown9))
    all_goals
      have hbw9 : Below w.heap.size w w9 := by
        have s1 := hbw7.size
        have s2 : w7.heap.size ≤ w8.heap.size := hb8.size
        exact hbw7.drew.trans ((hb8.mono s1).trans (hb9.mono (Nat.le_trans s1 s2)))
      have s78 : Below w7.heap.size w7 w9 := (Below.refl _ w7).drew.trans (hb8.trans (hb9.mono hb8.size))
      have hx9 := hx7.on s78
      have hy9 := hy7.on s78
      have hz9 := hz7.on s78
      have hp9 := hp7.on s78
      have hr9 := hr7.on s78
      have hr9' := hr7'.on s78
      have hq9 := Rd.of_own hown9
      clear hb8 hb9 s78 hown9 hk8 hx7 hy7 hz7 hp7 hr7 hr7' hr7d hbw7 hcut hcut8
      go_wp2_with fail
      refine (alive_any _).mono ?_
      rintro e w10 ⟨rfl, hb10⟩
      have hs1 := run_str (c := c1) (hx9.on hb10)
      have hs2 := run_str (c := c2) (hy9.on hb10)
      have hs3 := run_str (c := c5) (hz9.on hb10)
      have hp10 := hp9.on hb10
      have hq10 := hq9.on hb10
      have hr10 := hr9.on hb10
      have hr10' := hr9'.on hb10
      have hbw10 := hbw9.trans (hb10.mono hbw9.size)
      have g1 : (Pack.ofBl x).size ≤ 205200 := by rw [← Pack.bl_size, Pack.bl_ofBl]; exact hxl
      have g2 : (Pack.ofBl y).size ≤ 205200 := by rw [← Pack.bl_size, Pack.bl_ofBl]; exact hyl
      clear hx9 hy9 hz9 hp9 hq9 hr9 hr9' hb10 hbw9
      rw [HM.out] at hq10
      go_wp2_with fail
      try rw [HM.out]
      refine (same_any A7 A n c7 c l _ _ _ HN.out hp10 hr10 (by omega)).mono ?_
      rintro e w11 ⟨rfl, m11, rfl⟩
      go_wp2_with fail
      try rw [HM.out]
      refine (same_any A9 A' m c9 c' l' _ _ _ HM.out (hq10.drewN m11) (hr10'.drewN m11) (by omega)).mono ?_
      rintro e w12 ⟨rfl, m12, rfl⟩
      go_wp2_with fail
      go_ret
      exact ⟨rfl, below_drewN hbw10 (m11 + m12)⟩
end Go.Proofs.Ytbenoopgpgffjaa
