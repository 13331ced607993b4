/-
  What is proved: the law PackBack answers true, and nothing that was there has turned.
  Conditions: the arguments read as fields and as bytes; the second within the form's own reach.
-/
import Derived.Test.YtbenoopgpgffjaaReadsWalk
import Derived.Test.YtbenoopgpgffjaaBackLaws
namespace Go.Proofs.Ytbenoopgpgffjaa
open Go.RowKit

/-- What growing asks for a row of bytes a little beyond the reach: a quarter more. -/
theorem grow_quarter {need : Nat} (h : need ≤ 140737488660000) : ∀ old, old < need → Builtin.nextslicecap need old * 1 ≤ 281474976710656 := by
  intro old ho
  have h1 : Builtin.nextslicecap need old ≤ need + need / 4 + 600 := by
    unfold Builtin.nextslicecap
    split
    · omega
    · split
      · omega
      · rw [growBy_four]
        repeat' split
        all_goals omega
  omega

set_option maxHeartbeats 4000000 in
set_option maxRecDepth 100000 in
theorem back_walk (A : Option Addr) (n c : Nat) (l : List Pack.Fd) (A' : Option Addr) (m c' : Nat) (bs : List UInt8) (w : World) (hl : l.length = n) (hr : Rd w w.heap.size 3 A n (fsCells l))
    (hl' : bs.length = m) (hr' : Rd w w.heap.size 1 A' m (byteCells bs)) (hm : m ≤ 140737488351232) :
    Calls Try.prog 6 #[.slice A n c, .slice A' m c'] w (Fine w) := by
  by_cases hbig : 300 < n
  · have hbig1 : (300 : Int) < n := by omega
    go_enter Try.func6, Try.ntmps6
    go_wp2_with fail
    refine (alive_any _).mono ?_
    rintro e w1 ⟨rfl, hb1⟩
    go_wp2
    go_ret
    exact ⟨rfl, hb1⟩
  · have hbig1 : (n : Int) ≤ 300 := by omega
    have HE := hide fun w1 h1 => encode_any A n c l w1 hl h1 (by omega)
    have HK := hide fun w1 h1 => kinds_any A n c l w1 hl h1 (by omega)
    have HN := hide hl
    have HB := hide hl'
    clear hl hl'
    cases hx : Pack.encode l with
    | error er =>
      obtain ⟨z1, z2⟩ := encode_ne hx
      have HX := hide hx
      clear hx
      go_enter Try.func6, Try.ntmps6
      go_wp2_with fail
      refine (HE.out _ hr).mono ?_
      rintro e w1 ⟨hb1, he⟩
      rw [HX.out] at he
      simp only at he
      subst he
      clear hr hr'
      go_wp2_with fail
      refine (alive_any _).mono ?_
      rintro e w2 ⟨rfl, hb2⟩
      go_wp2
      go_ret
      exact ⟨rfl, hb1.trans (hb2.mono hb1.size)⟩
    | ok x =>
      have hxl := Pack.encode_le l hx
      rw [HN.out] at hxl
      have hxl2 : x.length ≤ 307800 := by omega
      have HD := hide (Pack.decode_encode hx)
      have HS := hide (Pack.some_encode l bs hx)
      have HX := hide hx
      obtain ⟨i0, hi, hz0, hz1, hz2⟩ := info_parts byteInfo
      clear hx hxl
      go_enter Try.func6, Try.ntmps6
      go_wp2_with fail
      refine (HE.out _ hr).mono ?_
      rintro e w1 ⟨hb1, he⟩
      rw [HX.out] at he
      simp only at he
      obtain ⟨v1, rfl, hown1⟩ := he
      obtain ⟨A1, c1, rfl, hn1, hm1⟩ := own_shape hown1
      have hx1 := Rd.of_own hown1
      have hr1 := hr.on hb1
      have hr1' := hr'.on hb1
      clear hown1 hr hr'
      go_wp2_with fail
      refine (HK.out _ hr1).mono ?_
      rintro e w2 ⟨v2, rfl, hown2, hb2⟩
      obtain ⟨A2, c2, rfl, _, _⟩ := own_shape hown2
      have hk2 := Rd.of_own hown2
      have hx2 := hx1.on hb2
      have hr2 := hr1.on hb2
      have hr2' := hr1'.on hb2
      clear hown2 hx1 hr1 hr1'
      go_wp2_with fail
      refine (decode_any A2 n c2 (l.map (·.k)) A1 x.length c1 x _ (by rw [List.length_map, HN.out]) hk2 (by omega) rfl hn1 hm1 hx2).mono ?_
      rintro e w3 ⟨hb3, he⟩
      rw [HD.out] at he
      simp only at he
      obtain ⟨v3, rfl, hown3⟩ := he
      obtain ⟨A3, c3, rfl, _, _⟩ := own_shape hown3
      have hf3 := Rd.of_own hown3
      have hx3 := hx2.on hb3
      have hr3 := hr2.on hb3
      have hr3' := hr2'.on hb3
      clear hown3 hx2 hr2 hr2' hk2
      go_wp2_with fail
      refine (HK.out _ hr3).mono ?_
      rintro e w4 ⟨v4, rfl, hown4, hb4⟩
      obtain ⟨A4, c4, rfl, _, _⟩ := own_shape hown4
      have hk4 := Rd.of_own hown4
      have hf4 := hf3.on hb4
      have hx4 := hx3.on hb4
      have hr4 := hr3.on hb4
      have hr4' := hr3'.on hb4
      clear hown4 hf3 hx3 hr3 hr3'
      have own0 : (w4.alloc (.cells #[] 5)).ownsRow w4.heap.size 5 1 (.slice (some ⟨w4.heap.size, 0, none⟩) 0 0) 0 (byteCells []) := own_lit w4 w4.heap.size #[] [] w4.heap.size 0 rfl (Nat.le_refl _) rfl (Nat.zero_le _) rfl
      have hxa := hx4.alloc' (.cells #[] 5)
      have ho1 := byteCells_one x
      have ho2 := byteCells_one bs
      go_wp2_with (at_builtin; refine wpList_append_rd _ rfl (.tmp 39) (.tmp 40) 24 rfl w4.heap.size 5 i0 (.int .u8 0) 1 1 Try.underlying24 hi hz0 hz1 hz2 rfl (by decide) _ 0 (byteCells []) rfl own0 _ A1 x.length c1 (byteCells x) rfl hxa ho1 ?c1 ?c2 ?c3 ?_)
      case c1 => unfold maxLen; omega
      case c2 => exact fit (by omega)
      case c3 => simp
      intro v5 w5 hown5 hg5 _
      have hb5 : Below w4.heap.size w4 w5 := below_append ((Below.refl _ _).alloc (Nat.le_refl _) _) own0 hg5 (Nat.le_refl _) (by simp)
      have hr5' := hr4'.on hb5
      have hz5 := hb5.size
      have hown6 : w5.ownsRow w4.heap.size 5 1 v5 x.length (byteCells x) := hown5
      clear hg5 own0 hxa ho1 hown5
      go_wp2_with (at_builtin; refine wpList_append_rd _ rfl (.tmp 41) (.tmp 42) 24 rfl w4.heap.size 5 i0 (.int .u8 0) 1 1 Try.underlying24 hi hz0 hz1 hz2 rfl (by decide) _ x.length (byteCells x) rfl hown6 _ A' m c' (byteCells bs) rfl hr5' ho2 ?d1 ?d2 hz5 ?_)
      case d1 => unfold maxLen; omega
      case d2 => exact grow_quarter (by omega)
      intro v6 w6 hown7 hg6 _
      have hb6 : Below w4.heap.size w4 w6 := below_append hb5 hown6 hg6 (Nat.le_refl _) hz5
      obtain ⟨A6, c6, rfl, hn6, hm6⟩ := own_shape hown7
      have hy6 := Rd.of_own hown7
      rw [← byteCells_append] at hy6
      have hk6 := hk4.on hb6
      have hr6 := hr4.on hb6
      have hf6 := hf4.on hb6
      have hz1 := hb1.size
      have hz2 := hb2.size
      have hz3 := hb3.size
      have hz4 := hb4.size
      have hbw : Below w.heap.size w w6 := hb1.trans ((hb2.mono (by omega)).trans ((hb3.mono (by omega)).trans ((hb4.mono (by omega)).trans (hb6.mono (by omega)))))
      clear hown7 hown6 hg6 hb5 hb6 hr5' hk4 hr4 hf4 hx4 hr4' hb1 hb2 hb3 hb4 hz1 hz2 hz3 hz4 hz5 ho2
      go_wp2_with fail
      refine (some_any A4 n c4 (l.map (·.k)) A6 (x.length + m) c6 (x ++ bs) _ (by rw [List.length_map, HN.out]) hk6 (by omega) (by rw [List.length_append, HB.out]) hn6 hm6 hy6).mono ?_
      rintro e w7 ⟨hb7, he⟩
      rw [HS.out] at he
      simp only at he
      obtain ⟨v7, rfl, hown7⟩ := he
      obtain ⟨A7, c7, rfl, _, _⟩ := own_shape hown7
      have hp7 := Rd.of_own hown7
      have hr7 := hr6.on hb7
      have hf7 := hf6.on hb7
      have hbw7 : Below w.heap.size w w7 := hbw.trans (hb7.mono hbw.size)
      clear hown7 hr6 hf6 hk6 hy6 hb7 hbw
      go_wp2_with fail
      refine (alive_any _).mono ?_
      rintro e w8 ⟨rfl, hb8⟩
      have hp8 := hp7.on hb8
      have hr8 := hr7.on hb8
      have hf8 := hf7.on hb8
      have hbw8 : Below w.heap.size w w8 := hbw7.trans (hb8.mono hbw7.size)
      clear hp7 hr7 hf7 hb8 hbw7
      rw [HN.out] at hf8 hp8
      go_wp2_with fail
      rw [HN.out]
      refine (same_any A A3 n c c3 l _ _ _ HN.out hr8 hf8 (by omega)).mono ?_
      rintro e w9 ⟨rfl, m9, rfl⟩
      go_wp2_with fail
      refine (same_any A7 A n c7 c l _ _ _ HN.out (hp8.drewN m9) (hr8.drewN m9) (by omega)).mono ?_
      rintro e w10 ⟨rfl, m10, rfl⟩
      go_wp2_with fail
      go_ret
      exact ⟨rfl, below_drewN hbw8 (m9 + m10)⟩
end Go.Proofs.Ytbenoopgpgffjaa
