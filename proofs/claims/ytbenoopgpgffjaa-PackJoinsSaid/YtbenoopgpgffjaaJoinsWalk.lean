/-
  What is proved: the law PackJoins answers true, and nothing that was there has turned.
  Conditions: both arguments read as fields.
-/
import Derived.Test.YtbenoopgpgffjaaReadsWalk
import Derived.Test.YtbenoopgpgffjaaBackLaws
import Derived.Deep.RegionWith
namespace Go.Proofs.Ytbenoopgpgffjaa
open Go.RowKit

theorem wrote_any {B : Nat} {w : World} {r : Except Int (List UInt8)} {e : Ending} {w' : World} (h : Wrote B w r e w') : Below B w w' ∧ ∃ v er, e = .returned (.tuple #[v, .int .i64 er]) := by
  obtain ⟨hb, he⟩ := h
  refine ⟨hb, ?_⟩
  cases r with
  | ok x => obtain ⟨v, rfl, _⟩ := he; exact ⟨v, 0, rfl⟩
  | error er => exact ⟨_, er, he⟩

/-- The joined list, as it is made: an empty row of fields, a behind it, b behind that. -/
theorem own_none (w : World) : (w.alloc (.cells #[] 40)).ownsRow w.heap.size 40 3 (.slice (some ⟨w.heap.size, 0, none⟩) 0 0) 0 (fsCells []) :=
  World.ownsRow_lit w #[] 0 (Nat.le_refl _) (Nat.zero_le _) rfl

set_option maxHeartbeats 4000000 in
set_option maxRecDepth 100000 in
theorem joins_big (A : Option Addr) (n c : Nat) (A' : Option Addr) (m c' : Nat) (w : World) (hbig : 200 < n ∨ 200 < m) : Calls Try.prog 8 #[.slice A n c, .slice A' m c'] w (Fine w) := by
  by_cases h1 : 200 < n
  · have h2 : (200 : Int) < n := by omega
    clear hbig
    go_enter Try.func8, Try.ntmps8
    go_wp2_with fail
    refine (alive_any _).mono ?_
    rintro e w1 ⟨rfl, hb1⟩
    go_wp2
    go_ret
    exact ⟨rfl, hb1⟩
  · have h2 : (n : Int) ≤ 200 := by omega
    have h3 : (200 : Int) < m := by omega
    clear hbig h1
    go_enter Try.func8, Try.ntmps8
    go_wp2_with fail
    refine (alive_any _).mono ?_
    rintro e w1 ⟨rfl, hb1⟩
    go_wp2
    go_ret
    exact ⟨rfl, hb1⟩

set_option maxHeartbeats 4000000 in
set_option maxRecDepth 100000 in
theorem joins_bad (A : Option Addr) (n c : Nat) (l : List Pack.Fd) (A' : Option Addr) (m c' : Nat) (l' : List Pack.Fd) (w : World) (hl : l.length = n) (hr : Rd w w.heap.size 3 A n (fsCells l))
    (hl' : l'.length = m) (hr' : Rd w w.heap.size 3 A' m (fsCells l')) (hn : n ≤ 200) (hm : m ≤ 200) (er : Int) (hz : Pack.encode (l ++ l') = .error er)
    (hor : (∃ e1, Pack.encode l = .error e1) ∨ ∃ x e2, Pack.encode l = .ok x ∧ Pack.encode l' = .error e2) : Calls Try.prog 8 #[.slice A n c, .slice A' m c'] w (Fine w) := by
  have h1 : (n : Int) ≤ 200 := by omega
  have h2 : (m : Int) ≤ 200 := by omega
  have HE := hide fun w1 h1 => encode_any A n c l w1 hl h1 (by omega)
  have HF := hide fun w1 h1 => encode_any A' m c' l' w1 hl' h1 (by omega)
  have HG := hide fun A3 c3 w1 h1 => encode_any A3 (n + m) c3 (l ++ l') w1 (by rw [List.length_append, hl, hl']) h1 (by omega)
  have ho1 := fsCells_one l
  have ho2 := fsCells_one l'
  obtain ⟨i0, hi, hz0, hz1, hz2⟩ := info_parts fieldInfo
  obtain ⟨y1, y2⟩ := encode_ne hz
  have HZ := hide hz
  clear hl hl' hz
  rcases hor with ⟨e1, hx⟩ | ⟨x, e2, hx, hy⟩
  · obtain ⟨z1, z2⟩ := encode_ne hx
    have HX := hide hx
    clear hx
    go_enter Try.func8, Try.ntmps8
    go_wp2_with fail
    refine (HE.out _ hr).mono ?_
    rintro e w1 ⟨hb1, he⟩
    rw [HX.out] at he
    simp only at he
    subst he
    have hr1 := hr.on hb1
    have hr1' := hr'.on hb1
    clear hr hr'
    go_wp2_with fail
    refine (HF.out _ hr1').mono ?_
    intro e w2 hw2
    obtain ⟨hb2, v2, f2, rfl⟩ := wrote_any hw2
    have hr2 := hr1.on hb2
    have hr2' := hr1'.on hb2
    clear hr1 hr1' hw2
    have own0 := own_none w2
    have hra := hr2.alloc' (.cells #[] 40)
    go_wp2_with (at_builtin; refine wpList_append_rd _ rfl (.tmp 36) (.tmp 37) 22 rfl w2.heap.size 40 i0 _ 3 32 Try.underlying22 hi hz0 hz1 hz2 rfl (by decide) _ 0 (fsCells []) rfl own0 _ A n c (fsCells l) rfl hra ho1 ?c1 ?c2 ?c3 ?_)
    case c1 => unfold maxLen; omega
    case c2 => exact fit (by omega)
    case c3 => simp
    intro v3 w3 hown3 hg3 _
    have hb3 : Below w2.heap.size w2 w3 := below_append ((Below.refl _ _).alloc (Nat.le_refl _) _) own0 hg3 (Nat.le_refl _) (by simp)
    have hr3' := hr2'.on hb3
    have hs3 := hb3.size
    have hown4 : w3.ownsRow w2.heap.size 40 3 v3 n (fsCells l) := hown3
    clear hg3 own0 hra hown3 hr2 hr2'
    go_wp2_with (at_builtin; refine wpList_append_rd _ rfl (.tmp 38) (.tmp 39) 22 rfl w2.heap.size 40 i0 _ 3 32 Try.underlying22 hi hz0 hz1 hz2 rfl (by decide) _ n (fsCells l) rfl hown4 _ A' m c' (fsCells l') rfl hr3' ho2 ?d1 ?d2 hs3 ?_)
    case d1 => unfold maxLen; omega
    case d2 => exact fit (by omega)
    intro v4 w4 hown5 hg4 _
    have hb4 : Below w2.heap.size w2 w4 := below_append hb3 hown4 hg4 (Nat.le_refl _) hs3
    obtain ⟨A4, c4, rfl, _, _⟩ := own_shape hown5
    have hl4 := Rd.of_own hown5
    rw [← fsCells_append] at hl4
    have hs1 := hb1.size
    have hs2 := hb2.size
    have hbw : Below w.heap.size w w4 := hb1.trans ((hb2.mono hs1).trans (hb4.mono (by omega)))
    clear hg4 hown4 hown5 hr3' hb1 hb2 hb3 hb4 ho1 ho2 hs1 hs2 hs3
    go_wp2_with fail
    refine (HG.out A4 c4 _ hl4).mono ?_
    rintro e w5 ⟨hb5, he⟩
    rw [HZ.out] at he
    simp only at he
    subst he
    have hbw5 := hbw.trans (hb5.mono hbw.size)
    clear hb5 hbw hl4
    go_wp2_with fail
    refine (alive_any _).mono ?_
    rintro e w6 ⟨rfl, hb6⟩
    go_wp2_with fail
    go_ret
    exact ⟨rfl, hbw5.trans (hb6.mono hbw5.size)⟩
  · obtain ⟨z1, z2⟩ := encode_ne hy
    have HX := hide hx
    have HY := hide hy
    clear hx hy
    go_enter Try.func8, Try.ntmps8
    go_wp2_with fail
    refine (HE.out _ hr).mono ?_
    rintro e w1 ⟨hb1, he⟩
    rw [HX.out] at he
    simp only at he
    obtain ⟨v1, rfl, _⟩ := he
    have hr1 := hr.on hb1
    have hr1' := hr'.on hb1
    clear hr hr'
    go_wp2_with fail
    refine (HF.out _ hr1').mono ?_
    rintro e w2 ⟨hb2, he⟩
    rw [HY.out] at he
    simp only at he
    subst he
    have hr2 := hr1.on hb2
    have hr2' := hr1'.on hb2
    clear hr1 hr1'
    have own0 := own_none w2
    have hra := hr2.alloc' (.cells #[] 40)
    go_wp2_with (at_builtin; refine wpList_append_rd _ rfl (.tmp 36) (.tmp 37) 22 rfl w2.heap.size 40 i0 _ 3 32 Try.underlying22 hi hz0 hz1 hz2 rfl (by decide) _ 0 (fsCells []) rfl own0 _ A n c (fsCells l) rfl hra ho1 ?e1 ?e2 ?e3 ?_)
    case e1 => unfold maxLen; omega
    case e2 => exact fit (by omega)
    case e3 => simp
    intro v3 w3 hown3 hg3 _
    have hb3 : Below w2.heap.size w2 w3 := below_append ((Below.refl _ _).alloc (Nat.le_refl _) _) own0 hg3 (Nat.le_refl _) (by simp)
    have hr3' := hr2'.on hb3
    have hs3 := hb3.size
    have hown4 : w3.ownsRow w2.heap.size 40 3 v3 n (fsCells l) := hown3
    clear hg3 own0 hra hown3 hr2 hr2'
    go_wp2_with (at_builtin; refine wpList_append_rd _ rfl (.tmp 38) (.tmp 39) 22 rfl w2.heap.size 40 i0 _ 3 32 Try.underlying22 hi hz0 hz1 hz2 rfl (by decide) _ n (fsCells l) rfl hown4 _ A' m c' (fsCells l') rfl hr3' ho2 ?f1 ?f2 hs3 ?_)
    case f1 => unfold maxLen; omega
    case f2 => exact fit (by omega)
    intro v4 w4 hown5 hg4 _
    have hb4 : Below w2.heap.size w2 w4 := below_append hb3 hown4 hg4 (Nat.le_refl _) hs3
    obtain ⟨A4, c4, rfl, _, _⟩ := own_shape hown5
    have hl4 := Rd.of_own hown5
    rw [← fsCells_append] at hl4
    have hs1 := hb1.size
    have hs2 := hb2.size
    have hbw : Below w.heap.size w w4 := hb1.trans ((hb2.mono hs1).trans (hb4.mono (by omega)))
    clear hg4 hown4 hown5 hr3' hb1 hb2 hb3 hb4 ho1 ho2 hs1 hs2 hs3
    go_wp2_with fail
    refine (HG.out A4 c4 _ hl4).mono ?_
    rintro e w5 ⟨hb5, he⟩
    rw [HZ.out] at he
    simp only at he
    subst he
    have hbw5 := hbw.trans (hb5.mono hbw.size)
    clear hb5 hbw hl4
    go_wp2_with fail
    refine (alive_any _).mono ?_
    rintro e w6 ⟨rfl, hb6⟩
    go_wp2_with fail
    go_ret
    exact ⟨rfl, hbw5.trans (hb6.mono hbw5.size)⟩
end Go.Proofs.Ytbenoopgpgffjaa
