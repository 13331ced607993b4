/-
  What is proved: 'pack.Some' computes 'Pack.some_' and 'pack.Decode' computes 'Pack.decode'.
  Conditions: at most 1000 kinds.
-/
import Derived.Test.YtbenoopgpgffjaaNextAll
namespace Go.Proofs.Ytbenoopgpgffjaa
open Go.RowKit

/-- What reading a beginning answers: fields of the call's own and how many bytes they have, or nothing and the error. -/
def Began (B : Nat) (w : World) (r : Except Int (List Pack.Fd × Nat)) (e : Ending) (w' : World) : Prop :=
  Below B w w' ∧ match r with
    | .ok (fs, n) => ∃ v, e = .returned (.tuple #[v, .int .i64 n, .int .i64 0]) ∧ w'.ownsRow B 40 3 v fs.length (fsCells fs)
    | .error er => e = .returned (.tuple #[.slice none 0 0, .int .i64 0, .int .i64 er])
/-- What reading the whole answers. -/
def Told (B : Nat) (w : World) (r : Except Int (List Pack.Fd)) (e : Ending) (w' : World) : Prop :=
  Below B w w' ∧ match r with
    | .ok fs => ∃ v, e = .returned (.tuple #[v, .int .i64 0]) ∧ w'.ownsRow B 40 3 v fs.length (fsCells fs)
    | .error er => e = .returned (.tuple #[.slice none 0 0, .int .i64 er])

theorem dec1_ne {k : Int} {b : List UInt8} {e : Int} (h : Pack.dec1 k b = .error e) : ((e == 0) = false) ∧ ((e != 0) = true) := by
  rcases Pack.dec1_errs h with rfl | rfl | rfl <;> exact ⟨rfl, rfl⟩

theorem Rd.int_ {w : World} {B : Nat} {A : Option Addr} {n : Nat} {l : List Int} (h : Rd w B 1 A n (intCells l)) (hn : l.length = n) {k : Nat} (hk : k < n) :
    ∃ b off, A = some ⟨b, off, none⟩ ∧ b < B ∧ w.cell? ⟨b, off + k, none⟩ = some (.int .i64 (l[k]'(by omega))) := by
  obtain ⟨b, off, e, hb, hc⟩ := h.2 (by omega)
  exact ⟨b, off, e, hb, hc k _ (intCells_get l k (by omega))⟩

theorem fsCells_snoc (fs : List Pack.Fd) (f : Pack.Fd) : fsCells (fs ++ [f]) = fsCells fs ++ [.int .i64 f.k, .int .i64 f.n, .string f.s] := by simp [fsCells, fdCells]

set_option maxHeartbeats 1000000 in
set_option maxRecDepth 100000 in
theorem some_any (A : Option Addr) (n c : Nat) (ks : List Int) (A' : Option Addr) (m c' : Nat) (bs : List UInt8) (w : World) (hl : ks.length = n) (hr : Rd w w.heap.size 1 A n (intCells ks)) (hn : n ≤ 1000)
    (hl' : bs.length = m) (hmc : m ≤ c') (hcm : c' ≤ maxLen) (hr' : Rd w w.heap.size 1 A' m (byteCells bs)) :
    Calls Try.prog 15 #[.slice A n c, .slice A' m c'] w (Began w.heap.size w (Pack.some_ ks bs)) := by
  obtain ⟨i0, hi, hz0, hz1, hz2⟩ := info_parts fieldInfo
  have H := hide hl
  have H' := hide hl'
  have hcm0 := hcm
  unfold maxLen at hcm
  clear hl hl'
  go_enter Try.func15, Try.ntmps15
  go_wp2
  go_loopw [7, 8, 16] (fun v t i wr => ∃ (j a : Nat) (fs : List Pack.Fd), j ≤ n ∧ i = .int .i64 j ∧ t = .int .i64 a ∧ Hid (Pack.some_ (ks.take j) bs = .ok (fs, a)) ∧ wr.ownsRow w.heap.size 40 3 v fs.length (fsCells fs) ∧ Below w.heap.size w wr)
    (fun _ _ i _ => n - (intOf i).toNat)
  case atStart => exact ⟨0, 0, [], Nat.zero_le _, rfl, rfl, hide rfl, World.ownsRow_nil _ _ _ _, Below.refl _ _⟩
  case round =>
    obtain ⟨j, a, fs, hj, rfl, rfl, hx, hown, hb⟩ := hrel
    by_cases hlt : j < n
    · obtain ⟨b, off, rfl, hbb, c0⟩ := (hr.below hb).int_ H.out hlt
      have hsz := hb.size
      obtain ⟨ha, hfl⟩ : a ≤ m ∧ fs.length ≤ 1000 := by
        obtain ⟨h1, h2, h3⟩ := Pack.some_le _ _ hx.out
        have h4 : (ks.take j).length ≤ j := List.length_take_le _ _
        rw [H'.out] at h1
        omega
      have hjl : j < ks.length := by rw [H.out]; exact hlt
      obtain ⟨k, hkk⟩ : ∃ k, k = ks[j] := ⟨_, rfl⟩
      rw [← hkk] at c0
      have HK := hide hkk
      clear hkk
      have hcut := (hr'.on hb).cut (k := a) ha hmc
      rw [Nat.mul_one, ← byteCells_drop] at hcut
      have ha0 : (0 : Int) ≤ a := by omega
      have ha1 : (a : Int) ≤ m := by omega
      by_cases hca : c' = a
      · have hnil : bs.drop a = [] := List.drop_eq_nil_of_le (by rw [H'.out]; omega)
        clear hcut
        subst hca
        have hk1 : k = ks[j] := HK.out
        cases hd : Pack.dec1 k [] with
        | ok q =>
          obtain ⟨f, s⟩ := q
          have hsl := (Pack.dec1_le hd).1
          simp only [List.length_nil] at hsl
          have E : Hid (Pack.some_ (ks.take (j + 1)) bs = .ok (fs ++ [f], c' + s)) := Pack.some_ok ks bs j hjl hx.out (by rw [← hk1, hnil]; exact hd)
          have HD := hide hd
          clear hd hk1 hnil
          go_wp2_with fail
          refine (next_any k _ 0 _ [] wr rfl (by omega) (by unfold maxLen; omega) (Rd.nil_ _ _ _ _)).mono ?_
          rintro e w1 ⟨he, hb1⟩
          rw [HD.out] at he
          simp only [nextVal] at he
          subst he
          have ho1 := ((own_below (hown.kept (World.grownBy.refl wr none) (by cases hv : u7.ownBlock <;> simp)) hb1).alloc (.cells #[.int .i64 f.k, .int .i64 f.n, .string f.s] 40)).alloc (.cells #[.int .i64 f.k, .int .i64 f.n, .string f.s] 40)
          have hbw : Below w.heap.size w w1 := hb.trans (hb1.mono hsz)
          have hz : w.heap.size ≤ w1.heap.size := hbw.size
          clear hown hb hb1 hr hr' c0
          go_wp2_with (at_builtin; refine wpList_append_rd _ rfl (.tmp 32) (.tmp 34) 22 rfl w.heap.size 40 i0 _ 3 32 Try.underlying22 hi hz0 hz1 hz2 rfl (by decide) _ fs.length (fsCells fs) rfl ho1 _ _ 1 1 [.int .i64 f.k, .int .i64 f.n, .string f.s] rfl (Rd.new _ #[.int .i64 f.k, .int .i64 f.n, .string f.s] 40 3 1 (w1.heap.size + 1) (by simp) rfl) ?_ ?_ ?_ ?_ ?_)
          · exact fsCells_one [f]
          · unfold maxLen; omega
          · exact fit (by omega)
          · simp; omega
          intro v2 w2 hown2 hg2 _
          have hb2 := below_append (((hbw.alloc hz _).alloc (by simp; omega) _)) ho1 hg2 (Nat.le_refl _) (by simp; omega)
          have R : w2.ownsRow w.heap.size 40 3 v2 (fs ++ [f]).length (fsCells (fs ++ [f])) := by rw [List.length_append, fsCells_snoc]; exact hown2
          clear hown2 hg2 ho1 hbw
          go_wp2
          go_roundw
          case rel => exact ⟨j + 1, c' + s, fs ++ [f], by omega, by go_num, by go_num, E, R, hb2⟩
          case measure => simp [intOf]; omega
        | error er =>
          have E : Hid (Pack.some_ ks bs = .error er) := Pack.some_err ks bs j hjl hx.out (by rw [← hk1, hnil]; exact hd)
          obtain ⟨e1, e2⟩ := dec1_ne hd
          have HD := hide hd
          clear hd hk1 hnil
          go_wp2_with fail
          refine (next_any k _ 0 _ [] wr rfl (by omega) (by unfold maxLen; omega) (Rd.nil_ _ _ _ _)).mono ?_
          rintro e w1 ⟨he, hb1⟩
          rw [HD.out] at he
          simp only [nextVal] at he
          subst he
          go_wp2
          go_ret3
          unfold Began
          rw [E.out]
          exact ⟨(hb.trans (hb1.mono hsz)).alloc (by have := hb1.size; omega) _, rfl⟩
      · have HOUT : Hid (Rd wr wr.heap.size 1 (A'.map (·.add a)) (m - a) (byteCells (bs.drop a))) := by rw [if_neg hca] at hcut; exact hcut
        clear hcut
        have hk1 : k = ks[j] := HK.out
        cases hd : Pack.dec1 k (bs.drop a) with
        | ok q =>
          obtain ⟨f, s⟩ := q
          have hsl := (Pack.dec1_le hd).1
          rw [List.length_drop, H'.out] at hsl
          have E : Hid (Pack.some_ (ks.take (j + 1)) bs = .ok (fs ++ [f], a + s)) := Pack.some_ok ks bs j hjl hx.out (by rw [← hk1]; exact hd)
          have HD := hide hd
          clear hd hk1
          go_wp2_with fail
          refine (next_any k _ (m - a) _ (bs.drop a) wr (by rw [List.length_drop, H'.out]) (by omega) (by unfold maxLen; omega) HOUT.out).mono ?_
          rintro e w1 ⟨he, hb1⟩
          rw [HD.out] at he
          simp only [nextVal] at he
          subst he
          have ho1 := ((own_below (hown.kept (World.grownBy.refl wr none) (by cases hv : u7.ownBlock <;> simp)) hb1).alloc (.cells #[.int .i64 f.k, .int .i64 f.n, .string f.s] 40)).alloc (.cells #[.int .i64 f.k, .int .i64 f.n, .string f.s] 40)
          have hbw : Below w.heap.size w w1 := hb.trans (hb1.mono hsz)
          have hz : w.heap.size ≤ w1.heap.size := hbw.size
          clear hown hb hb1 HOUT hr hr' c0
          go_wp2_with (at_builtin; refine wpList_append_rd _ rfl (.tmp 32) (.tmp 34) 22 rfl w.heap.size 40 i0 _ 3 32 Try.underlying22 hi hz0 hz1 hz2 rfl (by decide) _ fs.length (fsCells fs) rfl ho1 _ _ 1 1 [.int .i64 f.k, .int .i64 f.n, .string f.s] rfl (Rd.new _ #[.int .i64 f.k, .int .i64 f.n, .string f.s] 40 3 1 (w1.heap.size + 1) (by simp) rfl) ?_ ?_ ?_ ?_ ?_)
          · exact fsCells_one [f]
          · unfold maxLen; omega
          · exact fit (by omega)
          · simp; omega
          intro v2 w2 hown2 hg2 _
          have hb2 := below_append (((hbw.alloc hz _).alloc (by simp; omega) _)) ho1 hg2 (Nat.le_refl _) (by simp; omega)
          have R : w2.ownsRow w.heap.size 40 3 v2 (fs ++ [f]).length (fsCells (fs ++ [f])) := by rw [List.length_append, fsCells_snoc]; exact hown2
          clear hown2 hg2 ho1 hbw
          go_wp2
          go_roundw
          case rel => exact ⟨j + 1, a + s, fs ++ [f], by omega, by go_num, by go_num, E, R, hb2⟩
          case measure => simp [intOf]; omega
        | error er =>
          have E : Hid (Pack.some_ ks bs = .error er) := Pack.some_err ks bs j hjl hx.out (by rw [← hk1]; exact hd)
          obtain ⟨e1, e2⟩ := dec1_ne hd
          have HD := hide hd
          clear hd hk1
          go_wp2_with fail
          refine (next_any k _ (m - a) _ (bs.drop a) wr (by rw [List.length_drop, H'.out]) (by omega) (by unfold maxLen; omega) HOUT.out).mono ?_
          rintro e w1 ⟨he, hb1⟩
          rw [HD.out] at he
          simp only [nextVal] at he
          subst he
          go_wp2
          go_ret3
          unfold Began
          rw [E.out]
          exact ⟨(hb.trans (hb1.mono hsz)).alloc (by have := hb1.size; omega) _, rfl⟩
    · have hjn : j = n := by omega
      subst hjn
      rw [List.take_of_length_le (by rw [H.out]; exact Nat.le_refl _)] at hx
      go_wp2
      go_ret3
      unfold Began
      rw [hx.out]
      exact ⟨hb, _, rfl, hown⟩
theorem some_ne {ks : List Int} {b : List UInt8} {e : Int} (h : Pack.some_ ks b = .error e) : ((e == 0) = false) ∧ ((e != 0) = true) := by
  rcases Pack.some_errs ks b h with rfl | rfl | rfl <;> exact ⟨rfl, rfl⟩
theorem beq_of_lt {a m : Nat} (h : a < m) : ((a : Int) == m) = false ∧ ((a : Int) != m) = true := by
  have : ¬ (a : Int) = m := by omega
  exact ⟨by simpa using this, by simpa using this⟩

set_option maxHeartbeats 1000000 in
set_option maxRecDepth 100000 in
theorem decode_any (A : Option Addr) (n c : Nat) (ks : List Int) (A' : Option Addr) (m c' : Nat) (bs : List UInt8) (w : World) (hl : ks.length = n) (hr : Rd w w.heap.size 1 A n (intCells ks)) (hn : n ≤ 1000)
    (hl' : bs.length = m) (hmc : m ≤ c') (hcm : c' ≤ maxLen) (hr' : Rd w w.heap.size 1 A' m (byteCells bs)) :
    Calls Try.prog 13 #[.slice A n c, .slice A' m c'] w (Told w.heap.size w (Pack.decode ks bs)) := by
  have hS := hide (some_any A n c ks A' m c' bs w hl hr hn hl' hmc hcm hr')
  have H' := hide hl'
  clear hl hl' hr hr'
  unfold maxLen at hcm
  cases hx : Pack.some_ ks bs with
  | error er =>
    have HX := hide hx
    obtain ⟨e1, e2⟩ := some_ne hx
    clear hx
    go_enter Try.func13, Try.ntmps13
    go_wp2_with fail
    refine hS.out.mono ?_
    rintro e w1 ⟨hb1, he⟩
    rw [HX.out] at he
    simp only at he
    subst he
    go_wp2
    go_ret2
    unfold Told Pack.decode
    rw [HX.out]
    exact ⟨hb1, rfl⟩
  | ok q =>
    obtain ⟨fs, a⟩ := q
    have HX := hide hx
    obtain ⟨ha1, _, _⟩ := Pack.some_le _ _ hx
    rw [H'.out] at ha1
    clear hx
    by_cases hlt : a < m
    · have hlt1 : (a : Int) < m := by omega
      have hlt2 := beq_of_lt hlt
      have HLT := hide hlt
      go_enter Try.func13, Try.ntmps13
      go_wp2_with fail
      refine hS.out.mono ?_
      rintro e w1 ⟨hb1, he⟩
      rw [HX.out] at he
      simp only at he
      obtain ⟨v, rfl, hown⟩ := he
      go_wp2
      go_ret2
      unfold Told Pack.decode
      rw [HX.out]
      simp only
      rw [if_pos (by rw [H'.out]; exact HLT.out)]
      exact ⟨hb1, rfl⟩
    · have ham : a = m := by omega
      subst ham
      go_enter Try.func13, Try.ntmps13
      go_wp2_with fail
      refine hS.out.mono ?_
      rintro e w1 ⟨hb1, he⟩
      rw [HX.out] at he
      simp only at he
      obtain ⟨v, rfl, hown⟩ := he
      go_wp2
      go_ret2
      unfold Told Pack.decode
      rw [HX.out]
      simp only
      rw [if_neg (by rw [H'.out]; omega)]
      exact ⟨hb1, _, rfl, hown⟩
end Go.Proofs.Ytbenoopgpgffjaa
