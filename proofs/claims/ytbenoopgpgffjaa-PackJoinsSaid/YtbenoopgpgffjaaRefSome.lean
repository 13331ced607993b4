/-
  What is proved: 'harpsichordref02.Some' computes 'Pack.some_' and 'harpsichordref02.Decode' computes 'Pack.decode'.
  Conditions: at most 1000 kinds.
  (The round's cases were written by a program of this claim's own, wip/gen_refsome.py.)
-/
import Derived.Test.YtbenoopgpgffjaaSome
namespace Go.Proofs.Ytbenoopgpgffjaa
open Go.RowKit

set_option maxHeartbeats 4000000 in
set_option maxRecDepth 100000 in
theorem refsome_any (A : Option Addr) (n c : Nat) (ks : List Int) (A' : Option Addr) (m c' : Nat) (bs : List UInt8) (w : World) (hl : ks.length = n) (hr : Rd w w.heap.size 1 A n (intCells ks)) (hn : n ≤ 1000)
    (hl' : bs.length = m) (hmc : m ≤ c') (hcm : c' ≤ maxLen) (hr' : Rd w w.heap.size 1 A' m (byteCells bs)) :
    Calls Try.prog 16 #[.slice A n c, .slice A' m c'] w (Began w.heap.size w (Pack.some_ ks bs)) := by
  obtain ⟨i0, hi, hz0, hz1, hz2⟩ := info_parts fieldInfo
  have H := hide hl
  have H' := hide hl'
  unfold maxLen at hcm
  clear hl hl'
  go_enter Try.func16, Try.ntmps16
  go_wp2
  go_loopw [7, 8, 9] (fun v t i wr => ∃ (j a : Nat) (fs : List Pack.Fd), j ≤ n ∧ i = .int .i64 j ∧ t = .int .i64 a ∧ Hid (Pack.some_ (ks.take j) bs = .ok (fs, a)) ∧ wr.ownsRow w.heap.size 40 3 v fs.length (fsCells fs) ∧ Below w.heap.size w wr)
    (fun _ _ i _ => n - (intOf i).toNat)
  case atStart => exact ⟨0, 0, [], Nat.zero_le _, rfl, rfl, hide rfl, World.ownsRow_nil _ _ _ _, Below.refl _ _⟩
  case round =>
    obtain ⟨j, a, fs, hj, rfl, rfl, hx, hown, hb⟩ := hrel
    by_cases hlt : j < n
    · obtain ⟨b, off, rfl, hbb, c0⟩ := (hr.below hb).int_ H.out hlt
      have hsz := hb.size
      obtain ⟨ha, ha2, hfl⟩ : a ≤ m ∧ a ≤ 1032000 ∧ fs.length ≤ 1000 := by
        obtain ⟨h1, h2, h3⟩ := Pack.some_le _ _ hx.out
        have h4 : (ks.take j).length ≤ j := List.length_take_le _ _
        rw [H'.out] at h1
        omega
      have hjl : j < ks.length := by rw [H.out]; exact hlt
      obtain ⟨k, hkk⟩ : ∃ k, k = ks[j] := ⟨_, rfl⟩
      rw [← hkk] at c0
      have HK := hide hkk
      clear hkk
      have ERR : ∀ er : Int, Pack.dec1 k (bs.drop a) = .error er → Hid (Pack.some_ ks bs = .error er) := fun er hd => Pack.some_err ks bs j hjl hx.out (by rw [← HK.out]; exact hd)
      have NXT : ∀ (f : Pack.Fd) (s : Nat), Pack.dec1 k (bs.drop a) = .ok (f, s) → Hid (Pack.some_ (ks.take (j + 1)) bs = .ok (fs ++ [f], a + s)) := fun f s hd => Pack.some_ok ks bs j hjl hx.out (by rw [← HK.out]; exact hd)
      have hdl : (bs.drop a).length = m - a := by rw [List.length_drop, H'.out]
      have HDL := hide hdl
      have RERR := hide ERR
      have RNXT := hide NXT
      clear hdl ERR NXT
      by_cases hk1 : k = 1
      · subst hk1
        by_cases hfit : a + 1 ≤ m
        · have hca : ¬ c' = a := by omega
          obtain ⟨b', off', rfl, hbb', _⟩ := hr'.2 (by omega)
          have hcut0 := (hr'.on hb).cut (k := a) ha hmc
          rw [if_neg hca, Nat.mul_one, ← byteCells_drop] at hcut0
          simp only [Option.map_some, Addr.add_lit] at hcut0
          have hcut := (hcut0.take (k := 1) (by omega)).alloc' (.cells #[.int .i64 0, .int .i64 1, .int .i64 8, .int .i64 2, .int .i64 1] 3)
          rw [Nat.mul_one, ← byteCells_take] at hcut
          have HC := hide hcut
          have hlen : ((bs.drop a).take 1).length = 1 := by rw [List.length_take, HDL.out]; omega
          obtain ⟨y, hyy⟩ : ∃ y, y = Pack.num ((bs.drop a).take 1) := ⟨_, rfl⟩
          have hU := num_u64 ((bs.drop a).take 1) (by omega)
          have hS := num_lt ((bs.drop a).take 1)
          rw [hlen] at hS
          rw [← hyy] at hU hS
          have HL := hide hlen
          have HY := hide hyy
          have hfit1 : (a : Int) + 1 ≤ m := by omega
          clear hcut hcut0 hlen hyy hr hr'
          go_wp2_with fail
          refine (number_any _ 1 _ ((bs.drop a).take 1) _ _ HL.out HC.out (by omega)).mono ?_
          rintro e w1 ⟨rfl, rfl⟩
          rw [← HY.out]
          clear c0
          have E := RNXT.out ⟨1, (y : Int), Pack.empty⟩ 1 (by rw [dec_one _ (by rw [HDL.out]; omega), ← HY.out])
          have ho1 := (hown.alloc (.cells #[.int .i64 0, .int .i64 1, .int .i64 8, .int .i64 2, .int .i64 1] 3)).alloc (.cells #[.int .i64 1, .int .i64 (y : Int), .string ⟨#[]⟩] 40)
          clear RERR RNXT hown
          go_wp2_with (at_builtin; refine wpList_append_rd _ rfl (.tmp 65) (.tmp 70) 22 rfl w.heap.size 40 i0 _ 3 32 Try.underlying22 hi hz0 hz1 hz2 rfl (by decide) _ fs.length (fsCells fs) rfl ho1 _ _ 1 1 [.int .i64 1, .int .i64 (y : Int), .string ⟨#[]⟩] rfl (Rd.new _ #[.int .i64 1, .int .i64 (y : Int), .string ⟨#[]⟩] 40 3 1 (wr.heap.size + 1) (by simp) rfl) ?ca1 ?cb1 ?cc1 ?cd1 ?_)
          case ca1 => exact fsCells_one [⟨1, (y : Int), Pack.empty⟩]
          case cb1 => unfold maxLen; omega
          case cc1 => exact fit (by omega)
          case cd1 => simp; omega
          intro v2 w2 hown2 hg2 _
          have hb2 := below_append ((hb.alloc hsz _).alloc (by simp; omega) _) ho1 hg2 (Nat.le_refl _) (by simp; omega)
          have R : w2.ownsRow w.heap.size 40 3 v2 (fs ++ [(⟨1, (y : Int), Pack.empty⟩ : Pack.Fd)]).length (fsCells (fs ++ [(⟨1, (y : Int), Pack.empty⟩ : Pack.Fd)])) := by rw [List.length_append, fsCells_snoc]; exact hown2
          clear hown2 hg2 ho1
          go_wp2
          go_roundw
          case rel => exact ⟨j + 1, a + 1, fs ++ [⟨1, (y : Int), Pack.empty⟩], by omega, by go_num, by go_num, E, R, hb2⟩
          case measure => simp [intOf]; omega
        · have hsh1 : (m : Int) < a + 1 := by omega
          have E := RERR.out 20 (dec_end 1 1 _ rfl (by rw [HDL.out]; omega))
          clear RERR RNXT hown
          go_wp2
          go_ret3
          unfold Began
          rw [E.out]
          exact ⟨hb.alloc hsz _, rfl⟩
      · by_cases hk4 : k = 4
        · subst hk4
          by_cases hfit : a + 1 ≤ m
          · have hca : ¬ c' = a := by omega
            obtain ⟨b', off', rfl, hbb', _⟩ := hr'.2 (by omega)
            have hcut0 := (hr'.on hb).cut (k := a) ha hmc
            rw [if_neg hca, Nat.mul_one, ← byteCells_drop] at hcut0
            simp only [Option.map_some, Addr.add_lit] at hcut0
            have hcut := (hcut0.take (k := 1) (by omega)).alloc' (.cells #[.int .i64 0, .int .i64 1, .int .i64 8, .int .i64 2, .int .i64 1] 3)
            rw [Nat.mul_one, ← byteCells_take] at hcut
            have HC := hide hcut
            have hlen : ((bs.drop a).take 1).length = 1 := by rw [List.length_take, HDL.out]; omega
            obtain ⟨y, hyy⟩ : ∃ y, y = Pack.num ((bs.drop a).take 1) := ⟨_, rfl⟩
            have hU := num_u64 ((bs.drop a).take 1) (by omega)
            have hS := num_lt ((bs.drop a).take 1)
            rw [hlen] at hS
            rw [← hyy] at hU hS
            have HL := hide hlen
            have HY := hide hyy
            have hfit1 : (a : Int) + 1 ≤ m := by omega
            clear hcut hcut0 hlen hyy hr hr'
            by_cases hbig : 1 < y
            · have HB := hide hbig
              have hbig1 : (1 : Int) < y := by omega
              go_wp2_with fail
              refine (number_any _ 1 _ ((bs.drop a).take 1) _ _ HL.out HC.out (by omega)).mono ?_
              rintro e w1 ⟨rfl, rfl⟩
              rw [← HY.out]
              clear c0
              have E := RERR.out 21 (dec_four_big _ (by rw [HDL.out]; omega) (by rw [← HY.out]; exact HB.out))
              clear RERR RNXT hown
              go_wp2
              go_ret3
              unfold Began
              rw [E.out]
              exact ⟨hb.alloc hsz _, rfl⟩
            · have HB := hide hbig
              have hbig1 : (y : Int) ≤ 1 := by omega
              go_wp2_with fail
              refine (number_any _ 1 _ ((bs.drop a).take 1) _ _ HL.out HC.out (by omega)).mono ?_
              rintro e w1 ⟨rfl, rfl⟩
              rw [← HY.out]
              clear c0
              have E := RNXT.out ⟨4, (y : Int), Pack.empty⟩ 1 (by rw [dec_four _ (by rw [HDL.out]; omega) (by rw [← HY.out]; exact HB.out), ← HY.out])
              have ho1 := (hown.alloc (.cells #[.int .i64 0, .int .i64 1, .int .i64 8, .int .i64 2, .int .i64 1] 3)).alloc (.cells #[.int .i64 4, .int .i64 (y : Int), .string ⟨#[]⟩] 40)
              clear RERR RNXT hown
              go_wp2_with (at_builtin; refine wpList_append_rd _ rfl (.tmp 65) (.tmp 70) 22 rfl w.heap.size 40 i0 _ 3 32 Try.underlying22 hi hz0 hz1 hz2 rfl (by decide) _ fs.length (fsCells fs) rfl ho1 _ _ 1 1 [.int .i64 4, .int .i64 (y : Int), .string ⟨#[]⟩] rfl (Rd.new _ #[.int .i64 4, .int .i64 (y : Int), .string ⟨#[]⟩] 40 3 1 (wr.heap.size + 1) (by simp) rfl) ?ca2 ?cb2 ?cc2 ?cd2 ?_)
              case ca2 => exact fsCells_one [⟨4, (y : Int), Pack.empty⟩]
              case cb2 => unfold maxLen; omega
              case cc2 => exact fit (by omega)
              case cd2 => simp; omega
              intro v2 w2 hown2 hg2 _
              have hb2 := below_append ((hb.alloc hsz _).alloc (by simp; omega) _) ho1 hg2 (Nat.le_refl _) (by simp; omega)
              have R : w2.ownsRow w.heap.size 40 3 v2 (fs ++ [(⟨4, (y : Int), Pack.empty⟩ : Pack.Fd)]).length (fsCells (fs ++ [(⟨4, (y : Int), Pack.empty⟩ : Pack.Fd)])) := by rw [List.length_append, fsCells_snoc]; exact hown2
              clear hown2 hg2 ho1
              go_wp2
              go_roundw
              case rel => exact ⟨j + 1, a + 1, fs ++ [⟨4, (y : Int), Pack.empty⟩], by omega, by go_num, by go_num, E, R, hb2⟩
              case measure => simp [intOf]; omega
          · have hsh1 : (m : Int) < a + 1 := by omega
            have E := RERR.out 20 (dec_end 4 1 _ rfl (by rw [HDL.out]; omega))
            clear RERR RNXT hown
            go_wp2
            go_ret3
            unfold Began
            rw [E.out]
            exact ⟨hb.alloc hsz _, rfl⟩
        · by_cases hk2 : k = 2
          · subst hk2
            by_cases hfit : a + 8 ≤ m
            · have hca : ¬ c' = a := by omega
              obtain ⟨b', off', rfl, hbb', _⟩ := hr'.2 (by omega)
              have hcut0 := (hr'.on hb).cut (k := a) ha hmc
              rw [if_neg hca, Nat.mul_one, ← byteCells_drop] at hcut0
              simp only [Option.map_some, Addr.add_lit] at hcut0
              have hcut := (hcut0.take (k := 8) (by omega)).alloc' (.cells #[.int .i64 0, .int .i64 1, .int .i64 8, .int .i64 2, .int .i64 1] 3)
              rw [Nat.mul_one, ← byteCells_take] at hcut
              have HC := hide hcut
              have hlen : ((bs.drop a).take 8).length = 8 := by rw [List.length_take, HDL.out]; omega
              obtain ⟨y, hyy⟩ : ∃ y, y = Pack.num ((bs.drop a).take 8) := ⟨_, rfl⟩
              have hU := num_u64 ((bs.drop a).take 8) (by omega)
              have hS := num_lt ((bs.drop a).take 8)
              rw [hlen] at hS
              rw [← hyy] at hU hS
              have HL := hide hlen
              have HY := hide hyy
              have hfit1 : (a : Int) + 8 ≤ m := by omega
              clear hcut hcut0 hlen hyy hr hr'
              by_cases hbig : 4611686018427387904 < y
              · have HB := hide hbig
                have hbig1 : (4611686018427387904 : Int) < y := by omega
                go_wp2_with fail
                refine (number_any _ 8 _ ((bs.drop a).take 8) _ _ HL.out HC.out (by omega)).mono ?_
                rintro e w1 ⟨rfl, rfl⟩
                rw [← HY.out]
                clear c0
                have E := RERR.out 21 (dec_two_big _ (by rw [HDL.out]; omega) (by rw [← HY.out]; exact HB.out))
                clear RERR RNXT hown
                go_wp2
                go_ret3
                unfold Began
                rw [E.out]
                exact ⟨hb.alloc hsz _, rfl⟩
              · have HB := hide hbig
                have hbig1 : (y : Int) ≤ 4611686018427387904 := by omega
                go_wp2_with fail
                refine (number_any _ 8 _ ((bs.drop a).take 8) _ _ HL.out HC.out (by omega)).mono ?_
                rintro e w1 ⟨rfl, rfl⟩
                rw [← HY.out]
                clear c0
                have E := RNXT.out ⟨2, (y : Int), Pack.empty⟩ 8 (by rw [dec_two _ (by rw [HDL.out]; omega) (by rw [← HY.out]; exact HB.out), ← HY.out])
                have ho1 := (hown.alloc (.cells #[.int .i64 0, .int .i64 1, .int .i64 8, .int .i64 2, .int .i64 1] 3)).alloc (.cells #[.int .i64 2, .int .i64 (y : Int), .string ⟨#[]⟩] 40)
                clear RERR RNXT hown
                go_wp2_with (at_builtin; refine wpList_append_rd _ rfl (.tmp 65) (.tmp 70) 22 rfl w.heap.size 40 i0 _ 3 32 Try.underlying22 hi hz0 hz1 hz2 rfl (by decide) _ fs.length (fsCells fs) rfl ho1 _ _ 1 1 [.int .i64 2, .int .i64 (y : Int), .string ⟨#[]⟩] rfl (Rd.new _ #[.int .i64 2, .int .i64 (y : Int), .string ⟨#[]⟩] 40 3 1 (wr.heap.size + 1) (by simp) rfl) ?ca3 ?cb3 ?cc3 ?cd3 ?_)
                case ca3 => exact fsCells_one [⟨2, (y : Int), Pack.empty⟩]
                case cb3 => unfold maxLen; omega
                case cc3 => exact fit (by omega)
                case cd3 => simp; omega
                intro v2 w2 hown2 hg2 _
                have hb2 := below_append ((hb.alloc hsz _).alloc (by simp; omega) _) ho1 hg2 (Nat.le_refl _) (by simp; omega)
                have R : w2.ownsRow w.heap.size 40 3 v2 (fs ++ [(⟨2, (y : Int), Pack.empty⟩ : Pack.Fd)]).length (fsCells (fs ++ [(⟨2, (y : Int), Pack.empty⟩ : Pack.Fd)])) := by rw [List.length_append, fsCells_snoc]; exact hown2
                clear hown2 hg2 ho1
                go_wp2
                go_roundw
                case rel => exact ⟨j + 1, a + 8, fs ++ [⟨2, (y : Int), Pack.empty⟩], by omega, by go_num, by go_num, E, R, hb2⟩
                case measure => simp [intOf]; omega
            · have hsh1 : (m : Int) < a + 8 := by omega
              have E := RERR.out 20 (dec_end 2 8 _ rfl (by rw [HDL.out]; omega))
              clear RERR RNXT hown
              go_wp2
              go_ret3
              unfold Began
              rw [E.out]
              exact ⟨hb.alloc hsz _, rfl⟩
          · by_cases hk3 : k = 3
            · subst hk3
              by_cases hfit : a + 2 ≤ m
              · have hca : ¬ c' = a := by omega
                obtain ⟨b', off', rfl, hbb', _⟩ := hr'.2 (by omega)
                have hcut0 := (hr'.on hb).cut (k := a) ha hmc
                rw [if_neg hca, Nat.mul_one, ← byteCells_drop] at hcut0
                simp only [Option.map_some, Addr.add_lit] at hcut0
                have hcut := (hcut0.take (k := 2) (by omega)).alloc' (.cells #[.int .i64 0, .int .i64 1, .int .i64 8, .int .i64 2, .int .i64 1] 3)
                rw [Nat.mul_one, ← byteCells_take] at hcut
                have HC := hide hcut
                have hlen : ((bs.drop a).take 2).length = 2 := by rw [List.length_take, HDL.out]; omega
                obtain ⟨y, hyy⟩ : ∃ y, y = Pack.num ((bs.drop a).take 2) := ⟨_, rfl⟩
                have hU := num_u64 ((bs.drop a).take 2) (by omega)
                have hS := num_lt ((bs.drop a).take 2)
                rw [hlen] at hS
                rw [← hyy] at hU hS
                have HL := hide hlen
                have HY := hide hyy
                have hfit1 : (a : Int) + 2 ≤ m := by omega
                have HC0 := hide hcut0
                clear hcut hcut0 hlen hyy hr hr'
                by_cases hbig : 1024 < y
                · have HB := hide hbig
                  have hbig1 : (1024 : Int) < y := by omega
                  go_wp2_with fail
                  refine (number_any _ 2 _ ((bs.drop a).take 2) _ _ HL.out HC.out (by omega)).mono ?_
                  rintro e w1 ⟨rfl, rfl⟩
                  rw [← HY.out]
                  clear c0
                  have E := RERR.out 22 (dec_three_long _ (by rw [HDL.out]; omega) (by rw [← HY.out]; exact HB.out))
                  clear RERR RNXT hown
                  go_wp2
                  go_ret3
                  unfold Began
                  rw [E.out]
                  exact ⟨hb.alloc hsz _, rfl⟩
                · have HB := hide hbig
                  have hbig1 : (y : Int) ≤ 1024 := by omega
                  by_cases hend : m - a - 2 < y
                  · have HE := hide hend
                    have hend1 : (m : Int) < a + 2 + y := by omega
                    go_wp2_with fail
                    refine (number_any _ 2 _ ((bs.drop a).take 2) _ _ HL.out HC.out (by omega)).mono ?_
                    rintro e w1 ⟨rfl, rfl⟩
                    rw [← HY.out]
                    clear c0
                    have E := RERR.out 20 (dec_three_end _ (by rw [HDL.out]; omega) (by rw [← HY.out]; exact HB.out) (by rw [← HY.out, HDL.out]; exact HE.out))
                    clear RERR RNXT hown
                    go_wp2
                    go_ret3
                    unfold Began
                    rw [E.out]
                    exact ⟨hb.alloc hsz _, rfl⟩
                  · have HE := hide hend
                    have hend1 : (a : Int) + 2 + y ≤ m := by omega
                    have HT := hide (dec_three (bs.drop a) (by rw [HDL.out]; omega) (by rw [← HY.out]; exact HB.out) (by rw [← HY.out, HDL.out]; exact HE.out))
                    by_cases hc2 : c' = a + 2
                    · have hy0 : y = 0 := by omega
                      subst hy0
                      have hstr := run_str (l := []) (c := 0) (Rd.nil_ (wr.alloc (.cells #[.int .i64 0, .int .i64 1, .int .i64 8, .int .i64 2, .int .i64 1] 3)) 0 1 (some ⟨b', off', none⟩))
                      have HT2 : Hid (Pack.dec1 3 (bs.drop a) = .ok (⟨3, 0, Pack.ofBl []⟩, 2)) := by
                        have h := HT.out
                        rw [← HY.out] at h
                        exact h
                      subst hc2
                      go_wp2_with fail
                      refine (number_any _ 2 _ ((bs.drop a).take 2) _ _ HL.out HC.out (by omega)).mono ?_
                      rintro e w1 ⟨rfl, rfl⟩
                      rw [← HY.out]
                      clear c0
                      have E := RNXT.out ⟨3, 0, Pack.ofBl []⟩ 2 (HT2.out)
                      have ho1 := (hown.alloc (.cells #[.int .i64 0, .int .i64 1, .int .i64 8, .int .i64 2, .int .i64 1] 3)).alloc (.cells #[.int .i64 3, .int .i64 0, .string (Pack.ofBl [])] 40)
                      clear RERR RNXT hown
                      go_wp2_with (at_builtin; refine wpList_append_rd _ rfl (.tmp 81) (.tmp 91) 22 rfl w.heap.size 40 i0 _ 3 32 Try.underlying22 hi hz0 hz1 hz2 rfl (by decide) _ fs.length (fsCells fs) rfl ho1 _ _ 1 1 [.int .i64 3, .int .i64 0, .string (Pack.ofBl [])] rfl (Rd.new _ #[.int .i64 3, .int .i64 0, .string (Pack.ofBl [])] 40 3 1 (wr.heap.size + 1) (by simp) rfl) ?ca4 ?cb4 ?cc4 ?cd4 ?_)
                      case ca4 => exact fsCells_one [⟨3, 0, Pack.ofBl []⟩]
                      case cb4 => unfold maxLen; omega
                      case cc4 => exact fit (by omega)
                      case cd4 => simp; omega
                      intro v2 w2 hown2 hg2 _
                      have hb2 := below_append ((hb.alloc hsz _).alloc (by simp; omega) _) ho1 hg2 (Nat.le_refl _) (by simp; omega)
                      have R : w2.ownsRow w.heap.size 40 3 v2 (fs ++ [(⟨3, 0, Pack.ofBl []⟩ : Pack.Fd)]).length (fsCells (fs ++ [(⟨3, 0, Pack.ofBl []⟩ : Pack.Fd)])) := by rw [List.length_append, fsCells_snoc]; exact hown2
                      clear hown2 hg2 ho1
                      go_wp2
                      go_roundw
                      case rel => exact ⟨j + 1, a + 2, fs ++ [⟨3, 0, Pack.ofBl []⟩], by omega, by go_num, by go_num, E, R, hb2⟩
                      case measure => simp [intOf]; omega
                    · have hcut := ((HC0.out.cut (k := 2) (cap := c' - a) (by omega) (by omega)).take (k := y) (by omega)).alloc' (.cells #[.int .i64 0, .int .i64 1, .int .i64 8, .int .i64 2, .int .i64 1] 3)
                      rw [if_neg (by omega), Nat.mul_one, Nat.mul_one, ← byteCells_drop, ← byteCells_take] at hcut
                      simp only [Option.map_some, Addr.add_lit, Nat.add_assoc] at hcut
                      have hstr := run_str (c := c' - (a + 2)) hcut
                      obtain ⟨T, hTT⟩ : ∃ T, T = Pack.ofBl (((bs.drop a).drop 2).take y) := ⟨_, rfl⟩
                      rw [← hTT] at hstr
                      have HTT := hide hTT
                      clear hcut HC0 hTT
                      go_wp2_with fail
                      refine (number_any _ 2 _ ((bs.drop a).take 2) _ _ HL.out HC.out (by omega)).mono ?_
                      rintro e w1 ⟨rfl, rfl⟩
                      rw [← HY.out]
                      clear c0
                      have E := RNXT.out ⟨3, 0, T⟩ (2 + y) (by rw [HT.out, ← HY.out, HTT.out])
                      have ho1 := (hown.alloc (.cells #[.int .i64 0, .int .i64 1, .int .i64 8, .int .i64 2, .int .i64 1] 3)).alloc (.cells #[.int .i64 3, .int .i64 0, .string T] 40)
                      clear RERR RNXT hown
                      go_wp2_with (at_builtin; refine wpList_append_rd _ rfl (.tmp 81) (.tmp 91) 22 rfl w.heap.size 40 i0 _ 3 32 Try.underlying22 hi hz0 hz1 hz2 rfl (by decide) _ fs.length (fsCells fs) rfl ho1 _ _ 1 1 [.int .i64 3, .int .i64 0, .string T] rfl (Rd.new _ #[.int .i64 3, .int .i64 0, .string T] 40 3 1 (wr.heap.size + 1) (by simp) rfl) ?ca5 ?cb5 ?cc5 ?cd5 ?_)
                      case ca5 => exact fsCells_one [⟨3, 0, T⟩]
                      case cb5 => unfold maxLen; omega
                      case cc5 => exact fit (by omega)
                      case cd5 => simp; omega
                      intro v2 w2 hown2 hg2 _
                      have hb2 := below_append ((hb.alloc hsz _).alloc (by simp; omega) _) ho1 hg2 (Nat.le_refl _) (by simp; omega)
                      have R : w2.ownsRow w.heap.size 40 3 v2 (fs ++ [(⟨3, 0, T⟩ : Pack.Fd)]).length (fsCells (fs ++ [(⟨3, 0, T⟩ : Pack.Fd)])) := by rw [List.length_append, fsCells_snoc]; exact hown2
                      clear hown2 hg2 ho1
                      go_wp2
                      go_roundw
                      case rel => exact ⟨j + 1, a + (2 + y), fs ++ [⟨3, 0, T⟩], by omega, by go_num, by go_num, E, R, hb2⟩
                      case measure => simp [intOf]; omega
              · have hsh1 : (m : Int) < a + 2 := by omega
                have E := RERR.out 20 (dec_end 3 2 _ rfl (by rw [HDL.out]; omega))
                clear RERR RNXT hown
                go_wp2
                go_ret3
                unfold Began
                rw [E.out]
                exact ⟨hb.alloc hsz _, rfl⟩
            · have hd := dec_none k (bs.drop a) (by unfold Pack.sizeOf; rw [if_neg hk1, if_neg hk4, if_neg hk2, if_neg hk3])
              have E := RERR.out 21 hd
              clear RERR RNXT hown hd
              by_cases hk0 : k < 1
              · go_wp2
                go_ret3
                unfold Began
                rw [E.out]
                exact ⟨hb, rfl⟩
              · have hk5 : 4 < k := by omega
                go_wp2
                go_ret3
                unfold Began
                rw [E.out]
                exact ⟨hb, rfl⟩
    · have hjn : j = n := by omega
      subst hjn
      rw [List.take_of_length_le (by rw [H.out]; exact Nat.le_refl _)] at hx
      go_wp2
      go_ret3
      unfold Began
      rw [hx.out]
      exact ⟨hb, _, rfl, hown⟩
end Go.Proofs.Ytbenoopgpgffjaa
