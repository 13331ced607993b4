/-
  What is proved: the law PackCuts answers true, and nothing that was there has turned.
  Conditions: the first argument reads as fields; the second is an int.
-/
import Derived.Test.YtbenoopgpgffjaaReadsWalk
import Derived.Test.YtbenoopgpgffjaaBackLaws
import Derived.Deep.RegionWith
namespace Go.Proofs.Ytbenoopgpgffjaa
open Go.RowKit

set_option maxHeartbeats 4000000 in
set_option maxRecDepth 100000 in
theorem cuts_walk (A : Option Addr) (n c : Nat) (l : List Pack.Fd) (cut : Int) (w : World) (hl : l.length = n) (hr : Rd w w.heap.size 3 A n (fsCells l)) (hw : (Lit.int .i64 cut).wf = true) :
    Calls Try.prog 7 #[.slice A n c, .int .i64 cut] w (Fine w) := by
  have hrange : -9223372036854775808 ≤ cut ∧ cut ≤ 9223372036854775807 := by simpa [Lit.wf, IntKind.min, IntKind.max, IntKind.signed, IntKind.bits] using hw
  clear hw
  by_cases hbig : 300 < n
  · have hbig1 : (300 : Int) < n := by omega
    go_enter Try.func7, Try.ntmps7
    go_wp2_with fail
    refine (alive_any _).mono ?_
    rintro e w1 ⟨rfl, hb1⟩
    go_wp2
    go_ret
    exact ⟨rfl, hb1⟩
  · have hbig1 : (n : Int) ≤ 300 := by omega
    have HE := hide fun w1 h1 => encode_any A n c l w1 hl h1 (by omega)
    have HK := hide fun w1 h1 => kinds_any A n c l w1 hl h1 (by omega)
    have HN := hide hl
    clear hl
    cases hx : Pack.encode l with
    | error er =>
      obtain ⟨z1, z2⟩ := encode_ne hx
      have HX := hide hx
      clear hx
      go_enter Try.func7, Try.ntmps7
      go_wp2_with fail
      refine (HE.out _ hr).mono ?_
      rintro e w1 ⟨hb1, he⟩
      rw [HX.out] at he
      simp only at he
      subst he
      clear hr
      go_wp2_with fail
      refine (alive_any _).mono ?_
      rintro e w2 ⟨rfl, hb2⟩
      go_wp2
      go_ret
      exact ⟨rfl, hb1.trans (hb2.mono hb1.size)⟩
    | ok x =>
      have hxl := Pack.encode_le l hx
      rw [HN.out] at hxl
      have hxl2 : x.length ≤ 307800 := by omega
      have HX := hide hx
      by_cases hout : cut < 0 ∨ (x.length : Int) ≤ cut
      · clear hx hxl
        by_cases h0 : cut < 0
        · clear hout
          go_enter Try.func7, Try.ntmps7
          go_wp2_with fail
          refine (HE.out _ hr).mono ?_
          rintro e w1 ⟨hb1, he⟩
          rw [HX.out] at he
          simp only at he
          obtain ⟨v1, rfl, hown1⟩ := he
          obtain ⟨A1, c1, rfl, hn1, hm1⟩ := own_shape hown1
          clear hr hown1
          go_wp2_with fail
          refine (alive_any _).mono ?_
          rintro e w2 ⟨rfl, hb2⟩
          go_wp2
          go_ret
          exact ⟨rfl, hb1.trans (hb2.mono hb1.size)⟩
        · have h1 : (x.length : Int) ≤ cut := by omega
          have h2 : 0 ≤ cut := by omega
          clear hout h0
          go_enter Try.func7, Try.ntmps7
          go_wp2_with fail
          refine (HE.out _ hr).mono ?_
          rintro e w1 ⟨hb1, he⟩
          rw [HX.out] at he
          simp only at he
          obtain ⟨v1, rfl, hown1⟩ := he
          obtain ⟨A1, c1, rfl, hn1, hm1⟩ := own_shape hown1
          clear hr hown1
          go_wp2_with fail
          refine (alive_any _).mono ?_
          rintro e w2 ⟨rfl, hb2⟩
          go_wp2
          go_ret
          exact ⟨rfl, hb1.trans (hb2.mono hb1.size)⟩
      · obtain ⟨j, rfl⟩ := Int.eq_ofNat_of_zero_le (show 0 ≤ cut by omega)
        have hj : j < x.length := by omega
        have HD := hide (Pack.decode_cut hx hj)
        have h1 : (j : Int) < x.length := by omega
        have h2 : (0 : Int) ≤ j := by omega
        clear hout hx hxl hrange
        go_enter Try.func7, Try.ntmps7
        go_wp2_with fail
        refine (HE.out _ hr).mono ?_
        rintro e w1 ⟨hb1, he⟩
        rw [HX.out] at he
        simp only at he
        obtain ⟨v1, rfl, hown1⟩ := he
        obtain ⟨A1, c1, rfl, hn1, hm1⟩ := own_shape hown1
        have hx1 := Rd.of_own hown1
        obtain ⟨b, off, rfl, _, _⟩ := hx1.2 (by omega)
        have hr1 := hr.on hb1
        have hr1d := Rd.drew' hr1
        have hx1d := Rd.drew' hx1
        have hjc : (j : Int) ≤ c1 := by omega
        clear hown1 hr hx1 hr1
        go_wp2_with fail
        go_region_with (first
          | (go_at_call 18; refine (HK.out _ hr1d).mono ?_; rintro e w2 ⟨v2, rfl, hown2, hb2⟩; obtain ⟨A2, c2, rfl, _, _⟩ := own_shape hown2; have hk2 := Rd.of_own hown2; have hx2 := hx1d.on hb2; clear hown2)
          | (go_at_call 13; refine (decode_any A2 n c2 (l.map (·.k)) (some ⟨b, off, none⟩) j c1 (x.take j) _ (by rw [List.length_map, HN.out]) hk2 (by omega) (by rw [List.length_take]; omega) (by omega) hm1 (by rw [byteCells_take]; have h := hx2.take (k := j) (by omega); rw [Nat.mul_one] at h; exact h)).mono ?_; rintro e w3 ⟨hb3, he⟩; rw [HD.out] at he; simp only at he; subst he))
        have hbw : Below w.heap.size w w3 := by
          have s1 := hb1.size
          have s2 : w1.heap.size ≤ w2.heap.size := hb2.size
          exact (hb1.drew).trans ((hb2.mono s1).trans (hb3.mono (Nat.le_trans s1 s2)))
        clear hb1 hb2 hb3 hr1d hx1d hk2 hx2
        go_wp2_with fail
        refine (alive_any _).mono ?_
        rintro e w4 ⟨rfl, hb4⟩
        go_wp2_with fail
        go_ret
        exact ⟨rfl, hbw.trans (hb4.mono hbw.size)⟩
end Go.Proofs.Ytbenoopgpgffjaa
