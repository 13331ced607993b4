/-
  What is proved: the statement PackJoinsSaid: whatever the input, the law PackJoins of the package pack returns true, and each argument reads behind the call as it read before.
  Conditions: none beyond the statement's own.
-/
import Derived.Test.YtbenoopgpgffjaaJoinsAllWalk
import Derived.Test.YtbenoopgpgffjaaOpen
namespace Go.Proofs.Ytbenoopgpgffjaa.lawPackJoins
open Go.ChangeShapes Go.WideShapes Go.ChangeAt Go.RowKit

set_option maxRecDepth 100000 in
theorem lifted (os : Os) (started : os.Started) (H : Type) (enc : TypeId × Value → H) :
    ReturnsInHanded {} Try.checked os 8 .any (Rows.packJoinsSpec.pre6 enc Try.prog Try.f8 Rows.packJoinsRow.domain false) (Rows.packJoinsSpec.post enc Try.prog Try.f8 false true false false) := by
  refine returnsInHanded_of_change_sized (C := Try.checked) Try.own started (by kernel_rfl) Try.func8
    (ChangeSpec.witness6 (enc := enc) (C := Try.checked) false ⟨#[], #[.slice none 0 0, .slice none 0 0], []⟩ 8 (by kernel_rfl) (by kernel_rfl) (by kernel_rfl) (by kernel_rfl)) ?_
  intro W base args ds gs before hval0 hW _ hsz0 _
  have hsz : (DataW.weightsEach Try.prog (Try.f8.params.toList ++ Rows.packJoinsSpec.plain.varTypes Try.prog) (ds ++ gs)).all (· ≤ reachBytes) = true := hsz0
  clear hsz0
  have hval : ∀ (j : Nat) t v, Try.f8.params[j]? = some t → args[j]? = some v → Value.okWide Try.prog W .any base t v := hval0
  have hW' := hW
  obtain ⟨p, q, hA0, hV, rfl, _, _⟩ := hW
  have hA : DataW.TrodAll enc Try.prog W 0 (fun _ => true) true Try.f8.params.toList args.toList ds p := hA0
  rw [Try.params8] at hA hval hsz
  obtain ⟨v0, v1, d0, d1, p0, p1, rfl, rfl, rfl, h0, h1⟩ := trodAll_two hA
  obtain ⟨rfl, rfl⟩ := trodVars_none hV
  clear hA0 hval0 hA
  simp only [List.append_nil] at hW'
  have hlt0 : ∀ x ∈ p0, x.block < W.heap.size := fun x hx => by simpa using hW'.lt x (by simp [hx])
  obtain ⟨A0, n0, c0, l0, rfl, hl0, hnc0, hcm0, hr0, hd0⟩ := open_fields (hval 0 22 v0 rfl rfl) h0
  have hreach0 : n0 * 32 ≤ 140737488351232 := by
    rcases hd0 with h | ⟨elems, spare, rfl, hle⟩
    · omega
    · have h2 := sized_slice hsz (j := 0) (t := 22) (e := 40) rfl rfl Try.underlying22
      rw [Try.bytes40] at h2
      simp only [reachBytes] at h2
      omega
  have hlt1 : ∀ x ∈ p1, x.block < W.heap.size := fun x hx => by simpa using hW'.lt x (by simp [hx])
  obtain ⟨A1, n1, c1, l1, rfl, hl1, hnc1, hcm1, hr1, hd1⟩ := open_fields (hval 1 22 v1 rfl rfl) h1
  have hreach1 : n1 * 32 ≤ 140737488351232 := by
    rcases hd1 with h | ⟨elems, spare, rfl, hle⟩
    · omega
    · have h2 := sized_slice hsz (j := 1) (t := 22) (e := 40) rfl rfl Try.underlying22
      rw [Try.bytes40] at h2
      simp only [reachBytes] at h2
      omega
  refine (joins_walk A0 n0 c0 l0 A1 n1 c1 l1 W hl0 hr0 hl1 hr1).mono fun e W' ⟨he, hb⟩ => ?_
  subst he
  exact ⟨_, rfl, _, _, _, [], p0 ++ p1, [], hW', trodAll_mk1 (shut_bool Try.underlying4 _), trodAll_mk2 (Below.trod Try.laidOut (by kernel_rfl) (of_decide_eq_true (by kernel_rfl)) h0 hb hlt0) (Below.trod Try.laidOut (by kernel_rfl) (of_decide_eq_true (by kernel_rfl)) h1 hb hlt1), rfl, hb.frame _, fun h => by cases h⟩

theorem proved : Rows.PackJoinsSaid :=
  OpenClaim.holds_of_wide 8 Try.f8 rfl rfl rfl rfl rfl rfl rfl ⟨rfl, rfl, rfl, rfl, rfl⟩ rfl rfl rfl rfl rfl (by kernel_rfl) Try.func8 (by kernel_rfl)
    (of_decide_eq_true (by kernel_rfl)) (by unfold Func.isWrapper; first | (rw [if_pos (by decide +kernel)]; kernel_rfl) | (rw [if_neg (by decide +kernel)]; exact ⟨rfl, rfl⟩))
    (fun os started H enc _ => lifted os started H enc)

#print axioms proved
end Go.Proofs.Ytbenoopgpgffjaa.lawPackJoins

