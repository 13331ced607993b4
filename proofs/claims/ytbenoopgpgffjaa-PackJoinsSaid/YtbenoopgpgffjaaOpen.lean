/-
  What is proved: what it means that the laws' arguments read as data: a slice of fields, of numbers, of bytes, each as a plain list.
  Conditions: none beyond each statement's own premises.
-/
import Derived.Test.YtbenoopgpgffjaaMem
import Derived.ProofKit
import Derived.SizedLaws
import Derived.Deep.Slices
import Derived.Deep.Fields
import Derived.ChangeSame
namespace Go.Proofs.Ytbenoopgpgffjaa
open Go.ChangeShapes Go.WideShapes Go.ChangeAt Go.RowKit Go.Deep

theorem Try.own : ownKnob Try.prog.godebug = none := by kernel_rfl
theorem Try.laidOut : laidOutB Try.prog = true := by kernel_rfl
theorem Try.cells3 : Try.prog.cellsOf 3 = 1 := by kernel_rfl
theorem Try.cells5 : Try.prog.cellsOf 5 = 1 := by kernel_rfl
theorem Try.cells40 : Try.prog.cellsOf 40 = 3 := by kernel_rfl
theorem Try.bytes40 : Try.prog.bytesOf 40 = 32 := by kernel_rfl
theorem Try.bytes5 : Try.prog.bytesOf 5 = 1 := by kernel_rfl

section
variable {H : Type} {enc : TypeId × Value → H} {P : Program} {w : World} {base : Nat} {spare : Nat → Bool} {held : Bool}
theorem open_slice_fields {t e : TypeId} {fs : Array Field} {fuel : Nat} {cs : List Value} {x : DataW H × List MemPlace} (ht : P.underlying t = some (.slice e)) (he : P.underlying e = some (.struct fs))
    (hone : oneCellFields P fs = true) (hC : P.cellsOf e = fs.size) (h : DataW.trod enc P w base spare held fuel t cs = some x) :
    (cs = [.slice none 0 0] ∧ x = (.nil, [])) ∨
    ∃ (a : Addr) (len cap m : Nat) (D : Nat → DataW H) (Pl : Nat → List MemPlace), cs = [.slice (some a) len cap] ∧ base ≤ a.block ∧ len ≤ cap ∧ cap ≤ maxLen ∧ m = (if spare a.block then cap else len) ∧
      x = (.slice ((List.range len).map D) ((List.range (m - len)).map fun j => D (len + j)), MemPlace.row a (m * fs.size) ++ (List.range m).flatMap Pl) ∧
      ∀ i, i < m → ∃ (ys : List (DataW H × List MemPlace)) (n : Nat), D i = .agg (ys.map (·.1)) ∧ Pl i = ys.flatMap (·.2) ∧ ys.length = fs.size ∧
        ∀ (j : Nat) (f : Field), fs[j]? = some f → ∃ (v : Value) (y : DataW H × List MemPlace), w.cell? (a.add (i * fs.size + j)) = some v ∧ ys[j]? = some y ∧ DataW.trod enc P w base spare held n f.type [v] = some y := by
  rcases open_slice ht h with h0 | ⟨a, len, cap, m, n, D, Pl, hcs, hb, hl, hm, hmm, hx, hi⟩
  · exact .inl h0
  · refine .inr ⟨a, len, cap, m, D, Pl, hcs, hb, hl, hm, hmm, by rw [hC] at hx; exact hx, fun i him => ?_⟩
    obtain ⟨cs', hc, ht'⟩ := hi i him
    rw [hC] at hc
    obtain ⟨ys, n', hn', hy, hlen, hyl, hf⟩ := DataW.trod_struct he ht'
    obtain ⟨_, hcl, hat⟩ := World.cells?_some hc
    simp only [Prod.mk.injEq] at hy
    refine ⟨ys, n', hy.1, hy.2, hyl, fun j f hj => ?_⟩
    obtain ⟨ho, hk⟩ := hone_of hone j f hj
    have hjl : j < fs.size := (Array.getElem?_eq_some_iff.1 hj).1
    have hcell := hat j hjl
    have hv : cs'[j]? = some (cs'[j]'(by omega)) := List.getElem?_eq_getElem (by omega)
    have h1 := hf j f hj
    rw [ho, hk] at h1
    have hone' : (cs'.drop j).take 1 = [cs'[j]'(by omega)] := by
      rw [List.drop_eq_getElem_cons (by omega)]
      rfl
    rw [hone'] at h1
    have hys : ys[j]? = some (ys[j]'(by omega)) := List.getElem?_eq_getElem (by omega)
    refine ⟨_, _, ?_, hys, h1.trans hys⟩
    rw [← Go.Deep.add_add, hcell, hv]
end

theorem fsCells_at (l : List Pack.Fd) (i j : Nat) (hi : i < l.length) (hj : j < 3) {u : Value} (h : (fsCells l)[i * 3 + j]? = some u) : (fdCells l[i])[j]? = some u := by
  rw [← fsCells_get l i j hi hj]; exact h

/-- an address at which a cell lies is a plain one -/
theorem plain_of {w : World} {a : Addr} {u : Value} (h : w.cell? (a.add 0) = some u) : ∃ b off, a = ⟨b, off, none⟩ ∧ b < w.heap.size := by
  obtain ⟨b, off, spot⟩ := a
  have hspot : spot = none := by simpa [Addr.add] using World.cell?_spot h
  subst hspot
  refine ⟨b, off, rfl, ?_⟩
  have h2 := World.block_lt_of_cell? w _ h
  rw [Addr.add_lit] at h2
  exact h2

section
variable {H : Type} {enc : TypeId × Value → H} {w : World} {base : Nat} {r : Reach} {bb : Nat}

/-- A slice of fields that came in. -/
theorem open_fields {v : Value} {d : DataW H} {p : List MemPlace} (hv : Value.okWide Try.prog w r bb 22 v) (h : DataW.Trod enc Try.prog w base (fun _ => true) true 22 v d p) :
    ∃ (A : Option Addr) (n c : Nat) (l : List Pack.Fd), v = .slice A n c ∧ l.length = n ∧ n ≤ c ∧ c ≤ maxLen ∧ Rd w w.heap.size 3 A n (fsCells l) ∧
      (n = 0 ∨ ∃ elems spare, d = .slice elems spare ∧ n ≤ elems.length) := by
  obtain ⟨A, n, c, rfl⟩ := okWide_slice Try.underlying22 hv
  obtain ⟨fuel, hf⟩ := h
  rcases open_slice_fields Try.underlying22 Try.underlying40 (by kernel_rfl) (by kernel_rfl) hf with ⟨hcs, hx⟩ | ⟨a, len, cap, m, D, Pl, hcs, hb, hl, hm, hmm, hx, hi⟩
  · simp [Value.cells] at hcs
    obtain ⟨rfl, rfl, rfl⟩ := hcs
    exact ⟨none, 0, 0, [], rfl, rfl, Nat.le_refl _, Nat.zero_le _, Rd.nil_ _ _ _ _, .inl rfl⟩
  · simp [Value.cells] at hcs
    obtain ⟨rfl, rfl, rfl⟩ := hcs
    simp only [Prod.mk.injEq] at hx
    obtain ⟨rfl, _⟩ := hx
    simp only [if_true] at hmm
    subst hmm
    have each : ∀ i, i < n → ∃ f : Pack.Fd, w.cell? (a.add (i * 3)) = some (.int .i64 f.k) ∧ w.cell? (a.add (i * 3 + 1)) = some (.int .i64 f.n) ∧ w.cell? (a.add (i * 3 + 2)) = some (.string f.s) := by
      intro i hin
      obtain ⟨ys, fu, _, _, hys, hfld⟩ := hi i (by omega)
      obtain ⟨v0, y0, c0, _, t0⟩ := hfld 0 _ rfl
      obtain ⟨v1, y1, c1, _, t1⟩ := hfld 1 _ rfl
      obtain ⟨v2, y2, c2, _, t2⟩ := hfld 2 _ rfl
      obtain ⟨z0, e0, _, _⟩ := DataW.trod_int Try.underlying3 t0
      obtain ⟨z1, e1, _, _⟩ := DataW.trod_int Try.underlying3 t1
      obtain ⟨s2, e2, _, _⟩ := DataW.trod_string Try.underlying9 t2
      injection e0 with e0
      injection e1 with e1
      injection e2 with e2
      subst e0
      subst e1
      subst e2
      exact ⟨⟨z0, z1, s2⟩, c0, c1, c2⟩
    obtain ⟨q, hq⟩ : ∃ q : Nat → Pack.Fd, ∀ i, i < n → w.cell? (a.add (i * 3)) = some (.int .i64 (q i).k) ∧ w.cell? (a.add (i * 3 + 1)) = some (.int .i64 (q i).n) ∧ w.cell? (a.add (i * 3 + 2)) = some (.string (q i).s) := by
      refine ⟨fun i => if h : i < n then (each i h).choose else ⟨0, 0, Pack.empty⟩, fun i h => ?_⟩
      simp only [dif_pos h]
      exact (each i h).choose_spec
    refine ⟨some a, n, m, (List.range n).map q, rfl, by simp, hl, hm, ⟨by rw [fsCells_length]; simp, fun hn => ?_⟩, .inr ⟨_, _, rfl, by simp⟩⟩
    obtain ⟨b, off, rfl, hbw⟩ := plain_of (hq 0 hn).1
    refine ⟨b, off, rfl, hbw, fun j u hu => ?_⟩
    have hj : j < n * 3 := by
      have h1 := (List.getElem?_eq_some_iff.1 hu).1
      rw [fsCells_length] at h1
      simpa using h1
    obtain ⟨i, k, rfl, hk⟩ : ∃ i k, j = i * 3 + k ∧ k < 3 := ⟨j / 3, j % 3, by omega, Nat.mod_lt _ (by omega)⟩
    have hin : i < n := by omega
    have hu2 := fsCells_at _ i k (by simpa using hin) hk hu
    simp only [List.getElem_map, List.getElem_range, fdCells] at hu2
    obtain ⟨q0, q1, q2⟩ := hq i hin
    rw [Addr.add_lit] at q0 q1 q2
    have hk3 : k = 0 ∨ k = 1 ∨ k = 2 := by omega
    rcases hk3 with rfl | rfl | rfl
    · rw [show off + (i * 3 + 0) = off + i * 3 by omega, q0]; simpa using hu2
    · rw [q1]; simpa using hu2
    · rw [q2]; simpa using hu2

/-- A slice of numbers that came in. -/
theorem open_nums {v : Value} {d : DataW H} {p : List MemPlace} (hv : Value.okWide Try.prog w r bb 29 v) (h : DataW.Trod enc Try.prog w base (fun _ => true) true 29 v d p) :
    ∃ (A : Option Addr) (n c : Nat) (l : List Int), v = .slice A n c ∧ l.length = n ∧ n ≤ c ∧ c ≤ maxLen ∧ Rd w w.heap.size 1 A n (intCells l) := by
  obtain ⟨A, n, c, rfl⟩ := okWide_slice Try.underlying29 hv
  obtain ⟨fuel, hf⟩ := h
  rcases open_ints Try.underlying29 Try.underlying3 Try.cells3 hf with ⟨hcs, hx⟩ | ⟨a, len, cap, zs, hcs, _, hl, hm, hz, hx, hcell, hwz⟩
  · simp [Value.cells] at hcs
    obtain ⟨rfl, rfl, rfl⟩ := hcs
    exact ⟨none, 0, 0, [], rfl, rfl, Nat.le_refl _, Nat.zero_le _, Rd.nil_ _ _ _ _⟩
  · simp [Value.cells] at hcs
    obtain ⟨rfl, rfl, rfl⟩ := hcs
    simp only [if_true] at hz
    refine ⟨some a, n, c, zs.take n, rfl, by rw [List.length_take]; omega, hl, hm, by rw [intCells_length, List.length_take]; omega, fun hn => ?_⟩
    obtain ⟨b, off, rfl, hbw⟩ := plain_of (hcell 0 (by omega))
    refine ⟨b, off, rfl, hbw, fun j u hu => ?_⟩
    have hj : j < n := by
      have h1 := (List.getElem?_eq_some_iff.1 hu).1
      rw [intCells_length, List.length_take] at h1
      omega
    have h2 := hcell j (by omega)
    rw [Addr.add_lit] at h2
    rw [h2, ← hu, intCells_get _ j (by rw [List.length_take]; omega)]
    simp [List.getD, List.getElem?_eq_getElem (show j < zs.length by omega)]

/-- A slice of bytes that came in. -/
theorem open_byts {v : Value} {d : DataW H} {p : List MemPlace} (hv : Value.okWide Try.prog w r bb 24 v) (h : DataW.Trod enc Try.prog w base (fun _ => true) true 24 v d p) :
    ∃ (A : Option Addr) (n c : Nat) (l : List UInt8), v = .slice A n c ∧ l.length = n ∧ n ≤ c ∧ c ≤ maxLen ∧ Rd w w.heap.size 1 A n (byteCells l) ∧
      (n = 0 ∨ ∃ elems spare, d = .slice elems spare ∧ n ≤ elems.length) := by
  obtain ⟨A, n, c, rfl⟩ := okWide_slice Try.underlying24 hv
  obtain ⟨fuel, hf⟩ := h
  rcases open_ints Try.underlying24 Try.underlying5 Try.cells5 hf with ⟨hcs, hx⟩ | ⟨a, len, cap, zs, hcs, _, hl, hm, hz, hx, hcell, hwz⟩
  · simp [Value.cells] at hcs
    obtain ⟨rfl, rfl, rfl⟩ := hcs
    exact ⟨none, 0, 0, [], rfl, rfl, Nat.le_refl _, Nat.zero_le _, Rd.nil_ _ _ _ _, .inl rfl⟩
  · simp [Value.cells] at hcs
    obtain ⟨rfl, rfl, rfl⟩ := hcs
    simp only [if_true] at hz
    simp only [Prod.mk.injEq] at hx
    obtain ⟨rfl, _⟩ := hx
    have hb : ∀ j, (hj : j < zs.length) → ((UInt8.ofNat zs[j].toNat).toNat : Int) = zs[j] := by
      intro j hj
      have h1 := hwz zs[j] (List.getElem_mem hj)
      have h2 : 0 ≤ zs[j] ∧ zs[j] ≤ 255 := by simpa [Lit.wf, IntKind.min, IntKind.max, IntKind.signed, IntKind.bits] using h1
      simp
      omega
    refine ⟨some a, n, c, (zs.take n).map fun z => UInt8.ofNat z.toNat, rfl, by rw [List.length_map, List.length_take]; omega, hl, hm, ⟨by rw [byteCells_length, List.length_map, List.length_take]; omega, fun hn => ?_⟩,
      .inr ⟨_, _, rfl, by simp [lits]; omega⟩⟩
    obtain ⟨b, off, rfl, hbw⟩ := plain_of (hcell 0 (by omega))
    refine ⟨b, off, rfl, hbw, fun j u hu => ?_⟩
    have hj : j < n := by
      have h1 := (List.getElem?_eq_some_iff.1 hu).1
      rw [byteCells_length, List.length_map, List.length_take] at h1
      omega
    have h2 := hcell j (by omega)
    rw [Addr.add_lit] at h2
    have hjz : j < zs.length := by omega
    rw [h2, ← hu, byteCells_get _ j (by rw [List.length_map, List.length_take]; omega)]
    simp only [List.getElem_map, List.getElem_take, hb j hjz]
    simp [List.getD, List.getElem?_eq_getElem hjz]
end
end Go.Proofs.Ytbenoopgpgffjaa
