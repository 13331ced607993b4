/-
  What is proved: what 'pack.one' computes at a text of at most 1024 bytes: its region, whose operations Go may carry out in more than one order, is walked in each.
  Conditions: the row is the call's own (or nil), of at most 2^46 bytes.
  (These lines were written by a program of this claim's own, wip/gen_onetext.py.)
-/
import Derived.Test.YtbenoopgpgffjaaOne
import Derived.Deep.RegionHeld
namespace Go.Proofs.Ytbenoopgpgffjaa
open Go.RowKit

theorem cell_drew (w : World) (a : Addr) : w.drew.cell? a = w.cell? a := rfl

theorem text_end (xs : List Value) (s : ByteArray) (m : Nat) : xs ++ byteCells [Pack.b8 (s.size / 256), Pack.b8 s.size] ++ byteCells (Pack.bl s) = xs ++ byteCells (Pack.b8 (s.size / 256) :: Pack.b8 s.size :: Pack.bl s) ∧ m + 2 + s.size = m + (2 + s.size) :=
  ⟨by simp [byteCells], by omega⟩

set_option maxHeartbeats 2000000 in
theorem one_text (s : ByteArray) (h1 : s.size ≤ 1024) (base : Nat) (v : Value) (m : Nat) (xs : List Value) (w : World) (hown : w.ownsRow base 5 1 v m xs) (hs : m ≤ 70368744177664) (hb : base ≤ w.heap.size) :
    Calls Try.prog 19 #[v, .agg #[.int .i64 3, .int .i64 0, .string s]] w fun e w' => ∃ v', e = .returned (.tuple #[v', .int .i64 0]) ∧ w'.ownsRow base 5 1 v' (m + (2 + s.size)) (xs ++ byteCells (Pack.b8 (s.size / 256) :: Pack.b8 s.size :: Pack.bl s)) ∧ Below base w w' := by
  have hconv := fun w => run_bytes_of_string (P := Try.prog) w 9 24 5 s Try.underlying9 Try.underlying24 Try.underlying5
  have hbox : (w.alloc (.cells #[.int .i64 3, .int .i64 0, .string s] 40)).cell? ⟨w.heap.size, 2, none⟩ = some (.string s) := by rw [World.cell?_alloc_at _ _ _ _ rfl]; rfl
  go_enter Try.func19, Try.ntmps19
  go_wp2
  go_step3
  go_wp2_with fail
  refine wp_region_held_drew (S := fun w' => w'.cell? ⟨w.heap.size, 2, none⟩ = some (.string s)) (by kernel_rfl) hbox (fun hHeld => ?_)
  refine wpAnyH_take (i := 0) (v := ?_) rfl (by kernel_rfl) (by kernel_rfl) (by kernel_rfl) (fun _ _ _ h => h) (Or.inl ⟨by rfl, ?_⟩) (by assumption) ?_
  rotate_left
  · intro w hSw
    try dsimp only at hSw
    go_simp
    try with_reducible rfl
  simp only [Act.put, List.setIfInBounds_toArray]
  refine wpAnyH_take (i := 1) (v := ?_) rfl (by kernel_rfl) (by kernel_rfl) (by kernel_rfl) (fun _ _ _ h => h) (Or.inl ⟨by rfl, ?_⟩) (by assumption) ?_
  rotate_left
  · intro w hSw
    try dsimp only at hSw
    go_simp
    try with_reducible rfl
  simp only [Act.put]
  refine wpAnyH_take (i := 2) (v := ?_) rfl (by kernel_rfl) (by kernel_rfl) (by kernel_rfl) (fun _ _ _ h => h) (Or.inl ⟨by rfl, ?_⟩) (by assumption) ?_
  rotate_left
  · intro w hSw
    try dsimp only at hSw
    go_simp
    try with_reducible rfl
  simp only [Act.put]
  refine wpAnyH_take (i := 3) (v := ?_) rfl (by kernel_rfl) (by kernel_rfl) (by kernel_rfl) (fun _ _ _ h => h) (Or.inl ⟨by rfl, ?_⟩) (by assumption) ?_
  rotate_left
  · intro w hSw
    try dsimp only at hSw
    go_simp
    try with_reducible rfl
  simp only [Act.put]
  refine wpAnyH_take (i := 4) (v := ?_) rfl (by kernel_rfl) (by kernel_rfl) (by kernel_rfl) (fun _ _ _ h => h) (Or.inl ⟨by rfl, ?_⟩) (by assumption) ?_
  rotate_left
  · intro w hSw
    try dsimp only at hSw
    go_simp
    try with_reducible rfl
  simp only [Act.put]
  refine wpAnyH_take (i := 5) (v := ?_) rfl (by kernel_rfl) (by kernel_rfl) (by kernel_rfl) (fun _ _ _ h => h) (Or.inl ⟨by rfl, ?_⟩) (by assumption) ?_
  rotate_left
  · intro w hSw
    try dsimp only at hSw
    go_simp
    try with_reducible rfl
  simp only [Act.put]
  refine wpAnyH_take (i := 6) (v := ?_) rfl (by kernel_rfl) (by kernel_rfl) (by kernel_rfl) (fun _ _ _ h => h) (Or.inl ⟨by rfl, ?_⟩) (by assumption) ?_
  rotate_left
  · intro w hSw
    try dsimp only at hSw
    go_simp
    try with_reducible rfl
  simp only [Act.put]
  refine wpAnyH_take (i := 7) (v := ?_) rfl (by kernel_rfl) (by kernel_rfl) (by kernel_rfl) (fun _ _ _ h => h) (Or.inl ⟨by rfl, ?_⟩) (by assumption) ?_
  rotate_left
  · intro w hSw
    try dsimp only at hSw
    go_simp
    try with_reducible rfl
  simp only [Act.put]
  refine wpAnyH_take (i := 8) (v := ?_) rfl (by kernel_rfl) (by kernel_rfl) (by kernel_rfl) (fun _ _ _ h => h) (Or.inl ⟨by rfl, ?_⟩) (by assumption) ?_
  rotate_left
  · intro w hSw
    try dsimp only at hSw
    go_simp
    try with_reducible rfl
  simp only [Act.put]
  refine wpAnyH_take (i := 9) (v := ?_) rfl (by kernel_rfl) (by kernel_rfl) (by kernel_rfl) (fun _ _ _ h => h) (Or.inl ⟨by rfl, ?_⟩) (by assumption) ?_
  rotate_left
  · intro w hSw
    try dsimp only at hSw
    go_simp
    try with_reducible rfl
  simp only [Act.put]
  refine wpAnyH_take (i := 12) (v := ?_) rfl (by kernel_rfl) (by kernel_rfl) (by kernel_rfl) (fun _ _ _ h => h) (Or.inl ⟨by rfl, ?_⟩) (by assumption) ?_
  rotate_left
  · intro w hSw
    try dsimp only at hSw
    go_simp
    try with_reducible rfl
  simp only [Act.put]
  refine wpAnyH_take (i := 13) (v := ?_) rfl (by kernel_rfl) (by kernel_rfl) (by kernel_rfl) (fun _ _ _ h => h) (Or.inl ⟨by rfl, ?_⟩) (by assumption) ?_
  rotate_left
  · intro w hSw
    try dsimp only at hSw
    go_simp
    try with_reducible rfl
  simp only [Act.put]
  refine wpAnyH_ready (rs := [10, 14]) (by kernel_rfl) (by simp) ?_
  refine AllReadyH.cons rfl (fun K hK => ?_) ?_
  · go_simp
    refine hK.out _ _ (by repeat (first | exact hbox | exact hcw | refine (World.cell?_alloc_lt _ _ _ (by first | (simp; done) | (simp; omega))).trans ?_ | refine (cell_drew _ _).trans ?_ | refine (World.cell?_drewN _ _ _).trans ?_)) (fun hHeld => ?_)
    clear hK K
    try simp only [Act.put, List.setIfInBounds_toArray, List.set_cons_zero, List.set_cons_succ]
    refine wpAnyH_ready (rs := [11, 14]) (by kernel_rfl) (by simp) ?_
    refine AllReadyH.cons rfl (fun K hK => ?_) ?_
    · go_simp
      refine (lay_any base v m xs _ 2 2 [Pack.b8 (s.size / 256), Pack.b8 s.size] _ (by repeat (first | exact hown | refine World.ownsRow.alloc ?_ _ | refine own_drew ?_ | refine own_drewN ?_ _)) (by repeat (first | (refine Rd.newBytes _ _ _ _ (by simp) ?_; simp [byteCells, Pack.b8_toNat, IntKind.wrap_u8]; done) | refine Rd.alloc' ?_ _ | refine Rd.drew' ?_ | refine Rd.drewN' ?_ _)) (by omega) (by first | omega | (simp; omega))).mono ?_
      rintro e w1 ⟨v1, rfl, hown1, hg1, hat1⟩
      have hcw : w1.cell? ⟨w.heap.size, 2, none⟩ = some (.string s) := hg1.cell (by repeat (first | exact hbox | refine (World.cell?_alloc_lt _ _ _ (by first | (simp; done) | (simp; omega))).trans ?_ | refine (cell_drew _ _).trans ?_ | refine (World.cell?_drewN _ _ _).trans ?_)) (own_ne hown (Nat.le_refl _))
      have hb1 := below_append (B := base) (a := w) (e := 5) (size := 1) (n := m) (xs := xs) (by repeat (first | exact Below.refl _ _ | refine Below.drew ?_ | refine below_drewN ?_ _ | refine Below.alloc ?_ (by first | exact hb | omega | (simp; done) | (simp; omega)) _)) (by repeat (first | exact hown | refine World.ownsRow.alloc ?_ _ | refine own_drew ?_ | refine own_drewN ?_ _)) hg1 (Nat.le_refl _) (by first | omega | (simp; omega))
      have hz1 := hb1.size
      have hlt : w.heap.size < w1.heap.size := by have := hg1.size; simp at this; omega
      have hne : some w.heap.size ≠ v1.ownBlock := by
        rcases hat1 with e | e
        · rw [e]; exact own_ne hown (Nat.le_refl _)
        · rw [e]; simp; omega
      clear hat1
      clear hg1
      go_wp2_with fail
      refine hK.out _ _ hcw (fun hHeld => ?_)
      clear hK K
      try simp only [Act.put, List.setIfInBounds_toArray, List.set_cons_zero, List.set_cons_succ]
      refine wpAnyH_ready (rs := [14]) (by kernel_rfl) (by simp) ?_
      refine AllReadyH.cons rfl (fun K hK => ?_) ?_
      · go_simp
        refine hK.out _ _ (by repeat (first | exact hbox | exact hcw | refine (World.cell?_alloc_lt _ _ _ (by first | (simp; done) | (simp; omega))).trans ?_ | refine (cell_drew _ _).trans ?_ | refine (World.cell?_drewN _ _ _).trans ?_)) (fun hHeld => ?_)
        clear hK K
        try simp only [Act.put, List.setIfInBounds_toArray, List.set_cons_zero, List.set_cons_succ]
        refine wpAnyH_ready (rs := [15]) (by kernel_rfl) (by simp) ?_
        refine AllReadyH.cons rfl (fun K hK => ?_) ?_
        · go_simp
          refine (lay_any base v1 (m + 2) (xs ++ byteCells [Pack.b8 (s.size / 256), Pack.b8 s.size]) _ s.size _ (Pack.bl s) _ (by repeat (first | exact hown1 | refine World.ownsRow.alloc ?_ _ | refine own_drew ?_ | refine own_drewN ?_ _)) (by repeat (first | (with_reducible refine Rd.drew' ?_) | (with_reducible refine Rd.drewN' ?_ _) | ((with_reducible refine Rd.newText _ _ _ _ _ ?_); simp; done) | (with_reducible refine Rd.alloc' ?_ _))) (by omega) (by first | omega | (simp; omega))).mono ?_
          rintro e w2 ⟨v2, rfl, hown2, hg2, _⟩
          have hb2 := below_append (B := base) (a := w) (e := 5) (size := 1) (n := m + 2) (xs := xs ++ byteCells [Pack.b8 (s.size / 256), Pack.b8 s.size]) (by repeat (first | exact hb1 | refine Below.drew ?_ | refine below_drewN ?_ _ | refine Below.alloc ?_ (by first | exact hb | omega | (simp; done) | (simp; omega)) _)) (by repeat (first | exact hown1 | refine World.ownsRow.alloc ?_ _ | refine own_drew ?_ | refine own_drewN ?_ _)) hg2 (Nat.le_refl _) (by first | omega | (simp; omega))
          have hcw2 : w2.cell? ⟨w.heap.size, 2, none⟩ = some (.string s) := hg2.cell (by repeat (first | exact hcw | refine (World.cell?_alloc_lt _ _ _ (by first | (simp; done) | (simp; omega))).trans ?_ | refine (cell_drew _ _).trans ?_ | refine (World.cell?_drewN _ _ _).trans ?_)) hne
          clear hg2
          go_wp2_with fail
          refine hK.out _ _ hcw2 (fun hHeld => ?_)
          clear hK K
          try simp only [Act.put, List.setIfInBounds_toArray, List.set_cons_zero, List.set_cons_succ]
          refine wpAnyH_take (i := 16) (oi := ⟨some 4, Op.assign (.tmp 114), 24, _, _, none⟩) (v := ?_) rfl (by kernel_rfl) (by kernel_rfl) (by kernel_rfl) (fun _ _ _ h => h) (Or.inl ⟨by rfl, ?_⟩) (by assumption) ?_
          rotate_left
          · intro w hSw
            try dsimp only at hSw
            go_simp
            try with_reducible rfl
          simp only [Act.put, List.setIfInBounds_toArray, List.set_cons_zero, List.set_cons_succ]
          refine wpAnyH_take (i := 17) (oi := ⟨some 5, Op.assign (.const (.int .i64 0)), 25, _, _, none⟩) (v := ?_) rfl (by kernel_rfl) (by kernel_rfl) (by kernel_rfl) (fun _ _ _ h => h) (Or.inl ⟨by rfl, ?_⟩) (by assumption) ?_
          rotate_left
          · intro w hSw
            try dsimp only at hSw
            go_simp
            try with_reducible rfl
          simp only [Act.put, List.setIfInBounds_toArray, List.set_cons_zero, List.set_cons_succ]
          refine wpAnyH_done (by kernel_rfl) ?_ _
          go_wp2
          try rw [Exit.noGoto_ret]
          go_ret2
          exact ⟨_, rfl, by rw [← (text_end xs s m).1, ← (text_end xs s m).2]; exact hown2, hb2⟩
        exact AllReadyH.nil
      exact AllReadyH.nil
    refine AllReadyH.cons rfl (fun K hK => ?_) ?_
    · go_simp
      refine hK.out _ _ (by repeat (first | exact hbox | exact hcw | refine (World.cell?_alloc_lt _ _ _ (by first | (simp; done) | (simp; omega))).trans ?_ | refine (cell_drew _ _).trans ?_ | refine (World.cell?_drewN _ _ _).trans ?_)) (fun hHeld => ?_)
      clear hK K
      try simp only [Act.put, List.setIfInBounds_toArray, List.set_cons_zero, List.set_cons_succ]
      refine wpAnyH_ready (rs := [11]) (by kernel_rfl) (by simp) ?_
      refine AllReadyH.cons rfl (fun K hK => ?_) ?_
      · go_simp
        refine (lay_any base v m xs _ 2 2 [Pack.b8 (s.size / 256), Pack.b8 s.size] _ (by repeat (first | exact hown | refine World.ownsRow.alloc ?_ _ | refine own_drew ?_ | refine own_drewN ?_ _)) (by repeat (first | (refine Rd.newBytes _ _ _ _ (by simp) ?_; simp [byteCells, Pack.b8_toNat, IntKind.wrap_u8]; done) | refine Rd.alloc' ?_ _ | refine Rd.drew' ?_ | refine Rd.drewN' ?_ _)) (by omega) (by first | omega | (simp; omega))).mono ?_
        rintro e w1 ⟨v1, rfl, hown1, hg1, hat1⟩
        have hcw : w1.cell? ⟨w.heap.size, 2, none⟩ = some (.string s) := hg1.cell (by repeat (first | exact hbox | refine (World.cell?_alloc_lt _ _ _ (by first | (simp; done) | (simp; omega))).trans ?_ | refine (cell_drew _ _).trans ?_ | refine (World.cell?_drewN _ _ _).trans ?_)) (own_ne hown (Nat.le_refl _))
        have hb1 := below_append (B := base) (a := w) (e := 5) (size := 1) (n := m) (xs := xs) (by repeat (first | exact Below.refl _ _ | refine Below.drew ?_ | refine below_drewN ?_ _ | refine Below.alloc ?_ (by first | exact hb | omega | (simp; done) | (simp; omega)) _)) (by repeat (first | exact hown | refine World.ownsRow.alloc ?_ _ | refine own_drew ?_ | refine own_drewN ?_ _)) hg1 (Nat.le_refl _) (by first | omega | (simp; omega))
        have hz1 := hb1.size
        have hlt : w.heap.size < w1.heap.size := by have := hg1.size; simp at this; omega
        have hne : some w.heap.size ≠ v1.ownBlock := by
          rcases hat1 with e | e
          · rw [e]; exact own_ne hown (Nat.le_refl _)
          · rw [e]; simp; omega
        clear hat1
        have ht := Rd.grown (size := 1) (g := w.heap.size + 2) (n := s.size) (xs := byteCells (Pack.bl s)) (by repeat (first | (with_reducible refine Rd.drew' ?_) | (with_reducible refine Rd.drewN' ?_ _) | ((with_reducible refine Rd.newText _ _ _ _ _ ?_); simp; done) | (with_reducible refine Rd.alloc' ?_ _))) hg1 (own_ne hown (by omega))
        clear hg1
        go_wp2_with fail
        refine hK.out _ _ hcw (fun hHeld => ?_)
        clear hK K
        try simp only [Act.put, List.setIfInBounds_toArray, List.set_cons_zero, List.set_cons_succ]
        refine wpAnyH_ready (rs := [15]) (by kernel_rfl) (by simp) ?_
        refine AllReadyH.cons rfl (fun K hK => ?_) ?_
        · go_simp
          refine (lay_any base v1 (m + 2) (xs ++ byteCells [Pack.b8 (s.size / 256), Pack.b8 s.size]) _ s.size _ (Pack.bl s) _ (by repeat (first | exact hown1 | refine World.ownsRow.alloc ?_ _ | refine own_drew ?_ | refine own_drewN ?_ _)) (by repeat (first | exact ht | (with_reducible refine Rd.drew' ?_) | (with_reducible refine Rd.drewN' ?_ _) | (with_reducible refine Rd.alloc' ?_ _))) (by omega) (by first | omega | (simp; omega))).mono ?_
          rintro e w2 ⟨v2, rfl, hown2, hg2, _⟩
          have hb2 := below_append (B := base) (a := w) (e := 5) (size := 1) (n := m + 2) (xs := xs ++ byteCells [Pack.b8 (s.size / 256), Pack.b8 s.size]) (by repeat (first | exact hb1 | refine Below.drew ?_ | refine below_drewN ?_ _ | refine Below.alloc ?_ (by first | exact hb | omega | (simp; done) | (simp; omega)) _)) (by repeat (first | exact hown1 | refine World.ownsRow.alloc ?_ _ | refine own_drew ?_ | refine own_drewN ?_ _)) hg2 (Nat.le_refl _) (by first | omega | (simp; omega))
          have hcw2 : w2.cell? ⟨w.heap.size, 2, none⟩ = some (.string s) := hg2.cell (by repeat (first | exact hcw | refine (World.cell?_alloc_lt _ _ _ (by first | (simp; done) | (simp; omega))).trans ?_ | refine (cell_drew _ _).trans ?_ | refine (World.cell?_drewN _ _ _).trans ?_)) hne
          clear hg2
          go_wp2_with fail
          refine hK.out _ _ hcw2 (fun hHeld => ?_)
          clear hK K
          try simp only [Act.put, List.setIfInBounds_toArray, List.set_cons_zero, List.set_cons_succ]
          refine wpAnyH_take (i := 16) (oi := ⟨some 4, Op.assign (.tmp 114), 24, _, _, none⟩) (v := ?_) rfl (by kernel_rfl) (by kernel_rfl) (by kernel_rfl) (fun _ _ _ h => h) (Or.inl ⟨by rfl, ?_⟩) (by assumption) ?_
          rotate_left
          · intro w hSw
            try dsimp only at hSw
            go_simp
            try with_reducible rfl
          simp only [Act.put, List.setIfInBounds_toArray, List.set_cons_zero, List.set_cons_succ]
          refine wpAnyH_take (i := 17) (oi := ⟨some 5, Op.assign (.const (.int .i64 0)), 25, _, _, none⟩) (v := ?_) rfl (by kernel_rfl) (by kernel_rfl) (by kernel_rfl) (fun _ _ _ h => h) (Or.inl ⟨by rfl, ?_⟩) (by assumption) ?_
          rotate_left
          · intro w hSw
            try dsimp only at hSw
            go_simp
            try with_reducible rfl
          simp only [Act.put, List.setIfInBounds_toArray, List.set_cons_zero, List.set_cons_succ]
          refine wpAnyH_done (by kernel_rfl) ?_ _
          go_wp2
          try rw [Exit.noGoto_ret]
          go_ret2
          exact ⟨_, rfl, by rw [← (text_end xs s m).1, ← (text_end xs s m).2]; exact hown2, hb2⟩
        exact AllReadyH.nil
      exact AllReadyH.nil
    exact AllReadyH.nil
  refine AllReadyH.cons rfl (fun K hK => ?_) ?_
  · go_simp
    refine hK.out _ _ (by repeat (first | exact hbox | exact hcw | refine (World.cell?_alloc_lt _ _ _ (by first | (simp; done) | (simp; omega))).trans ?_ | refine (cell_drew _ _).trans ?_ | refine (World.cell?_drewN _ _ _).trans ?_)) (fun hHeld => ?_)
    clear hK K
    try simp only [Act.put, List.setIfInBounds_toArray, List.set_cons_zero, List.set_cons_succ]
    refine wpAnyH_ready (rs := [10]) (by kernel_rfl) (by simp) ?_
    refine AllReadyH.cons rfl (fun K hK => ?_) ?_
    · go_simp
      refine hK.out _ _ (by repeat (first | exact hbox | exact hcw | refine (World.cell?_alloc_lt _ _ _ (by first | (simp; done) | (simp; omega))).trans ?_ | refine (cell_drew _ _).trans ?_ | refine (World.cell?_drewN _ _ _).trans ?_)) (fun hHeld => ?_)
      clear hK K
      try simp only [Act.put, List.setIfInBounds_toArray, List.set_cons_zero, List.set_cons_succ]
      refine wpAnyH_ready (rs := [11]) (by kernel_rfl) (by simp) ?_
      refine AllReadyH.cons rfl (fun K hK => ?_) ?_
      · go_simp
        refine (lay_any base v m xs _ 2 2 [Pack.b8 (s.size / 256), Pack.b8 s.size] _ (by repeat (first | exact hown | refine World.ownsRow.alloc ?_ _ | refine own_drew ?_ | refine own_drewN ?_ _)) (by repeat (first | (refine Rd.newBytes _ _ _ _ (by simp) ?_; simp [byteCells, Pack.b8_toNat, IntKind.wrap_u8]; done) | refine Rd.alloc' ?_ _ | refine Rd.drew' ?_ | refine Rd.drewN' ?_ _)) (by omega) (by first | omega | (simp; omega))).mono ?_
        rintro e w1 ⟨v1, rfl, hown1, hg1, hat1⟩
        have hcw : w1.cell? ⟨w.heap.size, 2, none⟩ = some (.string s) := hg1.cell (by repeat (first | exact hbox | refine (World.cell?_alloc_lt _ _ _ (by first | (simp; done) | (simp; omega))).trans ?_ | refine (cell_drew _ _).trans ?_ | refine (World.cell?_drewN _ _ _).trans ?_)) (own_ne hown (Nat.le_refl _))
        have hb1 := below_append (B := base) (a := w) (e := 5) (size := 1) (n := m) (xs := xs) (by repeat (first | exact Below.refl _ _ | refine Below.drew ?_ | refine below_drewN ?_ _ | refine Below.alloc ?_ (by first | exact hb | omega | (simp; done) | (simp; omega)) _)) (by repeat (first | exact hown | refine World.ownsRow.alloc ?_ _ | refine own_drew ?_ | refine own_drewN ?_ _)) hg1 (Nat.le_refl _) (by first | omega | (simp; omega))
        have hz1 := hb1.size
        have hlt : w.heap.size < w1.heap.size := by have := hg1.size; simp at this; omega
        have hne : some w.heap.size ≠ v1.ownBlock := by
          rcases hat1 with e | e
          · rw [e]; exact own_ne hown (Nat.le_refl _)
          · rw [e]; simp; omega
        clear hat1
        have ht := Rd.grown (size := 1) (g := w.heap.size + 1) (n := s.size) (xs := byteCells (Pack.bl s)) (by repeat (first | (with_reducible refine Rd.drew' ?_) | (with_reducible refine Rd.drewN' ?_ _) | ((with_reducible refine Rd.newText _ _ _ _ _ ?_); simp; done) | (with_reducible refine Rd.alloc' ?_ _))) hg1 (own_ne hown (by omega))
        clear hg1
        go_wp2_with fail
        refine hK.out _ _ hcw (fun hHeld => ?_)
        clear hK K
        try simp only [Act.put, List.setIfInBounds_toArray, List.set_cons_zero, List.set_cons_succ]
        refine wpAnyH_ready (rs := [15]) (by kernel_rfl) (by simp) ?_
        refine AllReadyH.cons rfl (fun K hK => ?_) ?_
        · go_simp
          refine (lay_any base v1 (m + 2) (xs ++ byteCells [Pack.b8 (s.size / 256), Pack.b8 s.size]) _ s.size _ (Pack.bl s) _ (by repeat (first | exact hown1 | refine World.ownsRow.alloc ?_ _ | refine own_drew ?_ | refine own_drewN ?_ _)) (by repeat (first | exact ht | (with_reducible refine Rd.drew' ?_) | (with_reducible refine Rd.drewN' ?_ _) | (with_reducible refine Rd.alloc' ?_ _))) (by omega) (by first | omega | (simp; omega))).mono ?_
          rintro e w2 ⟨v2, rfl, hown2, hg2, _⟩
          have hb2 := below_append (B := base) (a := w) (e := 5) (size := 1) (n := m + 2) (xs := xs ++ byteCells [Pack.b8 (s.size / 256), Pack.b8 s.size]) (by repeat (first | exact hb1 | refine Below.drew ?_ | refine below_drewN ?_ _ | refine Below.alloc ?_ (by first | exact hb | omega | (simp; done) | (simp; omega)) _)) (by repeat (first | exact hown1 | refine World.ownsRow.alloc ?_ _ | refine own_drew ?_ | refine own_drewN ?_ _)) hg2 (Nat.le_refl _) (by first | omega | (simp; omega))
          have hcw2 : w2.cell? ⟨w.heap.size, 2, none⟩ = some (.string s) := hg2.cell (by repeat (first | exact hcw | refine (World.cell?_alloc_lt _ _ _ (by first | (simp; done) | (simp; omega))).trans ?_ | refine (cell_drew _ _).trans ?_ | refine (World.cell?_drewN _ _ _).trans ?_)) hne
          clear hg2
          go_wp2_with fail
          refine hK.out _ _ hcw2 (fun hHeld => ?_)
          clear hK K
          try simp only [Act.put, List.setIfInBounds_toArray, List.set_cons_zero, List.set_cons_succ]
          refine wpAnyH_take (i := 16) (oi := ⟨some 4, Op.assign (.tmp 114), 24, _, _, none⟩) (v := ?_) rfl (by kernel_rfl) (by kernel_rfl) (by kernel_rfl) (fun _ _ _ h => h) (Or.inl ⟨by rfl, ?_⟩) (by assumption) ?_
          rotate_left
          · intro w hSw
            try dsimp only at hSw
            go_simp
            try with_reducible rfl
          simp only [Act.put, List.setIfInBounds_toArray, List.set_cons_zero, List.set_cons_succ]
          refine wpAnyH_take (i := 17) (oi := ⟨some 5, Op.assign (.const (.int .i64 0)), 25, _, _, none⟩) (v := ?_) rfl (by kernel_rfl) (by kernel_rfl) (by kernel_rfl) (fun _ _ _ h => h) (Or.inl ⟨by rfl, ?_⟩) (by assumption) ?_
          rotate_left
          · intro w hSw
            try dsimp only at hSw
            go_simp
            try with_reducible rfl
          simp only [Act.put, List.setIfInBounds_toArray, List.set_cons_zero, List.set_cons_succ]
          refine wpAnyH_done (by kernel_rfl) ?_ _
          go_wp2
          try rw [Exit.noGoto_ret]
          go_ret2
          exact ⟨_, rfl, by rw [← (text_end xs s m).1, ← (text_end xs s m).2]; exact hown2, hb2⟩
        exact AllReadyH.nil
      exact AllReadyH.nil
    exact AllReadyH.nil
  exact AllReadyH.nil

end Go.Proofs.Ytbenoopgpgffjaa
