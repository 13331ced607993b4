/-
  What is proved: small facts on memory that the walks of this claim use: a slice that reads as a list of cells, what the call owns, and what stays as it was.
  Conditions: none beyond each statement's own premises.
-/
import Derived.Test.YtbenoopgpgffjaaRows
import Derived.Test.YtbenoopgpgffjaaPure
import Derived.WalkKit
import Derived.WalkSpells
import Derived.WalkLawsBesides
import Derived.Maps.AppendAt
import Derived.Deep.AppendLies
import Derived.Deep.Draws
import Derived.Laws.BytesArg
import Derived.Laws.IdiomStrings
namespace Go.Proofs.Ytbenoopgpgffjaa
open Go.RowKit

theorem hide {p : Prop} (h : p) : Hid p := h

/-- The slice value '.slice A n c' (of elements of 'size' cells) holds the cells xs and lies below block B. -/
def Rd (w : World) (B size : Nat) (A : Option Addr) (n : Nat) (xs : List Value) : Prop :=
  xs.length = n * size ∧ (0 < n → ∃ b off, A = some ⟨b, off, none⟩ ∧ b < B ∧ ∀ j u, xs[j]? = some u → w.cell? ⟨b, off + j, none⟩ = some u)

section
variable {w w' : World} {B B' size n : Nat} {A : Option Addr} {xs : List Value}
theorem Rd.nil_ (w : World) (B size : Nat) (A : Option Addr) : Rd w B size A 0 [] := ⟨by simp, fun h => absurd h (by omega)⟩
theorem Rd.keep (h : Rd w B size A n xs) (hk : ∀ p : Addr, p.block < B → w'.cell? p = w.cell? p) : Rd w' B size A n xs :=
  ⟨h.1, fun hn => by
    obtain ⟨b, off, e, hb, hc⟩ := h.2 hn
    exact ⟨b, off, e, hb, fun j u hu => (hk _ hb).trans (hc j u hu)⟩⟩
theorem Rd.more (h : Rd w B size A n xs) (hB : B ≤ B') : Rd w B' size A n xs :=
  ⟨h.1, fun hn => by
    obtain ⟨b, off, e, hb, hc⟩ := h.2 hn
    exact ⟨b, off, e, by omega, hc⟩⟩
theorem Rd.below (h : Rd w B size A n xs) (hb : Below B w w') : Rd w' B size A n xs := h.keep fun _ hp => hb.cell hp
/-- From a world to a later one, its whole heap known. -/
theorem Rd.on (h : Rd w w.heap.size size A n xs) (hb : Below w.heap.size w w') : Rd w' w'.heap.size size A n xs := (h.below hb).more hb.size
theorem Rd.drew (h : Rd w B size A n xs) : Rd w.drew B size A n xs := h
theorem Rd.drewN (h : Rd w B size A n xs) (k : Nat) : Rd (w.drewN k) B size A n xs := h
theorem Rd.alloc (h : Rd w B size A n xs) (hB : B ≤ w.heap.size) (o : Obj) : Rd (w.alloc o) B size A n xs := h.keep fun p hp => World.cell?_alloc_lt w o p (by omega)
theorem Rd.of_own {base : Nat} {e : TypeId} {c : Nat} (h : w.ownsRow base e size (.slice A n c) n xs) : Rd w w.heap.size size A n xs := by
  refine ⟨h.1, fun hn => ?_⟩
  rcases h.2 with ⟨h0, h1⟩ | ⟨g, cap, cur, hv, _, hg, _⟩
  · omega
  · have hA : A = some ⟨g, 0, none⟩ := by injection hv
    subst hA
    refine ⟨g, 0, rfl, (Array.getElem?_eq_some_iff.1 hg).1, fun j u hu => ?_⟩
    have := h.cells (g := g) rfl j u hu
    rwa [Addr.add_lit] at this
/-- what is owned has a slice's shape -/
theorem own_shape {base : Nat} {e : TypeId} {v : Value} (h : w.ownsRow base e size v n xs) : ∃ A c, v = .slice A n c ∧ n ≤ c ∧ c ≤ maxLen := by
  rcases h.2 with ⟨rfl, rfl⟩ | ⟨g, cap, cur, rfl, _, _, hnc, hcm, _⟩
  · exact ⟨none, 0, rfl, Nat.le_refl _, Nat.zero_le _⟩
  · exact ⟨_, cap, rfl, hnc, hcm⟩
/-- a cut 's[k:]', as the walk writes its address -/
theorem Rd.cut (h : Rd w B size A n xs) {k cap : Nat} (hk : k ≤ n) (hc : n ≤ cap) :
    Rd w B size (if cap = k then A else A.map (·.add (k * size))) (n - k) (xs.drop (k * size)) := by
  refine ⟨by rw [List.length_drop, h.1, Nat.sub_mul], fun hn => ?_⟩
  obtain ⟨b, off, rfl, hb, hcell⟩ := h.2 (by omega)
  rw [if_neg (by omega)]
  refine ⟨b, off + k * size, by simp [Addr.add_lit], hb, fun j u hu => ?_⟩
  rw [Nat.add_assoc]
  exact hcell _ u (by rw [← hu, List.getElem?_drop])
/-- a beginning -/
theorem Rd.take (h : Rd w B size A n xs) {k : Nat} (hk : k ≤ n) : Rd w B size A k (xs.take (k * size)) := by
  refine ⟨by rw [List.length_take, h.1]; exact Nat.min_eq_left (Nat.mul_le_mul_right _ hk), fun hn => ?_⟩
  obtain ⟨b, off, rfl, hb, hcell⟩ := h.2 (by omega)
  refine ⟨b, off, rfl, hb, fun j u hu => hcell j u ?_⟩
  rw [List.getElem?_take] at hu
  split at hu
  · exact hu
  · cases hu
end

/-- The cells of bytes. -/
def byteCells (xs : List UInt8) : List Value := xs.map fun b => .int .u8 (b.toNat : Int)
theorem byteCells_length (xs : List UInt8) : (byteCells xs).length = xs.length := by simp [byteCells]
theorem byteCells_append (xs ys : List UInt8) : byteCells (xs ++ ys) = byteCells xs ++ byteCells ys := by simp [byteCells]
theorem byteCells_drop (xs : List UInt8) (k : Nat) : byteCells (xs.drop k) = (byteCells xs).drop k := by simp [byteCells, List.map_drop]
theorem byteCells_take (xs : List UInt8) (k : Nat) : byteCells (xs.take k) = (byteCells xs).take k := by simp [byteCells, List.map_take]
theorem byteCells_one (xs : List UInt8) : ∀ u ∈ byteCells xs, u.oneCell' = true := by
  intro u hu
  obtain ⟨_, _, rfl⟩ := List.mem_map.1 hu
  rfl
theorem byteCells_get (xs : List UInt8) (k : Nat) (hk : k < xs.length) : (byteCells xs)[k]? = some (.int .u8 (xs[k].toNat : Int)) := by
  simp [byteCells, List.getElem?_eq_getElem hk]

/-- The cells of numbers. -/
def intCells (xs : List Int) : List Value := xs.map fun n => .int .i64 n
theorem intCells_length (xs : List Int) : (intCells xs).length = xs.length := by simp [intCells]
theorem intCells_get (xs : List Int) (k : Nat) (hk : k < xs.length) : (intCells xs)[k]? = some (.int .i64 xs[k]) := by
  simp [intCells, List.getElem?_eq_getElem hk]

/-- A field's three cells; the fields' cells. -/
def fdCells (f : Pack.Fd) : List Value := [.int .i64 f.k, .int .i64 f.n, .string f.s]
def fsCells (l : List Pack.Fd) : List Value := l.flatMap fdCells
theorem fsCells_length (l : List Pack.Fd) : (fsCells l).length = l.length * 3 := by
  induction l with
  | nil => rfl
  | cons f r ih =>
    have e : fsCells (f :: r) = fdCells f ++ fsCells r := by simp [fsCells]
    rw [e, List.length_append, ih]
    simp only [fdCells, List.length_cons, List.length_nil]
    omega
theorem fsCells_append (a b : List Pack.Fd) : fsCells (a ++ b) = fsCells a ++ fsCells b := by simp [fsCells]
theorem fsCells_one (l : List Pack.Fd) : ∀ u ∈ fsCells l, u.oneCell' = true := by
  intro u hu
  obtain ⟨f, _, hf⟩ := List.mem_flatMap.1 hu
  simp only [fdCells, List.mem_cons, List.not_mem_nil, or_false] at hf
  rcases hf with rfl | rfl | rfl <;> rfl
theorem fsCells_get (l : List Pack.Fd) (k j : Nat) (hk : k < l.length) (hj : j < 3) : (fsCells l)[k * 3 + j]? = (fdCells l[k])[j]? := by
  induction l generalizing k with
  | nil => simp at hk
  | cons f r ih =>
    have e : fsCells (f :: r) = fdCells f ++ fsCells r := by simp [fsCells]
    have h3 : (fdCells f).length = 3 := rfl
    cases k with
    | zero =>
      rw [e, List.getElem?_append_left (by omega)]
      simp
    | succ k =>
      rw [e, List.getElem?_append_right (by omega), h3, show (k + 1) * 3 + j - 3 = k * 3 + j by omega, ih k (by simpa using hk)]
      simp

/-- The three cells of field k, where a slice reads as fields. -/
theorem Rd.field {w : World} {B : Nat} {A : Option Addr} {n : Nat} {l : List Pack.Fd} (h : Rd w B 3 A n (fsCells l)) (hn : l.length = n) {k : Nat} (hk : k < n) :
    ∃ b off, A = some ⟨b, off, none⟩ ∧ b < B ∧ w.cell? ⟨b, off + k * 3, none⟩ = some (.int .i64 (l[k]'(by omega)).k) ∧ w.cell? ⟨b, off + k * 3 + 1, none⟩ = some (.int .i64 (l[k]'(by omega)).n) ∧
      w.cell? ⟨b, off + k * 3 + 2, none⟩ = some (.string (l[k]'(by omega)).s) := by
  obtain ⟨b, off, e, hb, hc⟩ := h.2 (by omega)
  have g := fun j (hj : j < 3) => fsCells_get l k j (by omega) hj
  refine ⟨b, off, e, hb, ?_, ?_, ?_⟩
  · exact hc (k * 3) _ (by have := g 0 (by omega); simpa [fdCells] using this)
  · have := hc (k * 3 + 1) (.int .i64 (l[k]'(by omega)).n) (by have := g 1 (by omega); simpa [fdCells] using this)
    simpa [Nat.add_assoc] using this
  · have := hc (k * 3 + 2) (.string (l[k]'(by omega)).s) (by have := g 2 (by omega); simpa [fdCells] using this)
    simpa [Nat.add_assoc] using this

theorem intInfo : (Try.prog.info? 3).map (fun i => (i.zero, i.size, i.bytes)) = some (some (.int .i64 0), 1, 8) := by kernel_rfl
theorem byteInfo : (Try.prog.info? 5).map (fun i => (i.zero, i.size, i.bytes)) = some (some (.int .u8 0), 1, 1) := by kernel_rfl
theorem fieldInfo : (Try.prog.info? 40).map (fun i => (i.zero, i.size, i.bytes)) = some (some (.agg #[.int .i64 0, .int .i64 0, .string ⟨#[]⟩]), 3, 32) := by kernel_rfl

section
variable {P : Program} (w : World)

theorem run_append_of_nil (base : Nat) (t ty e : TypeId) (i : TypeInfo) (size : Nat) (ht : P.underlying t = some (.slice e)) (hi : P.info? e = some i)
    (v : Value) (n : Nat) (xs : List Value) (hown : w.ownsRow base e size v n xs) (c : Nat) : (Builtin.append_ #[t, t] ty #[v, .slice none 0 c]).run P w = .ok v w := by
  rcases hown.2 with ⟨rfl, rfl⟩ | ⟨g, cap, cur, rfl, _, _, hnc, _⟩
  · simp [Builtin.append_, run_underlying ht, sizeOf, typeInfo, hi, Builtin.lenOf, Builtin.firstCells]
  · simp [Builtin.append_, run_underlying ht, sizeOf, typeInfo, hi, Builtin.lenOf, Builtin.firstCells, hnc, storeCells]

/-- append onto what the call owns; the bound is the growing rule's own. -/
theorem run_append_fit (base : Nat) (t ty e : TypeId) (i : TypeInfo) (z : Value) (size bytes : Nat) (ht : P.underlying t = some (.slice e)) (hi : P.info? e = some i) (hz : i.zero = some z)
    (hsize : i.size = size) (hby : i.bytes = bytes) (hzs : z.cells.size = size) (hsz : 0 < size)
    (v : Value) (n : Nat) (xs : List Value) (hown : w.ownsRow base e size v n xs)
    (a : Addr) (m c : Nat) (news : List Value) (hl : news.length = m * size) (hnews : ∀ j u, news[j]? = some u → w.cell? (a.add j) = some u) (h1 : ∀ u ∈ news, u.oneCell' = true)
    (h63 : n + m ≤ maxLen) (hfit : ∀ old, old < n + m → Builtin.nextslicecap (n + m) old * bytes ≤ 281474976710656) (hbase : base ≤ w.heap.size) :
    ∃ v' w', (Builtin.append_ #[t, t] ty #[v, .slice (some a) m c]).run P w = .ok v' w' ∧ w'.ownsRow base e size v' (n + m) (xs ++ news) ∧ w.grownBy w' v.ownBlock ∧
      (v'.ownBlock = v.ownBlock ∨ v'.ownBlock = some w.heap.size) := by
  subst hsize
  subst hby
  have hsmall : n + m ≤ 9223372036854775807 := by simp only [maxLen] at h63; omega
  have hlen : (xs ++ news).length = (n + m) * i.size := by rw [List.length_append, hown.1, hl, Nat.add_mul]
  have grown : ∀ (old : Nat), old < n + m → ∀ (row : Option Nat),
      (w.drew.alloc (.cells (xs.toArray ++ news.toArray ++ Builtin.zeroCells z.cells (grownCap w (n + m) old e - (n + m))) e)).ownsRow base e i.size
        (.slice (some ⟨w.heap.size, 0, none⟩) (n + m) (grownCap w (n + m) old e)) (n + m) (xs ++ news) ∧
      w.grownBy (w.drew.alloc (.cells (xs.toArray ++ news.toArray ++ Builtin.zeroCells z.cells (grownCap w (n + m) old e - (n + m))) e)) row := by
    intro old ho row
    have hge := grownCap_ge w (n + m) old e
    have hcm : grownCap w (n + m) old e ≤ maxLen := grownCap_le_maxLen w (n + m) old e h63
    refine ⟨⟨hlen, .inr ⟨w.heap.size, _, _, rfl, hbase, heap_alloc_new w.drew _, hge, hcm, ?_, ?_⟩⟩, ⟨rfl, rfl, rfl, by simp, fun k hk _ => Below.heap_alloc w.drew _ k hk⟩⟩
    · simp only [Array.size_append, List.size_toArray, size_zeroCells, hzs, hown.1, hl, ← Nat.add_mul]
      congr 1
      omega
    · simp only [Array.toList_append, List.append_assoc]
      rw [← List.append_assoc, ← hlen]
      exact List.take_left
  rcases hown.2 with ⟨rfl, rfl⟩ | ⟨g, cap, cur, rfl, hbg, hg, hnc, hcm, hcs, htake⟩
  · have hx : xs = [] := List.eq_nil_of_length_eq_zero (by simpa using hown.1)
    subst hx
    by_cases hm : m = 0
    · subst hm
      have hn : news = [] := List.eq_nil_of_length_eq_zero (by simpa using hl)
      subst hn
      refine ⟨.slice none 0 0, w, ?_, World.ownsRow_nil w base e i.size, ⟨rfl, rfl, rfl, Nat.le_refl _, fun _ _ _ => rfl⟩, Or.inl rfl⟩
      simp [Builtin.append_, run_underlying ht, sizeOf, typeInfo, hi, Builtin.lenOf, Builtin.firstCells, loadCells, loadCellsFrom]
    · have hf0 := hfit 0 (by omega)
      rw [nextslicecap_zero (by omega), Nat.zero_add] at hf0
      have hr := run_append_nil (P := P) w t ty e i z ht hi hz a m c news hl hnews (by omega) (by omega) hf0
      have hgr := grown 0 (by omega) (Value.ownBlock (.slice none 0 0))
      simp only [Nat.zero_add, List.nil_append, Array.empty_append] at hgr ⊢
      exact ⟨_, _, hr, hgr.1, hgr.2, Or.inr rfl⟩
  · by_cases hroom : n + m ≤ cap
    · have hfitc : n * i.size + news.length ≤ cur.size := by rw [hl, hcs, ← Nat.add_mul]; exact Nat.mul_le_mul_right _ hroom
      have hr := run_append_room (P := P) w t ty e i ht hi g n cap cur hg a m c news hl hnews h1 hroom hfitc
      refine ⟨_, _, hr, ⟨hlen, .inr ⟨g, cap, _, rfl, hbg, setRow_heap w g cur _ e _ hg, hroom, hcm, ?_, ?_⟩⟩, ⟨rfl, rfl, rfl, by simp, fun k _ hk => setRow_other w g k _ (fun e => hk (by simp [Value.ownBlock, e]))⟩, Or.inl rfl⟩
      · simp only [List.size_toArray, List.length_append, List.length_take, List.length_drop, Array.length_toList]
        omega
      · rw [htake, ← hlen]
        exact List.take_left
    · have holds : ∀ j u, xs[j]? = some u → w.cell? ((⟨g, 0, none⟩ : Addr).add j) = some u := hown.cells (g := g) rfl
      have hr := run_append_grow (P := P) w t ty e i z ht hi hz ⟨g, 0, none⟩ n cap xs hown.1 holds a m c news hl hnews (by omega) (by omega) (hfit cap (by omega))
      have hgr := grown cap (by omega) (Value.ownBlock (.slice (some ⟨g, 0, none⟩) n cap))
      exact ⟨_, _, hr, hgr.1, hgr.2, Or.inr rfl⟩

/-- append onto what the call owns, the source any slice that reads as cells. -/
theorem run_append_rd (base : Nat) (t ty e : TypeId) (i : TypeInfo) (z : Value) (size bytes : Nat) (ht : P.underlying t = some (.slice e)) (hi : P.info? e = some i) (hz : i.zero = some z)
    (hsize : i.size = size) (hby : i.bytes = bytes) (hzs : z.cells.size = size) (hsz : 0 < size)
    (v : Value) (n : Nat) (xs : List Value) (hown : w.ownsRow base e size v n xs)
    (B : Nat) (A : Option Addr) (m c : Nat) (news : List Value) (hr : Rd w B size A m news) (h1 : ∀ u ∈ news, u.oneCell' = true)
    (h63 : n + m ≤ maxLen) (hfit : ∀ old, old < n + m → Builtin.nextslicecap (n + m) old * bytes ≤ 281474976710656) (hbase : base ≤ w.heap.size) :
    ∃ v' w', (Builtin.append_ #[t, t] ty #[v, .slice A m c]).run P w = .ok v' w' ∧ w'.ownsRow base e size v' (n + m) (xs ++ news) ∧ w.grownBy w' v.ownBlock ∧
      (v'.ownBlock = v.ownBlock ∨ v'.ownBlock = some w.heap.size) := by
  rcases Nat.eq_zero_or_pos m with h0 | h0
  · subst h0
    have hn : news = [] := List.eq_nil_of_length_eq_zero (by simpa using hr.1)
    subst hn
    cases A with
    | none => exact ⟨v, w, run_append_of_nil w base t ty e i size ht hi v n xs hown c, by simpa using hown, ⟨rfl, rfl, rfl, Nat.le_refl _, fun _ _ _ => rfl⟩, .inl rfl⟩
    | some ad => exact run_append_fit (P := P) w base t ty e i z size bytes ht hi hz hsize hby hzs hsz v n xs hown ad 0 c [] (by simp) (by simp) h1 h63 hfit hbase
  · obtain ⟨b, off, rfl, _, hc⟩ := hr.2 h0
    exact run_append_fit (P := P) w base t ty e i z size bytes ht hi hz hsize hby hzs hsz v n xs hown ⟨b, off, none⟩ m c news hr.1 (fun j u hu => by rw [Addr.add_lit]; exact hc j u hu) h1 h63 hfit hbase

theorem wp_append_rd {o : Oper} {a : Act} {K : Act → World → Prop} {Q : Exit → Act → World → Prop} (s x : Operand) (t : TypeId)
    (ho : o.op = .call { callee := .builtin .append, args := #[s, x], argTypes := #[t, t] })
    (base : Nat) (e : TypeId) (i : TypeInfo) (z : Value) (size bytes : Nat) (ht : P.underlying t = some (.slice e)) (hi : P.info? e = some i) (hz : i.zero = some z)
    (hsize : i.size = size) (hby : i.bytes = bytes) (hzs : z.cells.size = size) (hsz : 0 < size)
    (v : Value) (n : Nat) (xs : List Value) (hs : a.eval s = v) (hown : w.ownsRow base e size v n xs)
    (B : Nat) (A : Option Addr) (m c : Nat) (news : List Value) (hx : a.eval x = .slice A m c) (hr : Rd w B size A m news) (h1 : ∀ u ∈ news, u.oneCell' = true)
    (h63 : n + m ≤ maxLen) (hfit : ∀ old, old < n + m → Builtin.nextslicecap (n + m) old * bytes ≤ 281474976710656) (hbase : base ≤ w.heap.size)
    (h : ∀ v' w', w'.ownsRow base e size v' (n + m) (xs ++ news) → w.grownBy w' v.ownBlock → (v'.ownBlock = v.ownBlock ∨ v'.ownBlock = some w.heap.size) → K (a.put o.dst v') w') : o.wp P a w K Q := by
  obtain ⟨v', w', hrun, h2, h3, h4⟩ := run_append_rd (P := P) w base t o.type e i z size bytes ht hi hz hsize hby hzs hsz v n xs hown B A m c news hr h1 h63 hfit hbase
  unfold Oper.wp execOp
  simp only [ho, resolve, invoke, builtin, Sem.run_bind, Sem.run_pure, Result.andThen_ok, List.map_toArray, List.map_cons, List.map_nil, hs, hx, hrun]
  exact h v' w' h2 h3 h4

theorem wpList_append_rd {ops : Array Oper} {rest : List Oper} {o : Oper} {a : Act} {Q : Exit → Act → World → Prop} (hgd : o.guard = none) (s x : Operand) (t : TypeId)
    (ho : o.op = .call { callee := .builtin .append, args := #[s, x], argTypes := #[t, t] })
    (base : Nat) (e : TypeId) (i : TypeInfo) (z : Value) (size bytes : Nat) (ht : P.underlying t = some (.slice e)) (hi : P.info? e = some i) (hz : i.zero = some z)
    (hsize : i.size = size) (hby : i.bytes = bytes) (hzs : z.cells.size = size) (hsz : 0 < size)
    (v : Value) (n : Nat) (xs : List Value) (hs : a.eval s = v) (hown : w.ownsRow base e size v n xs)
    (B : Nat) (A : Option Addr) (m c : Nat) (news : List Value) (hx : a.eval x = .slice A m c) (hr : Rd w B size A m news) (h1 : ∀ u ∈ news, u.oneCell' = true)
    (h63 : n + m ≤ maxLen) (hfit : ∀ old, old < n + m → Builtin.nextslicecap (n + m) old * bytes ≤ 281474976710656) (hbase : base ≤ w.heap.size)
    (h : ∀ v' w', w'.ownsRow base e size v' (n + m) (xs ++ news) → w.grownBy w' v.ownBlock → (v'.ownBlock = v.ownBlock ∨ v'.ownBlock = some w.heap.size) → wpList P ops Q rest (a.put o.dst v') w') : wpList P ops Q (o :: rest) a w :=
  wpList_plain hgd fun _ hK => wp_append_rd w s x t ho base e i z size bytes ht hi hz hsize hby hzs hsz v n xs hs hown B A m c news hx hr h1 h63 hfit hbase fun v' w' h2 h3 h4 => hK _ _ (h v' w' h2 h3 h4)
end

/-- A block that was just laid, read as a slice over it. -/
theorem Rd.new (w : World) (cs : Array Value) (t : TypeId) (size n g : Nat) (hg : w.heap.size = g) (hs : cs.size = n * size) : Rd (w.alloc (.cells cs t)) (g + 1) size (some ⟨g, 0, none⟩) n cs.toList := by
  subst hg
  refine ⟨by simpa using hs, fun _ => ⟨w.heap.size, 0, rfl, by omega, fun j u hu => ?_⟩⟩
  rw [World.cell?_alloc_at _ _ _ _ rfl]
  simpa using hu
theorem fit {need bytes : Nat} (h : need * bytes ≤ 140737488355328) : ∀ old, old < need → Builtin.nextslicecap need old * bytes ≤ 281474976710656 := fun _ ho => growslice_fits ho h
theorem below_append {B base : Nat} {a w w' : World} {e : TypeId} {size n : Nat} {v : Value} {xs : List Value} (h : Below B a w) (hown : w.ownsRow base e size v n xs) (hg : w.grownBy w' v.ownBlock) (hB : B ≤ base) (hw : B ≤ w.heap.size) : Below B a w' :=
  h.grown hg hw fun k hk => Nat.le_trans hB (hown.lt k hk).1


section
variable {w w' : World} {base size n : Nat} {e : TypeId} {v : Value} {xs : List Value}
theorem own_drew (h : w.ownsRow base e size v n xs) : w.drew.ownsRow base e size v n xs := h
theorem own_drewN (h : w.ownsRow base e size v n xs) (k : Nat) : (w.drewN k).ownsRow base e size v n xs := h
theorem below_drewN {B : Nat} (h : Below B w w') (k : Nat) : Below B w (w'.drewN k) := ⟨h.os, h.tape, h.output, h.size, h.block⟩
/-- A slice over whole memory, behind a new block. -/
theorem Rd.alloc' {A : Option Addr} (h : Rd w w.heap.size size A n xs) (o : Obj) : Rd (w.alloc o) (w.alloc o).heap.size size A n xs := (h.alloc (Nat.le_refl _) o).more (by simp)
theorem Rd.drew' {A : Option Addr} (h : Rd w w.heap.size size A n xs) : Rd w.drew w.drew.heap.size size A n xs := h
theorem Rd.drewN' {A : Option Addr} (h : Rd w w.heap.size size A n xs) (k : Nat) : Rd (w.drewN k) (w.drewN k).heap.size size A n xs := h
/-- A new block of bytes. -/
theorem Rd.newBytes (w : World) (cs : Array Value) (ys : List UInt8) (g : Nat) (hg : w.heap.size = g) (hc : cs.toList = byteCells ys) : Rd (w.alloc (.cells cs 5)) (w.alloc (.cells cs 5)).heap.size 1 (some ⟨g, 0, none⟩) ys.length (byteCells ys) := by
  have hl : cs.size = ys.length * 1 := by have := congrArg List.length hc; rw [byteCells_length] at this; simpa using this
  have h := Rd.new w cs 5 1 ys.length g hg hl
  rw [hc] at h
  exact h.more (by simp; omega)
/-- The bytes of a text, laid anew. -/
theorem Rd.newText (w : World) (s : ByteArray) (c : Nat) (fr : Nat × Nat) (g : Nat) (hg : w.heap.size = g) : Rd (w.alloc (.cells (bytesRow s c) 5 fr)) (w.alloc (.cells (bytesRow s c) 5 fr)).heap.size 1 (some ⟨g, 0, none⟩) s.size (byteCells (Pack.bl s)) := by
  subst hg
  refine ⟨by rw [byteCells_length, Pack.bl_size]; omega, fun _ => ⟨w.heap.size, 0, rfl, by simp, fun j u hu => ?_⟩⟩
  rw [cell_of_row _ _ _ _ _ _ (heap_alloc_new w _)]
  have hj : j < (byteCells (Pack.bl s)).length := (List.getElem?_eq_some_iff.1 hu).1
  rw [byteCells_length, Pack.bl_size] at hj
  rw [← hu, Nat.zero_add]
  unfold bytesRow byteCells Pack.bl
  rw [Array.getElem?_append_left (by rw [Array.size_map]; exact hj)]
  simp
/-- A slice in a block that was not written. -/
theorem Rd.grown {row : Option Nat} {g : Nat} (h : Rd w w.heap.size size (some ⟨g, 0, none⟩) n xs) (hg : w.grownBy w' row) (hne : some g ≠ row) : Rd w' w'.heap.size size (some ⟨g, 0, none⟩) n xs := by
  refine ⟨h.1, fun hn => ?_⟩
  obtain ⟨b, off, e, hb, hc⟩ := h.2 hn
  obtain ⟨rfl, rfl⟩ : g = b ∧ 0 = off := by injection e with e; injection e with e1 e2; exact ⟨e1, e2⟩
  exact ⟨g, 0, rfl, Nat.lt_of_lt_of_le hb hg.size, fun j u hu => (World.cell?_of_block (hg.block g hb hne)).trans (hc j u hu)⟩
theorem own_ne (h : w.ownsRow base e size v n xs) {g : Nat} (hg : w.heap.size ≤ g) : some g ≠ v.ownBlock := fun he => by have := (h.lt g he.symm).2; omega
/-- What is owned stays owned where only new blocks came. -/
theorem own_below (h : w.ownsRow base e size v n xs) (hb : Below w.heap.size w w') : w'.ownsRow base e size v n xs :=
  h.kept ⟨hb.os, hb.tape, hb.output, hb.size, fun k hk _ => hb.block k hk⟩ (row := none) (by cases hv : v.ownBlock <;> simp)
end

/-- 'string(b)' where b reads as bytes. -/
theorem run_str {w : World} {B : Nat} {A : Option Addr} {n c : Nat} {l : List UInt8} (h : Rd w B 1 A n (byteCells l)) : (convert 24 9 (.slice A n c)).run Try.prog w = .ok (.string (Pack.ofBl l)) w := by
  have hl : l.length = n := by have := h.1; rw [byteCells_length] at this; omega
  cases A with
  | none =>
    have hn : n = 0 := by
      rcases Nat.eq_zero_or_pos n with h0 | h0
      · exact h0
      · obtain ⟨b, off, e, _⟩ := h.2 h0
        cases e
    subst hn
    have hl0 : l = [] := List.eq_nil_of_length_eq_zero hl
    subst hl0
    exact run_convert_bytes_nil (P := Try.prog) w 24 5 Try.underlying24 Try.underlying5 0 c 9 Try.underlying9
  | some a =>
    subst hl
    refine run_convert_bytes_back (P := Try.prog) w 24 9 5 a c l Try.underlying24 Try.underlying5 Try.underlying9 fun j hj => ?_
    obtain ⟨b, off, e, _, hc⟩ := h.2 (by omega)
    obtain rfl : a = ⟨b, off, none⟩ := by injection e
    rw [Addr.add_lit]
    exact hc j _ (byteCells_get l j hj)

/-- A new block of fields, of numbers. -/
theorem Rd.newFields (w : World) (l : List Pack.Fd) (n g : Nat) (hg : w.heap.size = g) (hn : l.length = n) : Rd (w.alloc (.cells (fsCells l).toArray 40)) (w.alloc (.cells (fsCells l).toArray 40)).heap.size 3 (some ⟨g, 0, none⟩) n (fsCells l) := by
  have h := Rd.new w (fsCells l).toArray 40 3 n g hg (by simp [fsCells_length, hn])
  exact h.more (by simp; omega)
theorem Rd.newInts (w : World) (l : List Int) (n g : Nat) (hg : w.heap.size = g) (hn : l.length = n) : Rd (w.alloc (.cells (intCells l).toArray 3)) (w.alloc (.cells (intCells l).toArray 3)).heap.size 1 (some ⟨g, 0, none⟩) n (intCells l) := by
  have h := Rd.new w (intCells l).toArray 3 1 n g hg (by simp [intCells_length, hn])
  exact h.more (by simp; omega)

end Go.Proofs.Ytbenoopgpgffjaa
