/-
  What is proved: the plain mathematics of records as bytes: what one field's bytes are, what bytes are read as, and the laws between writing and reading (no program in sight).
  Conditions: none beyond each statement's own premises.
-/
namespace Go.Proofs.Ytbenoopgpgffjaa.Pack

/-- A field: its kind, its number, its text. -/
structure Fd where
  k : Int
  n : Int
  s : ByteArray

/-- A text's bytes. -/
def bl (s : ByteArray) : List UInt8 := s.data.toList
theorem bl_size (s : ByteArray) : (bl s).length = s.size := by unfold bl; rw [Array.length_toList]; rfl
def ofBl (l : List UInt8) : ByteArray := ⟨l.toArray⟩
theorem ofBl_bl (s : ByteArray) : ofBl (bl s) = s := by cases s; simp [ofBl, bl]
theorem bl_ofBl (l : List UInt8) : bl (ofBl l) = l := by simp [ofBl, bl]
def empty : ByteArray := ⟨#[]⟩

/-- The byte of a number. -/
def b8 (n : Nat) : UInt8 := UInt8.ofNat n
theorem b8_toNat (n : Nat) : (b8 n).toNat = n % 256 := by simp [b8]

/-- Eight bytes, the highest first. -/
def be8 (n : Nat) : List UInt8 :=
  [b8 (n / 72057594037927936), b8 (n / 281474976710656), b8 (n / 1099511627776), b8 (n / 4294967296), b8 (n / 16777216), b8 (n / 65536), b8 (n / 256), b8 n]

/-- What number bytes are, the highest first. -/
def num (l : List UInt8) : Nat := l.foldl (fun v x => v * 256 + x.toNat) 0

def eForm : Int := 21
def eEnd : Int := 20
def eLong : Int := 22

/-- The bytes of one field, or the error. -/
def enc1 (f : Fd) : Except Int (List UInt8) :=
  if f.k = 3 then
    if f.n ≠ 0 then .error eForm else if 1024 < f.s.size then .error eLong else .ok (b8 (f.s.size / 256) :: b8 f.s.size :: bl f.s)
  else if 0 < f.s.size then .error eForm
  else if f.n < 0 then .error eForm
  else if f.k = 1 then (if f.n < 256 then .ok [b8 f.n.toNat] else .error eForm)
  else if f.k = 4 then (if f.n < 2 then .ok [b8 f.n.toNat] else .error eForm)
  else if f.k = 2 then (if f.n ≤ 4611686018427387904 then .ok (be8 f.n.toNat) else .error eForm)
  else .error eForm

def encode : List Fd → Except Int (List UInt8)
  | [] => .ok []
  | f :: r => match enc1 f with
    | .error e => .error e
    | .ok x => match encode r with
      | .error e => .error e
      | .ok y => .ok (x ++ y)

/-- How many bytes a kind has at first; none: no such kind. -/
def sizeOf (k : Int) : Option Nat := if k = 1 then some 1 else if k = 4 then some 1 else if k = 2 then some 8 else if k = 3 then some 2 else none

/-- One field of kind k off the beginning of b: it, and how many bytes it has. -/
def dec1 (k : Int) (b : List UInt8) : Except Int (Fd × Nat) :=
  match sizeOf k with
  | none => .error eForm
  | some n =>
    if b.length < n then .error eEnd
    else if (k = 2 ∧ 4611686018427387904 < num (b.take n)) ∨ (k = 4 ∧ 1 < num (b.take n)) then .error eForm
    else if k ≠ 3 then .ok (⟨k, (num (b.take n) : Int), empty⟩, n)
    else if 1024 < num (b.take n) then .error eLong
    else if b.length - n < num (b.take n) then .error eEnd
    else .ok (⟨k, 0, ofBl ((b.drop n).take (num (b.take n)))⟩, n + num (b.take n))

def some_ : List Int → List UInt8 → Except Int (List Fd × Nat)
  | [], _ => .ok ([], 0)
  | k :: ks, b => match dec1 k b with
    | .error e => .error e
    | .ok (f, n) => match some_ ks (b.drop n) with
      | .error e => .error e
      | .ok (fs, m) => .ok (f :: fs, n + m)

def decode (ks : List Int) (b : List UInt8) : Except Int (List Fd) :=
  match some_ ks b with
  | .error e => .error e
  | .ok (fs, n) => if n < b.length then .error eForm else .ok fs

/-! ### writing -/
theorem encode_append (a b : List Fd) : encode (a ++ b) = match encode a with
    | .error e => .error e
    | .ok x => match encode b with
      | .error e => .error e
      | .ok y => .ok (x ++ y) := by
  induction a with
  | nil => simp only [List.nil_append, encode]; cases encode b <;> simp
  | cons f r ih =>
    simp only [List.cons_append, encode, ih]
    cases enc1 f with
    | error e => rfl
    | ok x =>
      simp only
      cases encode r with
      | error e => rfl
      | ok y =>
        simp only
        cases encode b with
        | error e => rfl
        | ok z => simp

theorem take_snoc {α : Type} (l : List α) (k : Nat) (hk : k < l.length) : l.take (k + 1) = l.take k ++ [l[k]] := by
  rw [List.take_succ_eq_append_getElem hk]

/-- A round of the writing loop that goes on. -/
theorem encode_ok (l : List Fd) (k : Nat) (hk : k < l.length) {x y : List UInt8} (h : encode (l.take k) = .ok x) (h1 : enc1 l[k] = .ok y) : encode (l.take (k + 1)) = .ok (x ++ y) := by
  rw [take_snoc l k hk, encode_append, h]
  simp [encode, h1]
/-- A round of the writing loop that ends it. -/
theorem encode_err (l : List Fd) (k : Nat) (hk : k < l.length) {x : List UInt8} {e : Int} (h : encode (l.take k) = .ok x) (h1 : enc1 l[k] = .error e) : encode l = .error e := by
  have hl : l = l.take (k + 1) ++ l.drop (k + 1) := (List.take_append_drop _ _).symm
  have he : encode (l.take (k + 1)) = .error e := by
    rw [take_snoc l k hk, encode_append, h]
    simp [encode, h1]
  rw [hl, encode_append, he]

theorem enc1_le {f : Fd} {y : List UInt8} (h : enc1 f = .ok y) : y.length ≤ 1026 := by
  unfold enc1 at h
  repeat' split at h
  all_goals first | (cases h; done) | (injection h with h; subst h; simp [be8, bl_size]; done) | (injection h with h; subst h; simp [bl_size]; omega)

theorem encode_le (l : List Fd) {x : List UInt8} (h : encode l = .ok x) : x.length ≤ l.length * 1026 := by
  induction l generalizing x with
  | nil => simp only [encode] at h; injection h with h; subst h; simp
  | cons f r ih =>
    simp only [encode] at h
    cases h1 : enc1 f with
    | error e => rw [h1] at h; cases h
    | ok y =>
      rw [h1] at h
      simp only at h
      cases h2 : encode r with
      | error e => rw [h2] at h; cases h
      | ok z =>
        rw [h2] at h
        simp only at h
        injection h with h
        subst h
        have := ih h2
        have := enc1_le h1
        simp only [List.length_append, List.length_cons]
        omega

/-- An error is one of three. -/
theorem enc1_errs {f : Fd} {e : Int} (h : enc1 f = .error e) : e = eForm ∨ e = eLong := by
  unfold enc1 at h
  repeat' split at h
  all_goals first | (cases h; done) | (injection h with h; subst h; simp)

/-! ### reading -/
theorem some_append (a c : List Int) (b : List UInt8) : some_ (a ++ c) b = match some_ a b with
    | .error e => .error e
    | .ok (fs, n) => match some_ c (b.drop n) with
      | .error e => .error e
      | .ok (gs, m) => .ok (fs ++ gs, n + m) := by
  induction a generalizing b with
  | nil =>
    simp only [List.nil_append, some_, List.drop_zero]
    cases some_ c b with
    | error e => rfl
    | ok p => simp
  | cons k r ih =>
    simp only [List.cons_append, some_]
    cases dec1 k b with
    | error e => rfl
    | ok p =>
      obtain ⟨f, n⟩ := p
      simp only [ih]
      cases some_ r (b.drop n) with
      | error e => rfl
      | ok q =>
        obtain ⟨fs, m⟩ := q
        simp only [List.drop_drop]
        cases some_ c (b.drop (n + m)) with
        | error e => rfl
        | ok t => simp [Nat.add_assoc]

theorem some_ok (ks : List Int) (b : List UInt8) (i : Nat) (hi : i < ks.length) {fs : List Fd} {at_ : Nat} {f : Fd} {n : Nat} (h : some_ (ks.take i) b = .ok (fs, at_)) (h1 : dec1 ks[i] (b.drop at_) = .ok (f, n)) :
    some_ (ks.take (i + 1)) b = .ok (fs ++ [f], at_ + n) := by
  rw [take_snoc ks i hi, some_append, h]
  simp [some_, h1]
theorem some_err (ks : List Int) (b : List UInt8) (i : Nat) (hi : i < ks.length) {fs : List Fd} {at_ : Nat} {e : Int} (h : some_ (ks.take i) b = .ok (fs, at_)) (h1 : dec1 ks[i] (b.drop at_) = .error e) :
    some_ ks b = .error e := by
  have hl : ks = ks.take (i + 1) ++ ks.drop (i + 1) := (List.take_append_drop _ _).symm
  have he : some_ (ks.take (i + 1)) b = .error e := by
    rw [take_snoc ks i hi, some_append, h]
    simp [some_, h1]
  rw [hl, some_append, he]

theorem dec1_errs {k : Int} {b : List UInt8} {e : Int} (h : dec1 k b = .error e) : e = eForm ∨ e = eEnd ∨ e = eLong := by
  unfold dec1 at h
  repeat' split at h
  all_goals first | (cases h; done) | (injection h with h; subst h; simp)

theorem dec1_le {k : Int} {b : List UInt8} {f : Fd} {n : Nat} (h : dec1 k b = .ok (f, n)) : n ≤ b.length ∧ n ≤ 1032 := by
  unfold dec1 at h
  cases hs : sizeOf k with
  | none => rw [hs] at h; simp at h
  | some s =>
    rw [hs] at h
    simp only at h
    have hs8 : s ≤ 8 := by
      unfold sizeOf at hs
      repeat' split at hs
      all_goals first | (cases hs; done) | (injection hs with hs; omega)
    repeat' split at h
    all_goals first | (cases h; done) | (injection h with h; injection h with h1 h2; omega)

theorem some_le (ks : List Int) : ∀ (b : List UInt8) {fs : List Fd} {n : Nat}, some_ ks b = .ok (fs, n) → n ≤ b.length ∧ n ≤ ks.length * 1032 ∧ fs.length = ks.length := by
  induction ks with
  | nil => intro b fs n h; simp only [some_] at h; injection h with h; injection h with h1 h2; subst h1; subst h2; simp
  | cons k r ih =>
    intro b fs n h
    simp only [some_] at h
    cases h1 : dec1 k b with
    | error e => rw [h1] at h; cases h
    | ok p =>
      obtain ⟨f, n1⟩ := p
      rw [h1] at h
      simp only at h
      cases h2 : some_ r (b.drop n1) with
      | error e => rw [h2] at h; cases h
      | ok q =>
        obtain ⟨gs, m⟩ := q
        rw [h2] at h
        simp only at h
        injection h with h
        injection h with h3 h4
        obtain ⟨a1, a2, a3⟩ := ih _ h2
        obtain ⟨b1, b2⟩ := dec1_le h1
        rw [List.length_drop] at a1
        subst h3
        subst h4
        simp only [List.length_cons]
        omega

theorem some_errs (ks : List Int) : ∀ (b : List UInt8) {e : Int}, some_ ks b = .error e → e = eForm ∨ e = eEnd ∨ e = eLong := by
  induction ks with
  | nil => intro b e h; simp only [some_] at h; cases h
  | cons k r ih =>
    intro b e h
    simp only [some_] at h
    cases h1 : dec1 k b with
    | error e1 => rw [h1] at h; simp only at h; injection h with h; subst h; exact dec1_errs h1
    | ok p =>
      obtain ⟨f, n1⟩ := p
      rw [h1] at h
      simp only at h
      cases h2 : some_ r (b.drop n1) with
      | error e2 => rw [h2] at h; simp only at h; injection h with h; subst h; exact ih _ h2
      | ok q => rw [h2] at h; simp only at h; cases h

end Go.Proofs.Ytbenoopgpgffjaa.Pack
