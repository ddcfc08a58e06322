/- Plain mathematics of the slide: which fields are on a thread, and which are told, while the heap is gone through twice. -/
import Derived.Test.YtlkfbmebeodbmaaThr
set_option linter.unusedVariables false
namespace Go.Thr

/-- The objects that stay: their places, sizes, fields; what they and the roots point at. -/
structure Geo (W R : List Int) (M : List Nat) (sz nf : Nat → Nat) : Prop where
  sorted : M.Pairwise (· < ·)
  apart : ∀ b ∈ M, ∀ c ∈ M, b < c → b + sz b < c
  inW : ∀ b ∈ M, b + sz b < W.length
  nfle : ∀ b ∈ M, nf b ≤ sz b
  rootsT : ∀ x ∈ R, tg x = 5 → 0 ≤ vl x ∧ (vl x).toNat ∈ M
  fieldsT : ∀ b ∈ M, ∀ k, k < nf b → tg (W.getD (b + 1 + k) 0) = 5 → 0 ≤ vl (W.getD (b + 1 + k) 0) ∧ (vl (W.getD (b + 1 + k) 0)).toNat ∈ M

def orig (W R : List Int) : Fld → Int
  | .root i => R.getD i 0
  | .mem a => W.getD a 0
def isFld (M : List Nat) (nf : Nat → Nat) (a : Nat) : Bool := M.any fun b => decide (b < a ∧ a ≤ b + nf b)
/-- What a field points at. -/
def tgt (W R : List Int) (M : List Nat) (nf : Nat → Nat) : Fld → Option Nat
  | .root i => if i < R.length ∧ tg (R.getD i 0) = 5 then some (vl (R.getD i 0)).toNat else none
  | .mem a => if isFld M nf a = true ∧ tg (W.getD a 0) = 5 then some (vl (W.getD a 0)).toNat else none
/-- The new place. -/
def np (M : List Nat) (sz : Nat → Nat) (j : Nat) : Nat := ((M.filter fun b => decide (b < j)).map fun b => 1 + sz b).sum
def nwd (M : List Nat) (sz : Nat → Nat) (j : Nat) : Int := mkw 5 (np M sz j)
def pos : Fld → Int
  | .root _ => -1
  | .mem a => a

section
variable {W R : List Int} {M : List Nat} {sz nf : Nat → Nat}

theorem isFld_iff {a : Nat} : isFld M nf a = true ↔ ∃ b ∈ M, b < a ∧ a ≤ b + nf b := by simp [isFld]

theorem Geo.target (G : Geo W R M sz nf) {f : Fld} {j : Nat} (h : tgt W R M nf f = some j) : j ∈ M ∧ tg (orig W R f) = 5 ∧ vl (orig W R f) = j := by
  cases f with
  | root i =>
    simp only [tgt] at h
    split at h
    · rename_i hc
      have hmem : R.getD i 0 ∈ R := by rw [List.getD_eq_getElem?_getD, List.getElem?_eq_getElem hc.1]; exact List.getElem_mem hc.1
      have := G.rootsT _ hmem hc.2
      have e := Option.some.inj h
      subst e
      exact ⟨this.2, hc.2, by simp only [orig]; omega⟩
    · cases h
  | mem a =>
    simp only [tgt] at h
    split at h
    · rename_i hc
      obtain ⟨b, hb, h1, h2⟩ := isFld_iff.1 hc.1
      have ea : b + 1 + (a - b - 1) = a := by omega
      have := G.fieldsT b hb (a - b - 1) (by omega) (by rw [ea]; exact hc.2)
      rw [ea] at this
      have e := Option.some.inj h
      subst e
      exact ⟨this.2, hc.2, by simp only [orig]; omega⟩
    · cases h

theorem Geo.notHead (G : Geo W R M sz nf) {f : Fld} (h : tgt W R M nf f ≠ none) : ∀ b, b ∈ M → f ≠ .mem b := by
  intro b hb e
  subst e
  simp only [tgt] at h
  split at h
  · rename_i hc
    obtain ⟨c, hc', h1, h2⟩ := isFld_iff.1 hc.1
    have := G.apart c hc' b hb h1
    have := G.nfle c hc'
    omega
  · exact h rfl

theorem Geo.headNone (G : Geo W R M sz nf) {b : Nat} (hb : b ∈ M) : tgt W R M nf (.mem b) = none := by
  apply Classical.byContradiction
  intro h
  exact G.notHead h b hb rfl

/-- Where a field of what stays lies. -/
theorem Geo.owner (G : Geo W R M sz nf) {f : Fld} (h : tgt W R M nf f ≠ none) : pos f = -1 ∨ ∃ b ∈ M, (b : Int) < pos f ∧ pos f ≤ b + nf b := by
  cases f with
  | root i => exact .inl rfl
  | mem a =>
    right
    simp only [tgt] at h
    split at h
    · rename_i hc
      obtain ⟨b, hb, h1, h2⟩ := isFld_iff.1 hc.1
      exact ⟨b, hb, by simp only [pos]; omega, by simp only [pos]; omega⟩
    · exact absurd rfl h

abbrev Stnd (W R : List Int) (M : List Nat) (sz nf : Nat → Nat) (m : Fld → Int) (on told : Fld → Prop) : Prop := Stands m (orig W R) (· ∈ M) (tgt W R M nf) (nwd M sz) on told

def onUp (W R : List Int) (M : List Nat) (nf : Nat → Nat) (p : Nat) (f : Fld) : Prop := ∃ j, tgt W R M nf f = some j ∧ pos f < p ∧ (p ≤ j ∨ (j : Int) < pos f)
def toldUp (W R : List Int) (M : List Nat) (nf : Nat → Nat) (p : Nat) (f : Fld) : Prop := ∃ j, tgt W R M nf f = some j ∧ pos f < j ∧ j < p
def onMid (W R : List Int) (M : List Nat) (nf : Nat → Nat) (p q : Nat) (f : Fld) : Prop := ∃ j, tgt W R M nf f = some j ∧ ((pos f < p ∧ (p < j ∨ (j : Int) < pos f)) ∨ ((p : Int) < pos f ∧ pos f < q))
def toldMid (W R : List Int) (M : List Nat) (nf : Nat → Nat) (p : Nat) (f : Fld) : Prop := ∃ j, tgt W R M nf f = some j ∧ pos f < j ∧ j ≤ p
def onDown (W R : List Int) (M : List Nat) (nf : Nat → Nat) (p : Nat) (f : Fld) : Prop := ∃ j, tgt W R M nf f = some j ∧ (j : Int) < pos f ∧ p ≤ j
def toldDown (W R : List Int) (M : List Nat) (nf : Nat → Nat) (p : Nat) (f : Fld) : Prop := ∃ j, tgt W R M nf f = some j ∧ (pos f < j ∨ j < p)
def onRoots (i : Nat) (f : Fld) : Prop := ∃ k, k < i ∧ f = .root k

theorem some_iff {f : Fld} {T : Fld → Option Nat} {j : Nat} (h : T f = some j) (P : Nat → Prop) : (∃ i, T f = some i ∧ P i) ↔ P j :=
  ⟨fun ⟨i, hi, hp⟩ => by rw [h] at hi; cases hi; exact hp, fun hp => ⟨j, h, hp⟩⟩

/-- The first object, or the end. -/
theorem Geo.roots_done (G : Geo W R M sz nf) {m : Fld → Int} (H : Stnd W R M sz nf m (onRoots R.length) (fun _ => False)) {p : Nat} (hp : ∀ b ∈ M, p ≤ b) :
    Stnd W R M sz nf m (onUp W R M nf p) (toldUp W R M nf p) := by
  refine H.congr (fun f hf => ?_) (fun f hf => ?_)
  · obtain ⟨j, hj⟩ := Option.ne_none_iff_exists'.1 hf
    have hjM := (G.target hj).1
    unfold onUp; rw [some_iff hj]
    have := hp j hjM
    rcases G.owner hf with ho | ⟨b, hb, h1, h2⟩
    · constructor
      · intro _; exact ⟨by omega, .inl this⟩
      · intro _
        cases f with
        | root i =>
          simp only [tgt] at hj
          split at hj
          · rename_i hc; exact ⟨i, hc.1, rfl⟩
          · cases hj
        | mem a => simp only [pos] at ho; omega
    · have := hp b hb
      constructor
      · rintro ⟨k, _, rfl⟩; simp only [pos] at h1; omega
      · rintro ⟨h3, _⟩; omega
  · obtain ⟨j, hj⟩ := Option.ne_none_iff_exists'.1 hf
    have hjM := (G.target hj).1
    unfold toldUp; rw [some_iff hj]
    have := hp j hjM
    constructor
    · intro h; exact h.elim
    · rintro ⟨_, h⟩; omega

theorem Geo.up_off (G : Geo W R M sz nf) {m : Fld → Int} {a : Nat} (ha : a ∈ M)
    (H : Stnd W R M sz nf m (fun g => onUp W R M nf a g ∧ tgt W R M nf g ≠ some a) (fun g => toldUp W R M nf a g ∨ (onUp W R M nf a g ∧ tgt W R M nf g = some a))) :
    Stnd W R M sz nf m (onMid W R M nf a (a + 1)) (toldMid W R M nf a) := by
  refine H.congr (fun f hf => ?_) (fun f hf => ?_)
  · obtain ⟨j, hj⟩ := Option.ne_none_iff_exists'.1 hf
    unfold onUp onMid; rw [some_iff hj, some_iff hj, hj]
    have hne := G.notHead hf a ha
    constructor
    · rintro ⟨⟨h1, h2⟩, h3⟩
      have : j ≠ a := fun e => h3 (by rw [e])
      exact .inl ⟨h1, by omega⟩
    · rintro (⟨h1, h2⟩ | ⟨h1, h2⟩)
      · exact ⟨⟨h1, by omega⟩, fun e => by have := Option.some.inj e; omega⟩
      · omega
  · obtain ⟨j, hj⟩ := Option.ne_none_iff_exists'.1 hf
    unfold onUp toldUp toldMid; rw [some_iff hj, some_iff hj, some_iff hj, hj]
    constructor
    · rintro (⟨h1, h2⟩ | ⟨⟨h1, h2⟩, h3⟩)
      · exact ⟨h1, by omega⟩
      · have := Option.some.inj h3; subst this
        exact ⟨by omega, Nat.le_refl _⟩
    · rintro ⟨h1, h2⟩
      rcases Nat.lt_or_ge j a with h | h
      · exact .inl ⟨h1, h⟩
      · have : j = a := by omega
        subst this
        exact .inr ⟨⟨h1, .inl (Nat.le_refl _)⟩, rfl⟩

theorem Geo.up_push (G : Geo W R M sz nf) {m : Fld → Int} {a q : Nat} (haq : a < q) (H : Stnd W R M sz nf m (fun g => onMid W R M nf a q g ∨ g = .mem q) (toldMid W R M nf a)) (hq : tgt W R M nf (.mem q) ≠ none) :
    Stnd W R M sz nf m (onMid W R M nf a (q + 1)) (toldMid W R M nf a) := by
  refine H.congr (fun f hf => ?_) (fun f hf => Iff.rfl)
  obtain ⟨j, hj⟩ := Option.ne_none_iff_exists'.1 hf
  unfold onMid; rw [some_iff hj, some_iff hj]
  constructor
  · rintro ((h | ⟨h1, h2⟩) | rfl)
    · exact .inl h
    · exact .inr ⟨h1, by omega⟩
    · exact .inr ⟨by simp only [pos]; omega, by simp only [pos]; omega⟩
  · rintro (h | ⟨h1, h2⟩)
    · exact .inl (.inl h)
    · by_cases e : f = .mem q
      · exact .inr e
      · refine .inl (.inr ⟨h1, ?_⟩)
        cases f with
        | root i => simp only [pos] at h1; omega
        | mem b =>
          have : b ≠ q := fun e' => e (by rw [e'])
          simp only [pos] at h1 h2 ⊢; omega

theorem Geo.up_skip (G : Geo W R M sz nf) {m : Fld → Int} {a q : Nat} (H : Stnd W R M sz nf m (onMid W R M nf a q) (toldMid W R M nf a)) (hq : tgt W R M nf (.mem q) = none) :
    Stnd W R M sz nf m (onMid W R M nf a (q + 1)) (toldMid W R M nf a) := by
  refine H.congr (fun f hf => ?_) (fun f hf => Iff.rfl)
  obtain ⟨j, hj⟩ := Option.ne_none_iff_exists'.1 hf
  unfold onMid; rw [some_iff hj, some_iff hj]
  constructor
  · rintro (h | ⟨h1, h2⟩)
    · exact .inl h
    · exact .inr ⟨h1, by omega⟩
  · rintro (h | ⟨h1, h2⟩)
    · exact .inl h
    · refine .inr ⟨h1, ?_⟩
      cases f with
      | root i => simp only [pos] at h1; omega
      | mem b =>
        have : b ≠ q := fun e' => hf (by rw [e']; exact hq)
        simp only [pos] at h1 h2 ⊢; omega

theorem Geo.up_next (G : Geo W R M sz nf) {m : Fld → Int} {a p' : Nat} (ha : a ∈ M) (hp : a < p') (hgap : ∀ b ∈ M, b ≤ a ∨ p' ≤ b) (H : Stnd W R M sz nf m (onMid W R M nf a (a + 1 + nf a)) (toldMid W R M nf a)) (hend : a + nf a < p') :
    Stnd W R M sz nf m (onUp W R M nf p') (toldUp W R M nf p') := by
  refine H.congr (fun f hf => ?_) (fun f hf => ?_)
  · obtain ⟨j, hj⟩ := Option.ne_none_iff_exists'.1 hf
    have hjM := (G.target hj).1
    have hg := hgap j hjM
    unfold onUp onMid; rw [some_iff hj, some_iff hj]
    have ho := G.owner hf
    have hnh := G.notHead hf
    constructor
    · rintro (⟨h1, h2⟩ | ⟨h1, h2⟩)
      · exact ⟨by omega, by omega⟩
      · exact ⟨by omega, by omega⟩
    · rintro ⟨h1, h2⟩
      rcases ho with ho | ⟨b, hb, h3, h4⟩
      · exact .inl ⟨by omega, by omega⟩
      · have hgb := hgap b hb
        rcases Nat.lt_or_ge b a with hlt | hge
        · have := G.apart b hb a ha hlt
          have := G.nfle b hb
          exact .inl ⟨by omega, by omega⟩
        · have : b = a := by omega
          subst this
          exact .inr ⟨h3, by omega⟩
  · obtain ⟨j, hj⟩ := Option.ne_none_iff_exists'.1 hf
    have hjM := (G.target hj).1
    have hg := hgap j hjM
    unfold toldUp toldMid; rw [some_iff hj, some_iff hj]
    constructor
    · rintro ⟨h1, h2⟩; exact ⟨h1, by omega⟩
    · rintro ⟨h1, h2⟩; exact ⟨h1, by omega⟩

theorem Geo.turn (G : Geo W R M sz nf) {m : Fld → Int} {e p : Nat} (he : ∀ b ∈ M, b + sz b < e) (hp : ∀ b ∈ M, p ≤ b) (H : Stnd W R M sz nf m (onUp W R M nf e) (toldUp W R M nf e)) :
    Stnd W R M sz nf m (onDown W R M nf p) (toldDown W R M nf p) := by
  refine H.congr (fun f hf => ?_) (fun f hf => ?_)
  · obtain ⟨j, hj⟩ := Option.ne_none_iff_exists'.1 hf
    have hjM := (G.target hj).1
    have h1 := he j hjM
    have h2 := hp j hjM
    unfold onUp onDown; rw [some_iff hj, some_iff hj]
    have hpe : pos f < e := by
      rcases G.owner hf with ho | ⟨b, hb, h3, h4⟩
      · omega
      · have := he b hb; have := G.nfle b hb; omega
    constructor
    · rintro ⟨_, h⟩; exact ⟨by omega, h2⟩
    · rintro ⟨h, _⟩; exact ⟨hpe, .inr h⟩
  · obtain ⟨j, hj⟩ := Option.ne_none_iff_exists'.1 hf
    have hjM := (G.target hj).1
    have h1 := he j hjM
    have h2 := hp j hjM
    unfold toldUp toldDown; rw [some_iff hj, some_iff hj]
    constructor
    · rintro ⟨h, _⟩; exact .inl h
    · rintro (h | h)
      · exact ⟨h, by omega⟩
      · omega

theorem Geo.down_off (G : Geo W R M sz nf) {m : Fld → Int} {a p' : Nat} (ha : a ∈ M) (hp : a < p') (hgap : ∀ b ∈ M, b ≤ a ∨ p' ≤ b)
    (H : Stnd W R M sz nf m (fun g => onDown W R M nf a g ∧ tgt W R M nf g ≠ some a) (fun g => toldDown W R M nf a g ∨ (onDown W R M nf a g ∧ tgt W R M nf g = some a))) :
    Stnd W R M sz nf m (onDown W R M nf p') (toldDown W R M nf p') := by
  refine H.congr (fun f hf => ?_) (fun f hf => ?_)
  · obtain ⟨j, hj⟩ := Option.ne_none_iff_exists'.1 hf
    have hg := hgap j (G.target hj).1
    unfold onDown; rw [some_iff hj, some_iff hj, hj]
    constructor
    · rintro ⟨⟨h1, h2⟩, h3⟩
      have : j ≠ a := fun e => h3 (by rw [e])
      exact ⟨h1, by omega⟩
    · rintro ⟨h1, h2⟩
      exact ⟨⟨h1, by omega⟩, fun e => by have := Option.some.inj e; omega⟩
  · obtain ⟨j, hj⟩ := Option.ne_none_iff_exists'.1 hf
    have hg := hgap j (G.target hj).1
    have hne := G.notHead hf a ha
    have hpa : pos f ≠ a := by
      cases f with
      | root i => simp only [pos]; omega
      | mem b => simp only [pos]; intro e; exact hne (by congr 1; omega)
    unfold onDown toldDown; rw [some_iff hj, some_iff hj, some_iff hj, hj]
    constructor
    · rintro ((h | h) | ⟨_, h3⟩)
      · exact .inl h
      · exact .inr (by omega)
      · have := Option.some.inj h3; exact .inr (by omega)
    · rintro (h | h)
      · exact .inl (.inl h)
      · rcases Nat.lt_or_ge j a with h' | h'
        · exact .inl (.inr h')
        · have : j = a := by omega
          subst this
          rcases Int.lt_or_le (pos f) j with h'' | h''
          · exact .inl (.inl h'')
          · exact .inr ⟨⟨by omega, Nat.le_refl _⟩, rfl⟩
end
end Go.Thr
