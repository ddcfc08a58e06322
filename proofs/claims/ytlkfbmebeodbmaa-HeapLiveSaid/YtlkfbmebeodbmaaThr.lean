/- Plain mathematics of pointers turned round (threads): no program in sight. -/
set_option linter.unusedVariables false
namespace Go.Thr

inductive Fld where
  | root (i : Nat)
  | mem (a : Nat)
  deriving DecidableEq

def Fld.idx : Fld → Nat
  | .root i => i
  | .mem a => a

def Fld.isRoot : Fld → Bool
  | .root _ => true
  | .mem _ => false

def tg (w : Int) : Int := w % 16
def vl (w : Int) : Int := if w < 9223372036854775808 then w / 16 else (w - 18446744073709551616) / 16
def mkw (t n : Int) : Int := (n * 16 + t) % 18446744073709551616

theorem tg_range (w : Int) : 0 ≤ tg w ∧ tg w < 16 := by unfold tg; omega
theorem vl_range (w : Int) (h0 : 0 ≤ w) (h1 : w < 18446744073709551616) : -576460752303423488 ≤ vl w ∧ vl w < 576460752303423488 := by unfold vl; split <;> omega
theorem tg_mkw {t n : Int} (h0 : 0 ≤ t) (h1 : t < 16) : tg (mkw t n) = t := by unfold tg mkw; omega
theorem vl_mkw {t n : Int} (h0 : 0 ≤ t) (h1 : t < 16) (h2 : -576460752303423488 ≤ n) (h3 : n < 576460752303423488) : vl (mkw t n) = n := by
  unfold vl mkw; split <;> omega
theorem mkw_range (t n : Int) : 0 ≤ mkw t n ∧ mkw t n < 18446744073709551616 := by unfold mkw; omega
theorem mkw_eta (w : Int) (h0 : 0 ≤ w) (h1 : w < 18446744073709551616) : mkw (tg w) (vl w) = w := by
  unfold mkw tg vl; split <;> omega

/-- A link to a field. -/
def lk : Fld → Int
  | .root i => mkw 7 (2 * (i : Int) + 1)
  | .mem a => mkw 7 (2 * (a : Int))
/-- The field that a link names. -/
def un (w : Int) : Fld := if vl w % 2 = 1 then .root (vl w / 2).toNat else .mem (vl w / 2).toNat

theorem tg_lk (f : Fld) : tg (lk f) = 7 := by cases f <;> exact tg_mkw (by omega) (by omega)
theorem un_lk (f : Fld) (h : f.idx < 144115188075855872) : un (lk f) = f := by
  cases f with
  | root i =>
    simp only [Fld.idx] at h
    have : vl (lk (.root i)) = 2 * (i : Int) + 1 := by
      have h2 : (-576460752303423488 : Int) ≤ 2 * (i : Int) + 1 := by omega
      have h3 : 2 * (i : Int) + 1 < (576460752303423488 : Int) := by omega
      exact vl_mkw (t := 7) (n := 2 * (i : Int) + 1) (by decide) (by decide) h2 h3
    unfold un; rw [this, if_pos (by omega), show ((2 * (i : Int) + 1) / 2).toNat = i from by omega]
  | mem a =>
    simp only [Fld.idx] at h
    have : vl (lk (.mem a)) = 2 * (a : Int) := by
      have h2 : (-576460752303423488 : Int) ≤ 2 * (a : Int) := by omega
      have h3 : 2 * (a : Int) < (576460752303423488 : Int) := by omega
      exact vl_mkw (t := 7) (n := 2 * (a : Int)) (by decide) (by decide) h2 h3
    unfold un; rw [this, if_neg (by omega), show (2 * (a : Int) / 2).toNat = a from by omega]

def upd (m : Fld → Int) (l : Fld) (v : Int) : Fld → Int := fun x => if x = l then v else m x
theorem upd_same (m : Fld → Int) (l : Fld) (v : Int) : upd m l v l = v := by simp [upd]
theorem upd_other (m : Fld → Int) {l x : Fld} (v : Int) (h : x ≠ l) : upd m l v x = m x := by simp [upd, h]

/-- From the word w on: the fields of a thread, and the word at its end. -/
def seq (m : Fld → Int) : Int → List Fld → Int → Prop
  | w, [], h => w = h
  | w, f :: fs, h => w = lk f ∧ seq m (m f) fs h

theorem seq_congr {m m' : Fld → Int} {h : Int} : ∀ (fs : List Fld) (w : Int), (∀ f ∈ fs, m' f = m f) → seq m w fs h → seq m' w fs h
  | [], _, _, hs => hs
  | f :: fs, w, hm, hs => by
    obtain ⟨h1, h2⟩ := hs
    refine ⟨h1, ?_⟩
    rw [hm f (by simp)]
    exact seq_congr fs (m f) (fun g hg => hm g (by simp [hg])) h2

/-- All fields off a thread: they hold p, and what the thread was laid over is there again. -/
def off (m : Fld → Int) (a : Fld) (fs : List Fld) (h p : Int) : Fld → Int := fun l => if l = a then h else if l ∈ fs then p else m l

/-- One field taken off the thread at a. -/
def pop (m : Fld → Int) (a f : Fld) (p : Int) : Fld → Int := upd (upd m a (m f)) f p

theorem seq_pop {m : Fld → Int} {a f : Fld} {fs : List Fld} {h p : Int} (hnd : (f :: fs).Nodup) (ha : a ∉ f :: fs) (hs : seq m (m a) (f :: fs) h) :
    seq (pop m a f p) (pop m a f p a) fs h := by
  obtain ⟨_, h2⟩ := hs
  have hfa : a ≠ f := fun e => ha (by simp [e])
  have e1 : pop m a f p a = m f := by simp [pop, upd, hfa]
  rw [e1]
  refine seq_congr fs _ (fun g hg => ?_) h2
  have hgf : g ≠ f := fun e => by subst e; exact (List.nodup_cons.1 hnd).1 hg
  have hga : g ≠ a := fun e => ha (by subst e; simp [hg])
  simp [pop, upd, hgf, hga]

theorem off_pop {m : Fld → Int} {a f : Fld} {fs : List Fld} {h p : Int} (ha : a ∉ f :: fs) : off (pop m a f p) a fs h p = off m a (f :: fs) h p := by
  funext l
  have hfa : a ≠ f := fun e => ha (by simp [e])
  unfold off pop upd
  by_cases e1 : l = a
  · simp [e1]
  · by_cases e2 : l = f
    · simp [e2, hfa.symm]
    · by_cases e3 : l ∈ fs <;> simp [e1, e2, e3]

theorem off_nil {m : Fld → Int} {a : Fld} {h p : Int} (hs : m a = h) : off m a [] h p = m := by
  funext l; unfold off; by_cases e : l = a <;> simp [e, hs]

/-- A field put on the thread of what it points at (at a). -/
def push (m : Fld → Int) (f a : Fld) : Fld → Int := upd (upd m f (m a)) a (lk f)

/-- m: the words as they stand; C: of each place the fields on its thread; M: the words with no threads laid; hd: where headers are. -/
structure Laid (m : Fld → Int) (C : Nat → List Fld) (M : Fld → Int) (hd : Nat → Prop) : Prop where
  nodup : ∀ a, (C a).Nodup
  disj : ∀ a b f, f ∈ C a → f ∈ C b → a = b
  fld : ∀ a f, f ∈ C a → ∀ b, hd b → f ≠ .mem b
  only : ∀ a f, f ∈ C a → hd a
  sq : ∀ a, hd a → seq m (m (.mem a)) (C a) (M (.mem a))
  oth : ∀ l, (∀ a, hd a → l ≠ .mem a) → (∀ a, l ∉ C a) → m l = M l

theorem Laid.push {m : Fld → Int} {C : Nat → List Fld} {M : Fld → Int} {hd : Nat → Prop} (H : Laid m C M hd) {f : Fld} {a : Nat} (ha : hd a) (hf : ∀ b, hd b → f ≠ .mem b) (hn : ∀ b, f ∉ C b) :
    Laid (push m f (.mem a)) (fun b => if b = a then f :: C a else C b) M hd := by
  have hfa : f ≠ .mem a := hf a ha
  constructor
  · intro b
    by_cases e : b = a
    · subst e; simp [List.nodup_cons, hn b, H.nodup b]
    · simp [e, H.nodup b]
  · intro b c g hg hg'
    by_cases e : b = a <;> by_cases e' : c = a
    · rw [e, e']
    · simp only [e, e', if_true, if_false, List.mem_cons] at hg hg'
      rcases hg with rfl | hg
      · exact absurd hg' (hn c)
      · exact e.trans (H.disj a c g hg hg')
    · simp only [e, e', if_true, if_false, List.mem_cons] at hg hg'
      rcases hg' with rfl | hg'
      · exact absurd hg (hn b)
      · exact (H.disj b a g hg hg').trans e'.symm
    · simp only [e, e', if_false] at hg hg'
      exact H.disj b c g hg hg'
  · intro b g hg c hc
    by_cases e : b = a
    · simp only [e, if_true, List.mem_cons] at hg
      rcases hg with rfl | hg
      · exact hf c hc
      · exact H.fld a g hg c hc
    · simp only [e, if_false] at hg
      exact H.fld b g hg c hc
  · intro b g hg
    by_cases e : b = a
    · rw [e]; exact ha
    · simp only [e, if_false] at hg
      exact H.only b g hg
  · intro b hb
    by_cases e : b = a
    · subst e
      simp only [if_true]
      refine ⟨by simp [Thr.push, upd], ?_⟩
      have : Thr.push m f (.mem b) f = m (.mem b) := by simp [Thr.push, upd, hfa]
      rw [this]
      refine seq_congr _ _ (fun g hg => ?_) (H.sq b hb)
      have h1 : g ≠ f := fun e => hn b (e ▸ hg)
      have h2 : g ≠ .mem b := H.fld b g hg b hb
      simp [Thr.push, upd, h1, h2]
    · simp only [e, if_false]
      have h0 : Fld.mem b ≠ .mem a := by intro e'; exact e (Fld.mem.inj e')
      have h0' : Fld.mem b ≠ f := fun e' => hf b hb e'.symm
      have : Thr.push m f (.mem a) (.mem b) = m (.mem b) := by simp [Thr.push, upd, h0, h0']
      rw [this]
      refine seq_congr _ _ (fun g hg => ?_) (H.sq b hb)
      have h1 : g ≠ f := fun e => hn b (e ▸ hg)
      have h2 : g ≠ .mem a := H.fld b g hg a ha
      simp [Thr.push, upd, h1, h2]
  · intro l hl hl'
    have h1 : l ≠ f := fun e => by have := hl' a; simp [e] at this
    have h2 : l ≠ .mem a := hl a ha
    have : Thr.push m f (.mem a) l = m l := by simp [Thr.push, upd, h1, h2]
    rw [this]
    refine H.oth l hl fun b hb => ?_
    by_cases e : b = a
    · subst e; have := hl' b; simp [hb] at this
    · have := hl' b; simp [e] at this; exact this hb

theorem Laid.off {m : Fld → Int} {C : Nat → List Fld} {M : Fld → Int} {hd : Nat → Prop} (H : Laid m C M hd) {a : Nat} (ha : hd a) (p : Int) :
    Laid (off m (.mem a) (C a) (M (.mem a)) p) (fun b => if b = a then [] else C b) (fun l => if l ∈ C a then p else M l) hd := by
  constructor
  · intro b; by_cases e : b = a <;> simp [e, H.nodup]
  · intro b c g hg hg'
    by_cases e : b = a
    · simp [e] at hg
    · by_cases e' : c = a
      · simp [e'] at hg'
      · simp only [e, e', if_false] at hg hg'; exact H.disj b c g hg hg'
  · intro b g hg c hc
    by_cases e : b = a
    · simp [e] at hg
    · simp only [e, if_false] at hg; exact H.fld b g hg c hc
  · intro b g hg
    by_cases e : b = a
    · simp [e] at hg
    · simp only [e, if_false] at hg; exact H.only b g hg
  · intro b hb
    have hbC : Fld.mem b ∉ C a := fun h => H.fld a _ h b hb rfl
    simp only [hbC, if_false]
    by_cases e : b = a
    · subst e; simp [seq, Thr.off]
    · simp only [e, if_false]
      have h0 : Fld.mem b ≠ .mem a := by intro e'; exact e (Fld.mem.inj e')
      have : Thr.off m (.mem a) (C a) (M (.mem a)) p (.mem b) = m (.mem b) := by simp [Thr.off, h0, hbC]
      rw [this]
      refine seq_congr _ _ (fun g hg => ?_) (H.sq b hb)
      have h1 : g ≠ .mem a := H.fld b g hg a ha
      have h2 : g ∉ C a := fun h => e (H.disj b a g hg h)
      simp [Thr.off, h1, h2]
  · intro l hl hl'
    have h2 : l ≠ .mem a := hl a ha
    by_cases e : l ∈ C a
    · simp [Thr.off, h2, e]
    · simp only [Thr.off, h2, e, if_false]
      refine H.oth l hl fun b hb => ?_
      by_cases e' : b = a
      · subst e'; exact e hb
      · have := hl' b; simp [e'] at this; exact this hb

/-- The same, told by which fields are on a thread and which have been told their new place. T: the place that a field points at, as it was; nw: the word for the new one. -/
def Stands (m orig : Fld → Int) (hd : Nat → Prop) (T : Fld → Option Nat) (nw : Nat → Int) (on told : Fld → Prop) : Prop :=
  ∃ C M, Laid m C M hd ∧ (∀ a f, f ∈ C a ↔ on f ∧ T f = some a) ∧ (∀ l a, told l → T l = some a → M l = nw a) ∧ (∀ l, (¬ told l ∨ T l = none) → M l = orig l)

theorem Stands.start {orig : Fld → Int} {hd : Nat → Prop} {T : Fld → Option Nat} {nw : Nat → Int} : Stands orig orig hd T nw (fun _ => False) (fun _ => False) :=
  ⟨fun _ => [], orig, ⟨by simp, by simp, by simp, by simp, fun _ _ => rfl, fun _ _ _ => rfl⟩, by simp, by simp, fun _ _ => rfl⟩

theorem Stands.congr {m orig : Fld → Int} {hd : Nat → Prop} {T : Fld → Option Nat} {nw : Nat → Int} {on told on' told' : Fld → Prop}
    (H : Stands m orig hd T nw on told) (h1 : ∀ f, T f ≠ none → (on f ↔ on' f)) (h2 : ∀ f, T f ≠ none → (told f ↔ told' f)) : Stands m orig hd T nw on' told' := by
  obtain ⟨C, M, hL, hC, hM, hM'⟩ := H
  refine ⟨C, M, hL, fun a f => ?_, fun l a hl ht => hM l a ((h2 l (by simp [ht])).2 hl) ht, fun l hl => hM' l ?_⟩
  · rw [hC]
    constructor
    · rintro ⟨x, y⟩; exact ⟨(h1 f (by simp [y])).1 x, y⟩
    · rintro ⟨x, y⟩; exact ⟨(h1 f (by simp [y])).2 x, y⟩
  · rcases hl with hl | hl
    · cases hT : T l with
      | none => exact .inr rfl
      | some a => exact .inl fun h => hl ((h2 l (by simp [hT])).1 h)
    · exact .inr hl

/-- What a place holds that is no header and on no thread. -/
theorem Stands.free {m orig : Fld → Int} {hd : Nat → Prop} {T : Fld → Option Nat} {nw : Nat → Int} {on told : Fld → Prop} (H : Stands m orig hd T nw on told)
    {l : Fld} (hl : ∀ a, hd a → l ≠ .mem a) (h : ¬ on l) (h' : ¬ told l ∨ T l = none) : m l = orig l := by
  obtain ⟨C, M, hL, hC, hM, hM'⟩ := H
  rw [hL.oth l hl (fun a ha => h ((hC a l).1 ha).1), hM' l h']

theorem Stands.new {m orig : Fld → Int} {hd : Nat → Prop} {T : Fld → Option Nat} {nw : Nat → Int} {on told : Fld → Prop} (H : Stands m orig hd T nw on told)
    {l : Fld} (hl : ∀ a, hd a → l ≠ .mem a) (h : ¬ on l) (h' : told l) {a : Nat} (ha : T l = some a) : m l = nw a := by
  obtain ⟨C, M, hL, hC, hM, hM'⟩ := H
  rw [hL.oth l hl (fun a ha => h ((hC a l).1 ha).1), hM l a h' ha]

/-- A header on which there is no thread. -/
theorem Stands.head {m orig : Fld → Int} {hd : Nat → Prop} {T : Fld → Option Nat} {nw : Nat → Int} {on told : Fld → Prop} (H : Stands m orig hd T nw on told)
    {a : Nat} (ha : hd a) (hT : T (.mem a) = none) (h : ∀ f, on f → T f ≠ some a) : m (.mem a) = orig (.mem a) := by
  obtain ⟨C, M, hL, hC, hM, hM'⟩ := H
  have hemp : C a = [] := List.eq_nil_iff_forall_not_mem.2 fun f hf => h f ((hC a f).1 hf).1 ((hC a f).1 hf).2
  have := hL.sq a ha
  rw [hemp] at this
  rw [show m (.mem a) = M (.mem a) from this, hM' _ (.inr hT)]

theorem Stands.push {m orig : Fld → Int} {hd : Nat → Prop} {T : Fld → Option Nat} {nw : Nat → Int} {on told : Fld → Prop} (H : Stands m orig hd T nw on told)
    {f : Fld} {a : Nat} (ha : hd a) (hf : ∀ b, hd b → f ≠ .mem b) (hT : T f = some a) (hn : ¬ on f) (ht : ¬ told f) :
    Stands (push m f (.mem a)) orig hd T nw (fun g => on g ∨ g = f) told := by
  obtain ⟨C, M, hL, hC, hM, hM'⟩ := H
  refine ⟨_, M, hL.push ha hf (fun b hb => hn ((hC b f).1 hb).1), fun b g => ?_, hM, hM'⟩
  by_cases e : b = a
  · subst e
    simp only [if_true, List.mem_cons, hC]
    constructor
    · rintro (rfl | ⟨x, y⟩)
      · exact ⟨.inr rfl, hT⟩
      · exact ⟨.inl x, y⟩
    · rintro ⟨x | x, y⟩
      · exact .inr ⟨x, y⟩
      · exact .inl x
  · simp only [e, if_false, hC]
    constructor
    · rintro ⟨x, y⟩; exact ⟨.inl x, y⟩
    · rintro ⟨x | x, y⟩
      · exact ⟨x, y⟩
      · subst x; rw [hT] at y; exact absurd (Option.some.inj y).symm e

/-- Taken off a thread: what the caller needs to run it (fs, h), and what stands behind it. -/
theorem Stands.off {m orig : Fld → Int} {hd : Nat → Prop} {T : Fld → Option Nat} {nw : Nat → Int} {on told : Fld → Prop} (H : Stands m orig hd T nw on told)
    {a : Nat} (ha : hd a) (hTh : ∀ b, hd b → T (.mem b) = none) :
    ∃ fs, fs.Nodup ∧ (∀ f ∈ fs, on f ∧ T f = some a) ∧ (Fld.mem a) ∉ fs ∧ seq m (m (.mem a)) fs (orig (.mem a)) ∧
      Stands (Thr.off m (.mem a) fs (orig (.mem a)) (nw a)) orig hd T nw (fun g => on g ∧ T g ≠ some a) (fun g => told g ∨ (on g ∧ T g = some a)) := by
  obtain ⟨C, M, hL, hC, hM, hM'⟩ := H
  have hMa : M (.mem a) = orig (.mem a) := hM' _ (.inr (hTh a ha))
  refine ⟨C a, hL.nodup a, fun f hf => (hC a f).1 hf, fun h => hL.fld a _ h a ha rfl, by rw [← hMa]; exact hL.sq a ha, _, _, by rw [← hMa]; exact hL.off ha (nw a), ?_, ?_, ?_⟩
  · intro b g
    by_cases e : b = a
    · subst e; simp
    · simp only [e, if_false, hC]
      constructor
      · rintro ⟨x, y⟩; exact ⟨⟨x, by rw [y]; simpa using e⟩, y⟩
      · rintro ⟨⟨x, _⟩, y⟩; exact ⟨x, y⟩
  · intro l b hl hT
    by_cases e : l ∈ C a
    · have : b = a := by have := ((hC a l).1 e).2; rw [hT] at this; exact Option.some.inj this
      simp [e, this]
    · simp only [e, if_false]
      rcases hl with hl | ⟨x, y⟩
      · exact hM l b hl hT
      · exact absurd ((hC a l).2 ⟨x, y⟩) e
  · intro l hl
    have e : l ∉ C a := fun h => by
      have := (hC a l).1 h
      rcases hl with hl | hl
      · exact hl (.inr this)
      · rw [this.2] at hl; cases hl
    simp only [e, if_false]
    exact hM' l (hl.imp (fun h h' => h (.inl h')) id)

end Go.Thr
