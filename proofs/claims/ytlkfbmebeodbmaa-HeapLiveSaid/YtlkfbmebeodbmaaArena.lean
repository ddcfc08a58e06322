/- Contracts of package arena. -/
import Derived.Test.YtlkfbmebeodbmaaWord
import Derived.Test.YtlkfbmebeodbmaaRow
import Derived.WalkLawsBesides
set_option linter.unusedVariables false
namespace Go.Proofs.Ytlkfbmebeodbmaa
open Go.RowKit Go.Thr

theorem under_words : Try.prog.underlying 29 = some (.slice 32) := Try.underlying29
theorem info_word : (Try.prog.info? 32).map (fun i => (i.zero, i.size, i.bytes)) = some (some (.int .u64 0), 1, 8) := by kernel_rfl
theorem info_int : (Try.prog.info? 3).map (fun i => (i.zero, i.size, i.bytes)) = some (some (.int .i64 0), 1, 8) := by kernel_rfl

def words (W : List Int) : List Value := W.map (Value.int .u64)
def ints (W : List Int) : List Value := W.map (Value.int .i64)
theorem words_length (W : List Int) : (words W).length = W.length := by simp [words]
theorem words_get (W : List Int) (i : Nat) (h : i < W.length) : (words W)[i]? = some (.int .u64 (W.getD i 0)) := by simp [words, List.getElem?_eq_getElem h, List.getD]
theorem words_append (W V : List Int) : words (W ++ V) = words W ++ words V := by simp [words]
theorem words_set (W : List Int) (i : Nat) (x : Int) : words (W.set i x) = (words W).set i (.int .u64 x) := by simp [words, List.map_set]
theorem words_take (W : List Int) (k : Nat) : words (W.take k) = (words W).take k := by simp [words, List.map_take]
theorem words_zeros (k : Nat) : List.replicate k (Value.int .u64 0) = words (List.replicate k 0) := by simp [words]

def U64 (W : List Int) : Prop := ∀ x ∈ W, 0 ≤ x ∧ x < 18446744073709551616
theorem U64.get {W : List Int} (h : U64 W) (i : Nat) : 0 ≤ W.getD i 0 ∧ W.getD i 0 < 18446744073709551616 := by
  by_cases hi : i < W.length
  · rw [List.getD_eq_getElem?_getD, List.getElem?_eq_getElem hi]; exact h _ (List.getElem_mem hi)
  · rw [List.getD_eq_getElem?_getD, List.getElem?_eq_none (by omega)]; simp

/-- A slice of words. -/
structure Ws (w : World) (v : Value) (d : Option Nat) (W : List Int) : Prop where
  row : Row w 32 1 v d W.length (words W)
  rng : U64 W

/-- The arena at p: its slice v in block d, its words W, its size z. -/
structure Ar (w : World) (p : Nat) (v : Value) (d : Option Nat) (W : List Int) (z : Int) : Prop where
  blk : Blk w p 77 [v, .int .i64 z]
  ws : Ws w v d W
  len : (W.length : Int) ≤ z
  max : z ≤ 1048576

section
variable {w w' : World} {p : Nat} {v : Value} {d : Option Nat} {W : List Int} {z : Int}
theorem Ws.kept {S : Nat → Prop} (h : Ws w v d W) (k : Kept S w w') (hd : ∀ g, d = some g → ¬ S g) : Ws w' v d W := ⟨h.row.kept k hd, h.rng⟩
theorem Ws.drewN (h : Ws w v d W) (n : Nat) : Ws (w.drewN n) v d W := ⟨h.row.drewN n, h.rng⟩
theorem Ar.kept {S : Nat → Prop} (h : Ar w p v d W z) (k : Kept S w w') (hp : ¬ S p) (hd : ∀ g, d = some g → ¬ S g) : Ar w' p v d W z := ⟨h.blk.kept k hp, h.ws.kept k hd, h.len, h.max⟩
theorem Ar.only (h : Ar w p v d W z) (k : Only w w') : Ar w' p v d W z := h.kept k (fun h => h) (fun _ _ h => h)
theorem Ws.only (h : Ws w v d W) (k : Only w w') : Ws w' v d W := h.kept k (fun _ _ h => h)
theorem Ar.drewN (h : Ar w p v d W z) (n : Nat) : Ar (w.drewN n) p v d W z := ⟨h.blk, h.ws.drewN n, h.len, h.max⟩
theorem Ar.drew (h : Ar w p v d W z) : Ar w.drew p v d W z := h.drewN 1
theorem Ar.alloc (h : Ar w p v d W z) (o : Obj) : Ar (w.alloc o) p v d W z := h.only ((Kept.refl _ _).alloc o)
/-- The blocks of an arena. -/
def foot (p : Nat) (d : Option Nat) : Nat → Prop := fun k => k = p ∨ some k = d
theorem Ar.apart (h : Ar w p v d W z) : d ≠ some p := by
  rintro rfl
  exact h.ws.row.ne h.blk (by decide) p rfl rfl
end


/-- A test on an int that is one of Go's. -/
def I64 (i : Int) : Prop := -9223372036854775808 ≤ i ∧ i ≤ 9223372036854775807
def getW (W : List Int) (i : Int) : Int := if 0 ≤ i ∧ i < W.length then W.getD i.toNat 0 else 0

section
variable (w : World) (p : Nat) (v : Value) (d : Option Nat) (W : List Int) (z : Int) (H : Ar w p v d W z)
include H

theorem in_any (i : Int) (hi : I64 i) : Calls Try.prog 47 #[.pointer (some ⟨p, 0, none⟩), .int .i64 i] w fun e w' => e = .returned (.bool (decide (0 ≤ i ∧ i < W.length))) ∧ w = w' := by
  obtain ⟨A, cap, rfl⟩ := H.ws.row.shape
  have c0 := H.blk.cell 0 rfl
  have hl := H.len
  have hm := H.max
  obtain ⟨hi0, hi1⟩ := hi
  go_enter Try.func47, Try.ntmps47
  go_wp2
  · have h : 0 ≤ i := by assumption
    go_ret
    exact ⟨ret_b (by simp [h]), rfl⟩
  · have h : i < 0 := by assumption
    go_ret
    exact ⟨ret_b (by simp; omega), rfl⟩

theorem get_any (i : Int) (hi : I64 i) : Calls Try.prog 39 #[.pointer (some ⟨p, 0, none⟩), .int .i64 i] w fun e w' => e = .returned (.tuple #[.int .u64 (getW W i), .bool (decide (0 ≤ i ∧ i < W.length))]) ∧ w = w' := by
  by_cases h : 0 ≤ i ∧ i < W.length
  · have hd : decide (0 ≤ i ∧ i < (W.length : Int)) = true := by simpa using h
    have hg : getW W i = W.getD i.toNat 0 := by unfold getW; rw [if_pos h]
    rw [hg, hd]; clear hg
    obtain ⟨g, cap, rfl, rfl, hc⟩ := H.ws.row.head (by omega)
    have c0 := H.blk.cell 0 rfl
    have c1 := (H.ws.row.cellAt i.toNat (by omega)).trans (words_get W i.toNat (by omega))
    have hl := H.len
    have hm := H.max
    obtain ⟨h0, h1⟩ := h
    obtain ⟨j, rfl⟩ := Int.eq_ofNat_of_zero_le h0
    simp only [Int.toNat_natCast] at c1 ⊢
    go_enter Try.func39, Try.ntmps39
    go_wp2_with (go_at_call 47; refine (in_any _ _ _ _ _ _ H _ hi).mono ?_; rintro e w' ⟨rfl, rfl⟩)
    go_ret2
    exact ⟨rfl, rfl⟩
  · have hd : decide (0 ≤ i ∧ i < (W.length : Int)) = false := by simpa using h
    have hg : getW W i = 0 := by unfold getW; rw [if_neg h]
    rw [hg, hd]; clear hg h
    go_enter Try.func39, Try.ntmps39
    go_wp2_with (go_at_call 47; refine (in_any _ _ _ _ _ _ H _ hi).mono ?_; rintro e w' ⟨rfl, rfl⟩)
    go_ret2
    exact ⟨rfl, rfl⟩

theorem set_any (i : Nat) (hi : i < W.length) (x : Int) (hx : 0 ≤ x ∧ x < 18446744073709551616) : Calls Try.prog 31 #[.pointer (some ⟨p, 0, none⟩), .int .i64 i, .int .u64 x] w fun e w' =>
    e = .returned (.bool true) ∧ Ar w' p v d (W.set i x) z ∧ Kept (fun k => some k = d) w w' := by
  have hl := H.len
  have hm := H.max
  have hd : decide (0 ≤ (i : Int) ∧ (i : Int) < (W.length : Int)) = true := by simp; omega
  obtain ⟨g, cap, rfl, rfl, hc⟩ := H.ws.row.head (by omega)
  have c0 := H.blk.cell 0 rfl
  have c1 := (H.ws.row.cellAt i (by omega)).trans (words_get W i (by omega))
  have f1 := H.ws.row.frozenAt i
  have hR : Ar (w.setCell ⟨g, i, none⟩ (.int .u64 x)) p (.slice (some ⟨g, 0, none⟩) W.length cap) (some g) (W.set i x) z := by
    refine ⟨H.blk.other (by intro e; exact H.apart (by simp at e; simp [e])) _, ⟨?_, ?_⟩, by simpa using H.len, H.max⟩
    · have := H.ws.row.store i (.int .u64 x)
      rw [words_set, List.length_set]; exact this
    · intro y hy
      rcases List.mem_or_eq_of_mem_set hy with h | h
      · exact H.ws.rng y h
      · rw [h]; exact hx
  have hK : Kept (fun k => some k = some g) w (w.setCell ⟨g, i, none⟩ (.int .u64 x)) := Kept.setCell (S := fun k => some k = some g) (Kept.refl _ w) (.inl rfl) _
  have hi64 : I64 (i : Int) := ⟨by omega, by omega⟩
  go_enter Try.func31, Try.ntmps31
  go_wp2_with (go_at_call 47; refine (in_any _ _ _ _ _ _ H _ hi64).mono ?_; rintro e w' ⟨rfl, rfl⟩)
  go_ret
  exact ⟨rfl, hR, hK⟩

theorem used_any : Calls Try.prog 26 #[.pointer (some ⟨p, 0, none⟩)] w fun e w' => e = .returned (.int .i64 W.length) ∧ w = w' := by
  obtain ⟨A, cap, rfl⟩ := H.ws.row.shape
  have c0 := H.blk.cell 0 rfl
  go_enter Try.func26, Try.ntmps26
  go_wp2
  go_ret
  exact ⟨rfl, rfl⟩

theorem size_any : Calls Try.prog 25 #[.pointer (some ⟨p, 0, none⟩)] w fun e w' => e = .returned (.int .i64 z) ∧ w = w' := by
  have c0 := H.blk.cell 1 rfl
  go_enter Try.func25, Try.ntmps25
  go_wp2
  go_ret
  exact ⟨rfl, rfl⟩

theorem take_ok (n : Nat) (hn : (n : Int) ≤ z - W.length) : Calls Try.prog 45 #[.pointer (some ⟨p, 0, none⟩), .int .i64 n] w fun e w' =>
    e = .returned (.tuple #[.int .i64 W.length, .bool true]) ∧ ∃ v' d', Ar w' p v' d' (W ++ List.replicate n 0) z ∧ Kept (foot p d) w w' ∧ (d' = d ∨ ∃ b, d' = some b ∧ w.heap.size ≤ b) := by
  have hR := H.ws.row
  have hl := H.len
  have hm := H.max
  have hap := H.apart
  have hp := H.blk.lt
  have hH := Lib.hid H
  obtain ⟨A, cap, hv⟩ := H.ws.row.shape
  subst hv
  have c0 := H.blk.cell 0 rfl
  have c1 := H.blk.cell 1 rfl
  have f0 := H.blk.frozen 0
  clear H
  have hw : IntKind.i64.wrap (z - (W.length : Int)) = z - W.length := by rw [IntKind.wrap_i64]; omega
  have hn1 : decide (z - (W.length : Int) < n) = false := by simp; omega
  have hn0 : decide ((n : Int) < 0) = false := by simp
  go_enter Try.func45, Try.ntmps45
  go_wp2
  go_quiet (fail)
  clear hw
  go_wp2_with (at_builtin; refine wpList_append_zeros rfl _ _ _ _ 32 (.int .u64 0) 8 .i64 .i64 rfl under_words Try.underlying3 info_word rfl rfl (by decide) (.slice A W.length cap) d W.length (words W) n rfl rfl (by exact hR) (by omega) ?_; intro v1 d1 w1 hR1 hk1 hd1; have hB1 := (hH.out.drewN _).blk.kept hk1 (by intro e; exact hap e.symm); have c2 := hB1.cell 0 rfl; have f2 := hB1.frozen 0; obtain ⟨A1, cap1, rfl⟩ := hR1.shape)
  go_ret2
  refine ⟨rfl, .slice A1 (W.length + n) cap1, d1, ⟨?_, ⟨?_, ?_⟩, ?_, hm⟩, ?_, hd1⟩
  · exact hB1.set 0 _
  · rw [words_zeros, ← words_append] at hR1
    have := hR1.other (p := ⟨p, 0, none⟩) (fun g hg => ?_) (.slice A1 (W.length + n) cap1)
    · simpa using this
    · intro e
      exact (hR1.ne hB1 (by decide) g hg) e.symm
  · intro x hx
    rcases List.mem_append.1 hx with hx | hx
    · exact hH.out.ws.rng x hx
    · rw [List.eq_of_mem_replicate hx]; decide
  · simp; omega
  · refine Kept.setCell (S := foot p d) ?_ (.inl (.inl rfl)) _
    exact (Kept.refl _ _).drewN _ |>.trans hk1 (fun _ _ h => .inr h)

theorem take_ok' (k : Int) (n : Nat) (hk : k = n) (hn : (n : Int) ≤ z - W.length) : Calls Try.prog 45 #[.pointer (some ⟨p, 0, none⟩), .int .i64 k] w fun e w' =>
    e = .returned (.tuple #[.int .i64 W.length, .bool true]) ∧ ∃ v' d', Ar w' p v' d' (W ++ List.replicate n 0) z ∧ Kept (foot p d) w w' ∧ (d' = d ∨ ∃ b, d' = some b ∧ w.heap.size ≤ b) := by
  subst hk; exact take_ok w p v d W z H n hn

theorem set_any' (k : Int) (i : Nat) (hk : k = i) (hi : i < W.length) (x : Int) (hx : 0 ≤ x ∧ x < 18446744073709551616) : Calls Try.prog 31 #[.pointer (some ⟨p, 0, none⟩), .int .i64 k, .int .u64 x] w fun e w' =>
    e = .returned (.bool true) ∧ Ar w' p v d (W.set i x) z ∧ Kept (fun k => some k = d) w w' := by
  subst hk; exact set_any w p v d W z H i hi x hx

theorem take_no (n : Int) (hn : n < 0 ∨ z - W.length < n) (hn64 : I64 n) : Calls Try.prog 45 #[.pointer (some ⟨p, 0, none⟩), .int .i64 n] w fun e w' =>
    e = .returned (.tuple #[.int .i64 0, .bool false]) ∧ Only w w' := by
  have hl := H.len
  have hm := H.max
  obtain ⟨A, cap, hv⟩ := H.ws.row.shape
  subst hv
  have c0 := H.blk.cell 0 rfl
  have c1 := H.blk.cell 1 rfl
  have hw : IntKind.i64.wrap (z - (W.length : Int)) = z - W.length := by rw [IntKind.wrap_i64]; omega
  by_cases h0 : n < 0
  · have hn0 : decide (n < 0) = true := by simpa using h0
    clear hn h0
    go_enter Try.func45, Try.ntmps45
    go_wp2
    go_quiet (fail)
    go_wp2
    go_ret2
    exact ⟨rfl, (Kept.refl _ _).drewN _⟩
  · have hn1 : decide (z - (W.length : Int) < n) = true := by simp; omega
    have hn0 : decide (n < 0) = false := by simpa using h0
    clear hn h0
    go_enter Try.func45, Try.ntmps45
    go_wp2
    go_quiet (fail)
    go_wp2
    go_ret2
    exact ⟨rfl, (Kept.refl _ _).drewN _⟩

theorem cut_ok (u : Nat) (hu : u ≤ W.length) (s : Int) (hs : (u : Int) ≤ s) (hs1 : s ≤ 1048576) : Calls Try.prog 28 #[.pointer (some ⟨p, 0, none⟩), .int .i64 u, .int .i64 s] w fun e w' =>
    e = .returned (.bool true) ∧ ∃ v', Ar w' p v' d (W.take u) s ∧ Kept (fun k => k = p) w w' := by
  have hl := H.len
  have hm := H.max
  obtain ⟨A, cap, hv⟩ := H.ws.row.shape
  subst hv
  have c0 := H.blk.cell 0 rfl
  have c1 := H.blk.cell 1 rfl
  have f0 := H.blk.frozen 0
  have f1 := H.blk.frozen 1
  have hc := H.ws.row.ncap
  have hd0 : decide ((u : Int) < 0) = false := by simp
  have hd1 : decide (W.length < u) = false := by simp; omega
  have hd2 : decide (s < (u : Int)) = false := by simp; omega
  have hd3 : decide (1048576 < s) = false := by simp; omega
  have hB := (H.blk.set 0 (.slice A u cap)).set 1 (.int .i64 s)
  have hR := (H.ws.row.cut hu).other (p := ⟨p, 0, none⟩) (fun g hg e => H.apart (hg.trans (congrArg some (show g = p from e.symm)))) (.slice A u cap) |>.other (p := ⟨p, 1, none⟩) (fun g hg e => H.apart (hg.trans (congrArg some (show g = p from e.symm)))) (.int .i64 s)
  have hr := H.ws.rng
  clear H
  go_enter Try.func28, Try.ntmps28
  go_wp2
  go_ret
  refine ⟨rfl, .slice A u cap, ⟨hB, ⟨?_, fun x hx => hr x (List.mem_of_mem_take hx)⟩, ?_, hs1⟩, ?_⟩
  · rw [words_take, List.length_take, Nat.min_eq_left hu]; simpa using hR
  · rw [List.length_take, Nat.min_eq_left hu]; exact hs
  · exact Kept.setCell (S := fun k => k = p) (Kept.setCell (S := fun k => k = p) (Kept.refl _ _) (.inl rfl) _) (.inl rfl) _
end
end Go.Proofs.Ytlkfbmebeodbmaa
