/- Contracts of package mark: which words may stand in a field; which heaps are sound. -/
import Derived.Test.YtlkfbmebeodbmaaObjects
import Derived.Deep.LoopGhost
import Derived.Deep.RegionHeld3
import Derived.Deep.OwnRows
set_option linter.unusedVariables false
namespace Go.Proofs.Ytlkfbmebeodbmaa
open Go.RowKit Go.Thr

def bools (B : List Bool) : List Value := B.map Value.bool
theorem bools_length (B : List Bool) : (bools B).length = B.length := by simp [bools]
theorem bools_get (B : List Bool) (i : Nat) (h : i < B.length) : (bools B)[i]? = some (.bool (B.getD i false)) := by simp [bools, List.getElem?_eq_getElem h, List.getD]
theorem bools_set (B : List Bool) (i : Nat) (x : Bool) : bools (B.set i x) = (bools B).set i (.bool x) := by simp [bools, List.map_set]
theorem info_bool : (Try.prog.info? 4).map (fun i => (i.zero, i.size, i.bytes)) = some (some (.bool false), 1, 1) := by kernel_rfl

/-- May a word stand in a field, where these places have objects? -/
def SndW (L : List Nat) (x : Int) : Prop := tg x ≠ 6 ∧ tg x ≠ 7 ∧ (tg x = 5 → 0 ≤ vl x ∧ (vl x).toNat ∈ L)
/-- The marks of places. -/
def Marks (n : Nat) (L : List Nat) (B : List Bool) : Prop := B.length = n ∧ ∀ i, i < n → (B.getD i false = true ↔ i ∈ L)

theorem sound_yes (w : World) (x : Int) (hx : 0 ≤ x ∧ x < 18446744073709551616) (v : Value) (d : Option Nat) (n : Nat) (B : List Bool) (L : List Nat) (hR : Row w 4 1 v d n (bools B)) (hB : Marks n L B) (hL : ∀ a ∈ L, a < n) (hs : SndW L x) :
    Calls Try.prog 64 #[.int .u64 x, v] w fun e w' => e = .returned (.bool true) ∧ w = w' := by
  obtain ⟨h6, h7, h5⟩ := hs
  have e6 : (tg x == 6) = false := by simp [h6]
  have e7 : (tg x == 7) = false := by simp [h7]
  by_cases hp : tg x = 5
  · obtain ⟨h0, hm⟩ := h5 hp
    have hlt := hL _ hm
    have hb := (hB.2 _ hlt).2 hm
    obtain ⟨g, cap, rfl, rfl, hc⟩ := hR.head (by omega)
    have c1 := (hR.cellAt (vl x).toNat (by omega)).trans (bools_get B _ (by rw [hB.1]; exact hlt))
    rw [hb] at c1
    have e5 : (tg x == 5) = true := by simp [hp]
    have hmax := hR.max
    obtain ⟨hx0, hx1⟩ := hx
    obtain ⟨j, hj⟩ := Int.eq_ofNat_of_zero_le h0
    rw [hj] at c1 hlt
    simp only [Int.toNat_natCast] at c1 hlt
    have HJ := Lib.hid hj
    clear hp h5 h6 h7 hm hb hB hL hR hj h0
    go_enter Try.func64, Try.ntmps64
    go_wp2_with (first | (go_at_call 44; refine (tag_any _ _ (by assumption) (by assumption)).mono ?_; rintro e w' ⟨rfl, rfl⟩) | (go_at_call 32; refine (value_any _ _ (by assumption) (by assumption)).mono ?_; rw [HJ.out]; rintro e w' ⟨rfl, rfl⟩))
    go_ret
    exact ⟨rfl, rfl⟩
  · have e5 : (tg x == 5) = false := by simp [hp]
    obtain ⟨hx0, hx1⟩ := hx
    clear hp h5 h6 h7 hB hL hR
    go_enter Try.func64, Try.ntmps64
    go_wp2_with (first | (go_at_call 44; refine (tag_any _ _ (by assumption) (by assumption)).mono ?_; rintro e w' ⟨rfl, rfl⟩))
    go_ret
    exact ⟨rfl, rfl⟩

/-- A heap in which all points at what is there. -/
structure Snd (W R : List Int) (L : List Nat) : Prop where
  segs : Segs W 0 L
  roots : ∀ x ∈ R, SndW L x
  fields : ∀ a ∈ L, ∀ h, obj W a = some h → fieldsOf h ≤ h.size ∧ ∀ k : Nat, (k : Int) < fieldsOf h → SndW L (W.getD (a + 1 + k) 0)

theorem Segs.lt {W : List Int} : ∀ {L : List Nat} {i : Nat}, Segs W i L → ∀ a ∈ L, i ≤ a ∧ a < W.length ∧ ∃ h, obj W a = some h ∧ a + h.size.toNat < W.length
  | [], _, _, _, ha => by cases ha
  | b :: L, i, ⟨hb, h, ho, hs⟩, a, ha => by
    have hle := hs.le
    have h1 := obj_some ho
    have h2 := obj_range ho
    rcases List.mem_cons.1 ha with rfl | ha
    · subst hb; exact ⟨Nat.le_refl _, by omega, h, ho, by omega⟩
    · have := hs.lt a ha
      exact ⟨by omega, this.2⟩

set_option maxRecDepth 100000 in
set_option maxHeartbeats 1000000 in
theorem sound_any (w : World) (p : Nat) (v : Value) (d : Option Nat) (W : List Int) (z : Int) (H : Ar w p v d W z) (vr : Value) (dr : Option Nat) (R : List Int) (HR : Ws w vr dr R) (L : List Nat) (hS : Snd W R L) :
    Calls Try.prog 52 #[.pointer (some ⟨p, 0, none⟩), vr] w fun e w' => e = .returned (.bool true) ∧ Only w w' := by
  have hl := H.len
  have hm := H.max
  have hp := H.blk.lt
  have hLl := hS.segs.le
  have hH := Lib.hid H
  have hHR := Lib.hid HR
  have hHS := Lib.hid hS
  obtain ⟨Ax, capr, hvr⟩ := HR.row.shape
  subst hvr
  have hRm := HR.row.max
  have hmk := fun W0 => run_make_row' (P := Try.prog) 40 4 (.bool false) 1 Try.underlying40 info_bool rfl .i64 .i64 W.length (by omega) (by omega) W0
  clear H HR hS
  go_enter Try.func52, Try.ntmps52
  go_wp2_with (first | (go_at_call 37; refine (objects_any _ _ _ _ _ _ hH.out _ hHS.out.segs).mono ?_; rintro e w1 ⟨v5, d5, rfl, hR5, hk1, hd5⟩; obtain ⟨A5, cap5, rfl⟩ := hR5.shape; have hA1 := Lib.hid (hH.out.only hk1)) | (go_at_call 26; refine (used_any _ _ _ _ _ _ hA1.out).mono ?_; rintro e w2 ⟨rfl, rfl⟩))
  clear hmk
  have hz := Row.zeros w1 4 (.bool false) W.length (by omega)
  have h5 := hR5.alloc (.cells (madeCells #[.bool false] W.length) 4)
  have hL1 : L.length ≤ W.length := by omega
  obtain ⟨g7, hg7⟩ : ∃ g, g = w1.heap.size := ⟨_, rfl⟩
  have hw1 := hk1.size
  rw [← hg7] at hz
  have hkk : Only w (w1.alloc (.cells (madeCells #[.bool false] W.length) 4)) := hk1.alloc _
  rw [← hg7]
  have hg7' : w.heap.size ≤ g7 := by omega
  clear hg7 hk1 hA1 hR5 hw1
  go_loopw [31] (fun i wr => ∃ (k : Nat) (B : List Bool), i = .int .i64 k ∧ k ≤ L.length ∧ B.length = W.length ∧ (∀ j, j < W.length → (B.getD j false = true ↔ j ∈ L.take k)) ∧
      Row wr 4 1 (.slice (some ⟨g7, 0, none⟩) W.length W.length) (some g7) W.length (bools B) ∧ Row wr 3 1 (.slice A5 L.length cap5) d5 L.length (nats L) ∧ Only w wr) (fun i _ => L.length - (intOf i).toNat)
  case atStart =>
    refine ⟨0, List.replicate W.length false, rfl, by omega, by simp, ?_, ?_, h5, hkk⟩
    · intro j hj; simp [List.getD, hj]
    · simpa [bools] using hz
  case round =>
    clear hz h5 hkk
    obtain ⟨k, B, rfl, hk, hBl, hB, hRB, hR5, hkw⟩ := hrel
    by_cases hlt : k < L.length
    · obtain ⟨g5, c5', hv5, hd5', hc5⟩ := hR5.head (by omega)
      simp only [Value.slice.injEq] at hv5
      obtain ⟨rfl, -, rfl⟩ := hv5
      have hm5 := hR5.max
      have c5 := (hR5.cellAt k (by omega)).trans (nats_get L k hlt)
      have haL : L.getD k 0 ∈ L := by rw [List.getD_eq_getElem?_getD, List.getElem?_eq_getElem hlt]; exact List.getElem_mem hlt
      have haw := (hHS.out.segs.lt _ haL).2.1
      have htk : L.take (k + 1) = L.take k ++ [L.getD k 0] := by
        rw [List.take_succ_eq_append_getElem hlt]; simp [List.getD, List.getElem?_eq_getElem hlt]
      generalize ha : L.getD k 0 = a at *
      have HT := Lib.hid htk
      have Ha := Lib.hid ha
      clear ha htk
      have c7 := (hRB.cellAt a (by omega)).trans (bools_get B a (by omega))
      have f7 := hRB.frozenAt a
      have hRB' := Lib.hid hRB
      have hR5' := Lib.hid hR5
      have hB' := Lib.hid hB
      have hne : ∀ g, d5 = some g → g7 ≠ g := fun g hg e => hRB.ne_row hR5 (by decide) g7 rfl (hg.trans (congrArg some e.symm))
      clear hB hRB hR5
      go_wp2
      go_roundw
      case rel =>
        refine ⟨k + 1, B.set a true, by go_num, by omega, by simp [hBl], ?_, ?_, ?_, ?_⟩
        · intro j hj
          rw [HT.out, List.mem_append, List.mem_singleton]
          by_cases e : j = a
          · subst e; simp [List.getD, show j < B.length by omega]
          · have := hB'.out j hj
            rw [List.getD_eq_getElem?_getD] at this ⊢
            rw [List.getElem?_set_ne (Ne.symm e), this]; simp [e]
        · rw [bools_set]; exact hRB'.out.store a _
        · exact hR5'.out.other hne _
        · exact hkw.setCell (.inr hg7') _
      case measure => simp [intOf]; omega
    · obtain rfl : k = L.length := by omega
      have hM : Marks W.length L B := ⟨hBl, fun j hj => by rw [hB j hj, List.take_length]⟩
      have hM' := Lib.hid hM
      have hRB' := Lib.hid hRB
      have hR5' := Lib.hid hR5
      have hHR' := Lib.hid (hHR.out.only hkw)
      have hA' := Lib.hid (hH.out.only hkw)
      clear hB hRB hR5 hM hlt hBl
      go_wp2
      go_loop [41] (fun i => ∃ k : Nat, i = .int .i64 k ∧ k ≤ R.length) (fun i => R.length - (intOf i).toNat)
      case atStart => exact ⟨0, rfl, by omega⟩
      case round =>
        obtain ⟨k, rfl, hk2⟩ := hrel
        by_cases hlt : k < R.length
        · obtain ⟨gr, cr', hvr, hdr', hcr⟩ := hHR'.out.row.head (by omega)
          simp only [Value.slice.injEq] at hvr
          obtain ⟨rfl, -, rfl⟩ := hvr
          have cr := (hHR'.out.row.cellAt k (by omega)).trans (words_get R k hlt)
          have hxR : R.getD k 0 ∈ R := by rw [List.getD_eq_getElem?_getD, List.getElem?_eq_getElem hlt]; exact List.getElem_mem hlt
          have hxr := hHR'.out.rng.get k
          have hxs := hHS.out.roots _ hxR
          generalize R.getD k 0 = x at *
          have HX := Lib.hid hxs
          have HXR := Lib.hid hxr
          clear hxs hxR hxr
          go_wp2_with (go_at_call 64; refine (sound_yes _ _ HXR.out _ _ _ _ _ hRB'.out hM'.out (fun a ha => (hHS.out.segs.lt a ha).2.1) HX.out).mono ?_; rintro e w2 ⟨rfl, rfl⟩)
          go_round
          case rel => exact ⟨k + 1, by go_num, by omega⟩
          case measure => simp [intOf]; omega
        · obtain rfl : k = R.length := by omega
          clear hlt
          go_wp2
          obtain ⟨wo, hwo⟩ : ∃ wo : World, wo = wr := ⟨_, rfl⟩
          subst hwo
          go_loopw [52] (fun i wx => ∃ k : Nat, i = .int .i64 k ∧ k ≤ L.length ∧ Only wo wx) (fun i _ => L.length - (intOf i).toNat)
          case atStart => exact ⟨0, rfl, by omega, Kept.refl _ _⟩
          case round =>
            obtain ⟨k3, rfl, hk3, hkx⟩ := hrel
            have hA3 := Lib.hid (hA'.out.only hkx)
            have hR53 := Lib.hid (hR5'.out.kept hkx (fun _ _ h => h))
            have hRB3 := Lib.hid (hRB'.out.kept hkx (fun _ _ h => h))
            by_cases hlt : k3 < L.length
            · obtain ⟨g5, c5', hv5, hd5', hc5⟩ := hR53.out.head (by omega)
              simp only [Value.slice.injEq] at hv5
              obtain ⟨rfl, -, rfl⟩ := hv5
              have hm5 := hR53.out.max
              have c5 := (hR53.out.cellAt k3 (by omega)).trans (nats_get L k3 hlt)
              have haL : L.getD k3 0 ∈ L := by rw [List.getD_eq_getElem?_getD, List.getElem?_eq_getElem hlt]; exact List.getElem_mem hlt
              generalize ha : L.getD k3 0 = a at *
              clear ha
              obtain ⟨_, haw, h, ho, haz⟩ := hHS.out.segs.lt _ haL
              have hrng := obj_range ho
              have hf := hHS.out.fields a haL h ho
              obtain ⟨hk', hz', ht', hn'⟩ := h
              have HF := Lib.hid hf
              have hf1 := hf.1
              have HO := Lib.hid ho
              simp only at hrng haz hf1
              clear hf ho haL
              go_wp2_with (go_at_call 38; refine (object_some _ _ _ _ _ _ hA3.out _ _ HO.out).mono ?_; rintro e w1 ⟨rfl, hk1⟩; have hA4 := Lib.hid (hA3.out.only hk1); have hK4 := hkx.then hk1; have hRB4 := Lib.hid (hRB3.out.kept hk1 (fun _ _ h => h)))
              have hB1 := Blk.new w1 36 [.int .i64 hk', .int .i64 hz', .int .i64 ht', .bool hn']
              have b0 := hB1.cell 0 rfl
              have b1 := hB1.cell 1 rfl
              have b2 := hB1.cell 2 rfl
              have b3 := hB1.cell 3 rfl
              have hgt : decide (hz' < fieldsOf ⟨hk', hz', ht', hn'⟩) = false := by simp; omega
              go_region_held3 (fun w' => w'.cell? ⟨w1.heap.size, 0, none⟩ = some (.int .i64 hk') ∧ w'.cell? ⟨w1.heap.size, 1, none⟩ = some (.int .i64 hz') ∧ w'.cell? ⟨w1.heap.size, 2, none⟩ = some (.int .i64 ht') ∧ w'.cell? ⟨w1.heap.size, 3, none⟩ = some (.bool hn')) (go_keep)
                (first | (go_at_call 65; refine (fields_eq _ _ _ _ _).mono ?_; rintro e w' ⟨rfl, rfl⟩))
              go_wp2_with (go_at_call 65; refine (fields_eq _ _ _ _ _).mono ?_; rintro e w' ⟨rfl, rfl⟩)
              have hA5 := Lib.hid ((((hA4.out.alloc (.cells #[.int .i64 hk', .int .i64 hz', .int .i64 ht', .bool hn'] 36)).alloc (.cells #[.int .i64 hk', .int .i64 hz', .int .i64 ht', .bool hn'] 36)).alloc (.cells #[.int .i64 hk', .int .i64 hz', .int .i64 ht', .bool hn'] 36)).drew)
              have hK5 := (((hK4.alloc (.cells #[.int .i64 hk', .int .i64 hz', .int .i64 ht', .bool hn'] 36)).alloc (.cells #[.int .i64 hk', .int .i64 hz', .int .i64 ht', .bool hn'] 36)).alloc (.cells #[.int .i64 hk', .int .i64 hz', .int .i64 ht', .bool hn'] 36)).drew
              have hRB5 := Lib.hid ((((hRB4.out.alloc (.cells #[.int .i64 hk', .int .i64 hz', .int .i64 ht', .bool hn'] 36)).alloc (.cells #[.int .i64 hk', .int .i64 hz', .int .i64 ht', .bool hn'] 36)).alloc (.cells #[.int .i64 hk', .int .i64 hz', .int .i64 ht', .bool hn'] 36)).drew)
              have hF0 : 0 ≤ fieldsOf ⟨hk', hz', ht', hn'⟩ := by unfold fieldsOf; simp only; split; decide; split; omega; decide
              generalize hfl : fieldsOf ⟨hk', hz', ht', hn'⟩ = nf at *
              clear hfl b0 b1 b2 b3 hB1 hgt
              generalize ((((w1.alloc (.cells #[.int .i64 hk', .int .i64 hz', .int .i64 ht', .bool hn'] 36)).alloc (.cells #[.int .i64 hk', .int .i64 hz', .int .i64 ht', .bool hn'] 36)).alloc (.cells #[.int .i64 hk', .int .i64 hz', .int .i64 ht', .bool hn'] 36)).drew) = w5 at *
              go_loop [69] (fun i => ∃ k : Nat, i = .int .i64 k ∧ (k : Int) ≤ nf) (fun i => nf.toNat - (intOf i).toNat)
              case atStart => exact ⟨0, rfl, by omega⟩
              case round =>
                obtain ⟨k5, rfl, hk5⟩ := hrel
                by_cases hlt5 : (k5 : Int) < nf
                · have hxs := HF.out.2 k5 hlt5
                  have hxr := hA5.out.ws.rng.get (a + 1 + k5)
                  have hgw : getW W ((a : Int) + 1 + k5) = W.getD (a + 1 + k5) 0 := by
                    unfold getW; rw [if_pos (by omega)]; congr 1
                  have hin : decide (0 ≤ (a : Int) + 1 + k5 ∧ (a : Int) + 1 + k5 < (W.length : Int)) = true := by simp; omega
                  generalize W.getD (a + 1 + k5) 0 = x at *
                  have HX := Lib.hid hxs
                  have HXR := Lib.hid hxr
                  clear hxs hxr
                  go_wp2_with (first | (go_at_call 39; refine (get_any _ _ _ _ _ _ hA5.out _ ⟨by omega, by omega⟩).mono ?_; rw [hgw, hin]; rintro e w2 ⟨rfl, rfl⟩) | (go_at_call 64; refine (sound_yes _ _ HXR.out _ _ _ _ _ hRB5.out hM'.out (fun a ha => (hHS.out.segs.lt a ha).2.1) HX.out).mono ?_; rintro e w2 ⟨rfl, rfl⟩))
                  go_round
                  case rel => exact ⟨k5 + 1, by go_num, by omega⟩
                  case measure => simp [intOf]; omega
                · obtain rfl : nf = (k5 : Int) := by omega
                  go_wp2
                  go_roundw
                  case rel => exact ⟨k3 + 1, by go_num, by omega, hK5⟩
                  case measure => simp [intOf]; omega
            · obtain rfl : k3 = L.length := by omega
              go_wp2
              go_ret
              exact ⟨rfl, hkw.then hkx⟩
end Go.Proofs.Ytlkfbmebeodbmaa
