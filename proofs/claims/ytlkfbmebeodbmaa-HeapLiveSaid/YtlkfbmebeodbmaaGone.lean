/- Contracts of package slide: the handles of what is not reached. -/
import Derived.Test.YtlkfbmebeodbmaaDown3
import Derived.Test.YtlkfbmebeodbmaaLive2
set_option linter.unusedVariables false
namespace Go.Proofs.Ytlkfbmebeodbmaa
open Go.RowKit Go.Thr

def zs (l : List Int) : List Value := l.map fun x => Value.int .i64 x
theorem zs_append (l m : List Int) : zs (l ++ m) = zs l ++ zs m := by simp [zs]
theorem zs_length (l : List Int) : (zs l).length = l.length := by simp [zs]
theorem zs_get (L : List Int) (i : Nat) (h : i < L.length) : (zs L)[i]? = some (.int .i64 (L.getD i 0)) := by simp [zs, List.getElem?_eq_getElem h, List.getD]
/-- The handle of the object at a place, if it has one. -/
def goneAt (W : List Int) (a : Nat) : List Int := match obj W (a : Int) with
  | some h => if h.kind = 3 ∧ 0 < h.size ∧ W.getD (a + 1) 0 ≠ 0 then [wrap64 (W.getD (a + 1) 0)] else []
  | none => []
def goneOf (W : List Int) (M L : List Nat) : List Int := (L.filter fun a => !decide (a ∈ M)).flatMap (goneAt W)
theorem goneAt_le (W : List Int) (a : Nat) : (goneAt W a).length ≤ 1 := by
  unfold goneAt; split
  · split <;> simp
  · simp
theorem goneOf_snoc (W : List Int) (M L : List Nat) (a : Nat) : goneOf W M (L ++ [a]) = goneOf W M L ++ (if a ∈ M then [] else goneAt W a) := by
  unfold goneOf
  by_cases h : a ∈ M <;> simp [h]
theorem goneOf_le (W : List Int) (M : List Nat) : ∀ L : List Nat, (goneOf W M L).length ≤ L.length
  | [] => by simp [goneOf]
  | a :: L => by
    have := goneOf_le W M L
    have h1 := goneAt_le W a
    unfold goneOf at *
    by_cases h : a ∈ M <;> simp [h] <;> simp at this <;> omega

theorem Segs.sorted {W : List Int} : ∀ {L : List Nat} {i : Nat}, Segs W i L → L.Pairwise (· < ·)
  | [], _, _ => .nil
  | a :: L, i, ⟨h1, h, ho, hs⟩ => .cons (fun b hb => by have := (hs.lt b hb).1; omega) hs.sorted

/-- Of those that stay, k lie below the place i of all. -/
def Gi (L M : List Nat) (i k : Nat) : Prop := k ≤ M.length ∧ (∀ j, j < k → ∀ q, i ≤ q → q < L.length → M.getD j 0 < L.getD q 0) ∧ ∀ j, k ≤ j → j < M.length → ∃ q, i ≤ q ∧ q < L.length ∧ M.getD j 0 = L.getD q 0
theorem Gi.zero {L M : List Nat} (h : ∀ b ∈ M, b ∈ L) : Gi L M 0 0 := ⟨by omega, fun j hj => by omega, fun j _ hj => by
  obtain ⟨q, h1, h2⟩ := mem_getD (h _ (getD_mem hj))
  exact ⟨q, by omega, h1, h2.symm⟩⟩
theorem sorted_le {M : List Nat} (hs : M.Pairwise (· < ·)) {i j : Nat} (hij : i ≤ j) (hj : j < M.length) : M.getD i 0 ≤ M.getD j 0 := by
  rcases Nat.lt_or_eq_of_le hij with h | h
  · exact Nat.le_of_lt (sorted_get hs h hj)
  · rw [h]; exact Nat.le_refl _
theorem Gi.yes {L M : List Nat} (hL : L.Pairwise (· < ·)) (hM : M.Pairwise (· < ·)) {i k : Nat} (hi : i < L.length) (G : Gi L M i k) (hk : k < M.length) (e : M.getD k 0 = L.getD i 0) : L.getD i 0 ∈ M ∧ Gi L M (i + 1) (k + 1) := by
  refine ⟨by rw [← e]; exact getD_mem hk, by omega, fun j hj q h1 h2 => ?_, fun j h1 h2 => ?_⟩
  · have h3 := sorted_get hL (i := i) (j := q) (by omega) h2
    rcases Nat.lt_or_ge j k with h | h
    · exact G.2.1 j h q (by omega) h2
    · have : j = k := by omega
      rw [this, e]; exact h3
  · obtain ⟨q, h3, h4, h5⟩ := G.2.2 j (by omega) h2
    refine ⟨q, ?_, h4, h5⟩
    rcases Nat.lt_or_ge i q with h | h
    · omega
    · have : q = i := by omega
      have h6 := sorted_get hM (i := k) (j := j) (by omega) h2
      rw [h5, this, e] at h6; omega
theorem Gi.no {L M : List Nat} (hL : L.Pairwise (· < ·)) (hM : M.Pairwise (· < ·)) {i k : Nat} (hi : i < L.length) (G : Gi L M i k) (h : ¬ (k < M.length ∧ M.getD k 0 = L.getD i 0)) : L.getD i 0 ∉ M ∧ Gi L M (i + 1) k := by
  have key : ∀ j, k ≤ j → j < M.length → L.getD i 0 < M.getD j 0 := by
    intro j h1 h2
    have hk : k < M.length := by omega
    obtain ⟨q, h3, h4, h5⟩ := G.2.2 k (Nat.le_refl _) hk
    have h6 : q ≠ i := fun e => h ⟨hk, by rw [h5, e]⟩
    have h7 := sorted_get hL (i := i) (j := q) (by omega) h4
    have := sorted_le hM h1 h2
    omega
  refine ⟨fun hm => ?_, G.1, fun j hj q h1 h2 => G.2.1 j hj q (by omega) h2, fun j h1 h2 => ?_⟩
  · obtain ⟨j, h1, h2⟩ := mem_getD hm
    rcases Nat.lt_or_ge j k with h' | h'
    · have := G.2.1 j h' i (Nat.le_refl _) hi; omega
    · have := key j h' h1; omega
  · obtain ⟨q, h3, h4, h5⟩ := G.2.2 j h1 h2
    have := key j h1 h2
    refine ⟨q, ?_, h4, h5⟩
    rcases Nat.lt_or_ge i q with h' | h'
    · omega
    · have e : q = i := by omega
      rw [h5, e] at this; omega

/-- The word after a place. -/
theorem getn_any (w : World) (p : Nat) (v : Value) (d : Option Nat) (W : List Int) (z : Int) (H : Ar w p v d W z) (a : Nat) (x : Int) (ok : Bool) (ha : a < W.length) (ho : decide (a + 1 < W.length) = ok) (hx : W.getD (a + 1) 0 = x) :
    Calls Try.prog 39 #[.pointer (some ⟨p, 0, none⟩), .int .i64 ((a : Int) + 1)] w fun e w' => e = .returned (.tuple #[.int .u64 x, .bool ok]) ∧ w = w' := by
  have hl := H.len
  have hm := H.max
  have e1 : getW W ((a : Int) + 1) = x := by
    unfold getW
    by_cases h : a + 1 < W.length
    · rw [if_pos (by omega), ← hx]; congr 1
    · rw [if_neg (by omega), ← hx, List.getD_eq_getElem?_getD, List.getElem?_eq_none (by omega)]; rfl
  have e2 : decide (0 ≤ (a : Int) + 1 ∧ (a : Int) + 1 < W.length) = ok := by
    rw [← ho]; exact decide_eq_decide.2 (by omega)
  rw [← e1, ← e2]
  exact get_any w p v d W z H _ (by unfold I64; omega)

set_option maxRecDepth 100000 in
set_option maxHeartbeats 2000000 in
theorem gone_any (w : World) (p : Nat) (v : Value) (d : Option Nat) (W : List Int) (z : Int) (H : Ar w p v d W z) (L : List Nat) (hL : Segs W 0 L) (M : List Nat) (hM : M.Pairwise (· < ·)) (hsub : ∀ b ∈ M, b ∈ L)
    (s : Nat) (vr vl vh : Value) (dl : Option Nat) (HS : Blk w s 96 [.pointer (some ⟨p, 0, none⟩), vr, vl, vh]) (HL : Row w 3 1 vl dl M.length (nats M)) :
    Calls Try.prog 54 #[.pointer (some ⟨s, 0, none⟩)] w fun e w' => ∃ v1 d1, e = .returned v1 ∧ Row w' 3 1 v1 d1 (goneOf W M L).length (zs (goneOf W M L)) ∧ Only w w' ∧ (∀ b, d1 = some b → w.heap.size ≤ b) := by
  have hl := H.len
  have hm := H.max
  have hp := H.blk.lt
  have hLl := hL.le
  have hH := Lib.hid H
  have hLH := Lib.hid hL
  have hS := Lib.hid HS
  have hHL := Lib.hid HL
  have hMs := Lib.hid hM
  have hGi := Lib.hid (Gi.zero hsub)
  have hss := HS.lt
  have hgl := goneOf_le W M L
  obtain ⟨Al, cl, rfl⟩ := HL.shape
  have s0 := HS.cell 0 rfl
  clear H hL HS HL hM hsub
  go_enter Try.func54, Try.ntmps54
  go_wp2_with (go_at_call 37; refine (objects_any _ _ _ _ _ _ hH.out L hLH.out).mono ?_; rintro e w1 ⟨v1, d1, rfl, hR1, hk1, hd1⟩; have HK1 := Lib.hid hk1; have HR1 := Lib.hid hR1; have hS1 := Lib.hid (hS.out.kept hk1 (fun h => h)); have hL1 := Lib.hid (hHL.out.kept hk1 (fun _ _ h => h)); have hA1 := Lib.hid (hH.out.only hk1); obtain ⟨A1, c1, rfl⟩ := hR1.shape; have hsz1 := hk1.size)
  clear hk1 hR1
  go_loopw [3, 4, 23] (fun lv kv iv wx => ∃ (i k : Nat) (dg : Option Nat), iv = .int .i64 i ∧ kv = .int .i64 k ∧ i ≤ L.length ∧ Gi L M i k ∧ Row wx 3 1 lv dg (goneOf W M (L.take i)).length (zs (goneOf W M (L.take i))) ∧ Only w1 wx ∧ (∀ b, dg = some b → w1.heap.size ≤ b)) (fun _ _ iv _ => L.length - (intOf iv).toNat)
  case atStart => exact ⟨0, 0, none, rfl, rfl, by omega, hGi.out, Row.nil _ _ _, Kept.refl _ _, by simp⟩
  case round =>
    obtain ⟨i, k, dg, rfl, rfl, hi, hG, hR, hk, hdg⟩ := hrel
    have HG := Lib.hid hG
    have HR := Lib.hid hR
    have HK := Lib.hid hk
    have hS2 := Lib.hid (hS1.out.kept hk (fun h => h))
    have hL2 := Lib.hid (hL1.out.kept hk (fun _ _ h => h))
    have hA2 := Lib.hid (hA1.out.only hk)
    have hR2 := Lib.hid (HR1.out.kept hk (fun _ _ h => h))
    have hDG := Lib.hid hdg
    have hgt := goneOf_le W M (L.take i)
    have hsz2 := hk.size
    obtain ⟨Ag, cg, rfl⟩ := hR.shape
    clear hG hR hk hdg
    by_cases hlt : i < L.length
    · obtain ⟨gl, c2, hvl, hdl', hcl⟩ := hR2.out.head (by omega)
      simp only [Value.slice.injEq] at hvl
      obtain ⟨rfl, -, rfl⟩ := hvl
      have cl1 := (hR2.out.cellAt i (by omega)).trans (nats_get L i hlt)
      have haL := getD_mem hlt
      obtain ⟨-, haW, h, ho, hsz⟩ := hLH.out.lt _ haL
      have hLs := hLH.out.sorted
      have htk : L.take (i + 1) = L.take i ++ [L.getD i 0] := by
        rw [List.take_succ_eq_append_getElem hlt]; simp [List.getD, List.getElem?_eq_getElem hlt]
      have hsn := goneOf_snoc W M (L.take i) (L.getD i 0)
      rw [← htk] at hsn
      have hmax := hR2.out.max
      have hmaxM := hL2.out.max
      have s0 := hS2.out.cell 0 rfl
      have s2 := hS2.out.cell 2 rfl
      have hgo : goneAt W (L.getD i 0) = if h.kind = 3 ∧ 0 < h.size ∧ W.getD (L.getD i 0 + 1) 0 ≠ 0 then [wrap64 (W.getD (L.getD i 0 + 1) 0)] else [] := by unfold goneAt; rw [ho]
      have hy := HG.out.yes hLs hMs.out hlt
      have hn := HG.out.no hLs hMs.out hlt
      generalize ha : L.getD i 0 = a at *
      clear ha htk hLs
      by_cases hsame : k < M.length ∧ M.getD k 0 = a
      · obtain ⟨hkM, hka⟩ := hsame
        obtain ⟨hain, hG'⟩ := hy hkM hka
        rw [if_pos hain, List.append_nil] at hsn
        obtain ⟨gm, c3, hvm, hdm', hcm⟩ := hL2.out.head (by omega)
        simp only [Value.slice.injEq] at hvm
        obtain ⟨rfl, -, rfl⟩ := hvm
        have cm1 := (hL2.out.cellAt k (by omega)).trans (nats_get M k hkM)
        rw [hka] at cm1
        have HSN := Lib.hid hsn
        have hG9 := Lib.hid hG'
        clear hsn hka hain hG' hy hn hgo ho
        go_wp2_with fail
        go_roundw
        case rel => exact ⟨i + 1, k + 1, dg, by go_num, by go_num, by omega, hG9.out, by rw [HSN.out]; exact HR.out, HK.out, hDG.out⟩
        case measure => simp [intOf]; omega
      · obtain ⟨hain, hG'⟩ := hn hsame
        rw [if_neg hain, hgo] at hsn
        have hrx : 0 ≤ W.getD (a + 1) 0 ∧ W.getD (a + 1) 0 < 18446744073709551616 := hA2.out.ws.rng.get (a + 1)
        have hobk : a + h.size.toNat < W.length := hsz
        have hcase : (a + 1 < W.length → h.kind = 3 → 0 < h.size → W.getD (a + 1) 0 = 0) ∨ (a + 1 < W.length ∧ h.kind = 3 ∧ 0 < h.size ∧ W.getD (a + 1) 0 ≠ 0) := by
          by_cases h1 : a + 1 < W.length ∧ h.kind = 3 ∧ 0 < h.size ∧ W.getD (a + 1) 0 ≠ 0
          · exact .inr h1
          · exact .inl fun a1 a2 a3 => Classical.byContradiction fun a4 => h1 ⟨a1, a2, a3, a4⟩
        have hb4 : ∃ b4 : Bool, (W.getD (a + 1) 0 != 0) = b4 := ⟨_, rfl⟩
        have hb3 : ∃ b3 : Bool, decide (0 < h.size) = b3 := ⟨_, rfl⟩
        have hb2 : ∃ b2 : Bool, (h.kind == 3) = b2 := ⟨_, rfl⟩
        have hb1 : ∃ b1 : Bool, decide (a + 1 < W.length) = b1 := ⟨_, rfl⟩
        obtain ⟨b1, hb1⟩ := hb1
        obtain ⟨b2, hb2⟩ := hb2
        obtain ⟨b3, hb3⟩ := hb3
        obtain ⟨b4, hb4⟩ := hb4
        have hsn' : Hid (goneOf W M (L.take (i + 1)) = goneOf W M (L.take i) ++ (if (b1 && b2 && b3 && b4) = true then [wrap64 (W.getD (a + 1) 0)] else [])) := Lib.hid (by
          rw [hsn]
          have hiff : (h.kind = 3 ∧ 0 < h.size ∧ W.getD (a + 1) 0 ≠ 0) ↔ ((b1 && b2 && b3 && b4) = true) := by
            rw [← hb1, ← hb2, ← hb3, ← hb4]
            simp only [Bool.and_eq_true, decide_eq_true_eq, beq_iff_eq, bne_iff_ne, ne_eq]
            constructor
            · rintro ⟨q1, q2, q3⟩; exact ⟨⟨⟨by omega, q1⟩, q2⟩, q3⟩
            · rintro ⟨⟨⟨_, q1⟩, q2⟩, q3⟩; exact ⟨q1, q2, q3⟩
          simp only [hiff])
        have HB1 := Lib.hid hb1
        have hG9 := Lib.hid hG'
        have HO := Lib.hid ho
        have ho2 := obj_range ho
        obtain ⟨kd, z', t, ng⟩ := h
        simp only at hb2 hb3 ho2
        generalize hx : W.getD (a + 1) 0 = x at *
        have HX := Lib.hid hx
        clear hsn hain hG' hy hn hgo ho hb1 hx hcase hsz hobk
        have hkc : ∃ b5 : Bool, decide (k < M.length) = b5 ∧ (b5 = true → k < M.length ∧ ∃ gm y, (Al = some ⟨gm, 0, none⟩) ∧ wr.cell? ⟨gm, k, none⟩ = some (.int .i64 y) ∧ (y == (a : Int)) = false) := by
          refine ⟨_, rfl, fun hb => ?_⟩
          have hkM : k < M.length := by simpa using hb
          obtain ⟨gm, c3, hvm, hdm', hcm⟩ := hL2.out.head (by omega)
          simp only [Value.slice.injEq] at hvm
          have hrw := hL2.out
          rw [hvm.1, hdm'] at hrw
          refine ⟨hkM, gm, _, hvm.1, (hrw.cellAt k (by rw [Nat.mul_one]; exact hkM)).trans (nats_get M k hkM), ?_⟩
          simp only [beq_eq_false_iff_ne, ne_eq]; intro e; exact hsame ⟨hkM, Int.ofNat_inj.1 e⟩
        obtain ⟨b5, hb5, hkc⟩ := hkc
        have hkc' : (b5 = false) ∨ (b5 = true ∧ k < M.length ∧ ∃ gm y, (Al = some ⟨gm, 0, none⟩) ∧ wr.cell? ⟨gm, k, none⟩ = some (.int .i64 y) ∧ (y == (a : Int)) = false) := by
          cases b5
          · exact .inl rfl
          · exact .inr ⟨rfl, hkc rfl⟩
        clear hkc
        have hbs : (b1 && b2 && b3 && b4) = true ∧ b1 = true ∧ b2 = true ∧ b3 = true ∧ b4 = true ∨ (b1 && b2 && b3 && b4) = false ∧ (b1 = false ∨ (b1 = true ∧ b2 = false) ∨ (b1 = true ∧ b2 = true ∧ b3 = false) ∨ (b1 = true ∧ b2 = true ∧ b3 = true ∧ b4 = false)) := by
          cases b1 <;> cases b2 <;> cases b3 <;> cases b4 <;> decide
        rcases hbs with ⟨e0, rfl, rfl, rfl, rfl⟩ | ⟨e0, hbs⟩
        · rw [e0, if_pos rfl] at hsn'
          clear e0
          have hgi : (goneOf W M (L.take i)).length ≤ i := by have := hgt; rw [List.length_take] at this; omega
          rcases hkc' with rfl | ⟨rfl, hkM, gm, y, rfl, cy, ey⟩
          all_goals
            go_wp2_with (first | (go_at_call 38; refine (object_some _ _ _ _ _ _ hA2.out _ _ HO.out).mono ?_; rintro e w3 ⟨rfl, hk3⟩; have hA3 := Lib.hid ((hA2.out.only hk3).alloc (.cells #[.int .i64 kd, .int .i64 z', .int .i64 t, .bool ng] 36)); have hS3 := (hS2.out.kept hk3 (fun h => h)).alloc (.cells #[.int .i64 kd, .int .i64 z', .int .i64 t, .bool ng] 36); have hB3 := Lib.hid (Blk.new w3 36 [.int .i64 kd, .int .i64 z', .int .i64 t, .bool ng]); have hR3 := Lib.hid ((HR.out.kept hk3 (fun _ _ h => h)).alloc (.cells #[.int .i64 kd, .int .i64 z', .int .i64 t, .bool ng] 36)); have hK3 := Lib.hid ((HK.out.then hk3).alloc (.cells #[.int .i64 kd, .int .i64 z', .int .i64 t, .bool ng] 36)); have s03 := hS3.cell 0 rfl; have b0 := hB3.out.cell 0 rfl; have b1 := hB3.out.cell 1 rfl) | (go_at_call 39; refine (getn_any _ _ _ _ _ _ hA3.out a x _ (by omega) HB1.out HX.out).mono ?_; rintro e w' ⟨rfl, rfl⟩) | (at_builtin; go_loud (refine wpList_push1 rfl _ _ _ 3 (.int .i64 0) 8 rfl under_ints info_int rfl (by decide) _ dg _ (zs (goneOf W M (L.take i))) (.int .i64 (wrap64 x)) rfl _ (by simp) rfl rfl (by exact hR3.out) (by omega) ?_; intro v2 d2 w4 hR4 hk4 hd4; obtain ⟨A2, cap2, rfl⟩ := hR4.shape)))
            go_roundw
            case rel =>
              refine ⟨i + 1, k, d2, by go_num, rfl, by omega, hG9.out, ?_, hK3.out.trans hk4 (fun x hx he => by have := hDG.out x he.symm; omega), ?_⟩
              · rw [hsn'.out, zs_append, List.length_append]; exact hR4
              · intro b hb
                rcases hd4 with h | ⟨c, hc, hle⟩
                · exact hDG.out b (h ▸ hb)
                · have h2 := hK3.out.size; rw [hc] at hb; simp at hb hle h2; omega
            case measure => simp [intOf]; omega
        · rw [e0, if_neg (by decide), List.append_nil] at hsn'
          clear e0
          rcases hkc' with rfl | ⟨rfl, hkM, gm, y, rfl, cy, ey⟩ <;> rcases hbs with rfl | ⟨rfl, rfl⟩ | ⟨rfl, rfl, rfl⟩ | ⟨rfl, rfl, rfl, rfl⟩
          all_goals
            go_wp2_with (first | (go_at_call 38; refine (object_some _ _ _ _ _ _ hA2.out _ _ HO.out).mono ?_; rintro e w3 ⟨rfl, hk3⟩; have hA3 := Lib.hid ((hA2.out.only hk3).alloc (.cells #[.int .i64 kd, .int .i64 z', .int .i64 t, .bool ng] 36)); have hS3 := (hS2.out.kept hk3 (fun h => h)).alloc (.cells #[.int .i64 kd, .int .i64 z', .int .i64 t, .bool ng] 36); have hB3 := Lib.hid (Blk.new w3 36 [.int .i64 kd, .int .i64 z', .int .i64 t, .bool ng]); have hR3 := Lib.hid ((HR.out.kept hk3 (fun _ _ h => h)).alloc (.cells #[.int .i64 kd, .int .i64 z', .int .i64 t, .bool ng] 36)); have hK3 := Lib.hid ((HK.out.then hk3).alloc (.cells #[.int .i64 kd, .int .i64 z', .int .i64 t, .bool ng] 36)); have s03 := hS3.cell 0 rfl; have b0 := hB3.out.cell 0 rfl; have b1 := hB3.out.cell 1 rfl) | (go_at_call 39; refine (getn_any _ _ _ _ _ _ hA3.out a x _ (by omega) HB1.out HX.out).mono ?_; rintro e w' ⟨rfl, rfl⟩))
            go_roundw
            case rel => exact ⟨i + 1, k, dg, by go_num, rfl, by omega, hG9.out, by rw [hsn'.out]; exact hR3.out, hK3.out, hDG.out⟩
            case measure => simp [intOf]; omega
    · obtain rfl : i = L.length := by omega
      go_wp2
      go_ret
      refine ⟨_, dg, rfl, ?_, HK1.out.then HK.out, fun b hb => by have := hDG.out b hb; omega⟩
      show Row _ _ _ (Value.slice Ag (goneOf W M (L.take L.length)).length cg) _ _ _
      have := HR.out
      rw [List.take_length] at this ⊢
      exact this
end Go.Proofs.Ytlkfbmebeodbmaa
