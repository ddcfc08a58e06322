/- Contracts of package heap: Make, of what is no Bin. -/
import Derived.Test.YtlkfbmebeodbmaaHeap1
import Derived.RegionTactic
import Derived.BigRegion
set_option linter.unusedVariables false
namespace Go.Proofs.Ytlkfbmebeodbmaa
open Go.RowKit Go.Thr

theorem handle_no (w : World) (k n t : Int) (g : Bool) (hk : k ≠ 3) (vf : Value) : Calls Try.prog 29 #[.agg #[.int .i64 k, .int .i64 n, .int .i64 t, .bool g], vf] w fun e w' => e = .returned (.int .i64 0) ∧ Only w w' := by
  have e3 : (k == 3) = false := by simp [hk]
  have e3' : (k != 3) = true := by simp [hk]
  have hB := Blk.new w 36 [.int .i64 k, .int .i64 n, .int .i64 t, .bool g]
  have b0 := hB.cell 0 rfl
  clear hk
  go_enter Try.func29, Try.ntmps29
  go_wp2
  go_ret
  exact ⟨rfl, (Kept.refl _ w).alloc _⟩

/-- The words while the fields are put in. -/
def part (W : List Int) (x : Int) (F : List Int) (i : Nat) : List Int := W ++ x :: (F.take i ++ List.replicate (F.length - i) 0)
theorem part_zero (W : List Int) (x : Int) (F : List Int) : part W x F 0 = W ++ x :: List.replicate F.length 0 := by simp [part]
theorem part_len (W : List Int) (x : Int) (F : List Int) (i : Nat) (hi : i ≤ F.length) : (part W x F i).length = W.length + 1 + F.length := by simp [part]; omega
theorem part_done (W : List Int) (x : Int) (F : List Int) : part W x F F.length = W ++ x :: F := by simp [part]
theorem part_set (W : List Int) (x : Int) (F : List Int) (i : Nat) (hi : i < F.length) : (part W x F i).set (W.length + 1 + i) (F.getD i 0) = part W x F (i + 1) := by
  unfold part
  rw [List.set_append_right _ _ (by omega), show W.length + 1 + i - W.length = i + 1 from by omega, List.set_cons_succ]
  congr 2
  rw [List.set_append_right _ _ (by simp; omega)]
  have e1 : i - (F.take i).length = 0 := by simp; omega
  rw [e1, show F.length - i = (F.length - (i + 1)) + 1 from by omega, List.replicate_succ, List.set_cons_zero, List.take_succ_eq_append_getElem hi, List.append_assoc]
  simp [List.getD, List.getElem?_eq_getElem hi]

section
variable (w : World) (h p : Nat) (sv v : Value) (d : Option Nat) (W : List Int) (z mst : Int) (H : Hp w h p sv v d W z mst)
include H

theorem hmake_no (k n t : Int) (g : Bool) (hk : k ≠ 3) (hn : I64 n) (vf : Value) (df : Option Nat) (F : List Int) (HF : Ws w vf df F) (hFn : (F.length : Int) = n) (hbad : ¬ (0 ≤ k ∧ k ≤ 3 ∧ 0 ≤ n ∧ n < 1048576 ∧ 0 ≤ t ∧ t < 1048576) ∨ z - W.length < 1 + n) :
    Calls Try.prog 10 #[.pointer (some ⟨h, 0, none⟩), .agg #[.int .i64 k, .int .i64 n, .int .i64 t, .bool g], vf] w fun e w' => e = .returned (.tuple #[.int .u64 0, .bool false]) ∧ Only w w' := by
  have hH := Lib.hid H
  have hB := Lib.hid (Blk.new w 36 [.int .i64 k, .int .i64 n, .int .i64 t, .bool g])
  have hH1 := Lib.hid (H.alloc (.cells #[.int .i64 k, .int .i64 n, .int .i64 t, .bool g] 36))
  have hbd := Lib.hid hbad
  obtain ⟨Af, cf, rfl⟩ := HF.row.shape
  have e1 : ((F.length : Int) == n) = true := by simp [hFn]
  have e1' : ((F.length : Int) != n) = false := by simp [hFn]
  have b0 := hB.out.cell 0 rfl
  have b1 := hB.out.cell 1 rfl
  have b2 := hB.out.cell 2 rfl
  have b3 := hB.out.cell 3 rfl
  have hK0 := Lib.hid (Only.of_alloc (Kept.refl (fun _ => False) (w.alloc (.cells #[.int .i64 k, .int .i64 n, .int .i64 t, .bool g] 36))))
  have HFn := Lib.hid hFn
  clear H HF hbad hFn
  go_enter Try.func10, Try.ntmps10
  go_wp2_with (first | (go_at_call 24; refine (alive_any _ _ _ _ _ hH1.out.blk).mono ?_; rintro e w' ⟨rfl, rfl⟩) | (go_at_call 29; refine (handle_no _ k n t g hk _).mono ?_; rintro e w2 ⟨rfl, hk2⟩; have hH2 := Lib.hid (hH1.out.only hk2); have hB2 := Lib.hid (hB.out.kept hk2 (fun h => h)); have hK2 := Lib.hid (hK0.out.then hk2); have c0 := hB2.out.cell 0 rfl; have c1 := hB2.out.cell 1 rfl; have c2 := hB2.out.cell 2 rfl; have c3 := hB2.out.cell 3 rfl; have a0 := hH2.out.blk.cell 0 rfl))
  go_region_held3 (fun w' => w'.cell? ⟨h, 0, none⟩ = some (.pointer (some ⟨p, 0, none⟩)) ∧ w'.cell? ⟨w.heap.size, 0, none⟩ = some (.int .i64 k) ∧ w'.cell? ⟨w.heap.size, 1, none⟩ = some (.int .i64 n) ∧ w'.cell? ⟨w.heap.size, 2, none⟩ = some (.int .i64 t) ∧ w'.cell? ⟨w.heap.size, 3, none⟩ = some (.bool g))
    (first | go_keep | exact ⟨hH3.out.blk.cell 0 rfl, hB3.out.cell 0 rfl, hB3.out.cell 1 rfl, hB3.out.cell 2 rfl, hB3.out.cell 3 rfl⟩)
    (first | (go_at_call 30; refine (fresh_no _ _ _ _ _ _ hH2.out.ar.drew k t n g hn hbd.out).mono ?_; rintro e w3 ⟨rfl, hk3⟩; have hH3 := Lib.hid (hH2.out.drew.kept hk3 (fun h => h) (fun h => h) (fun _ _ h => h)); have hB3 := Lib.hid (hB2.out.drew.kept hk3 (fun h => h)); have hK3 := Lib.hid (hK2.out.drew.then hk3)))
  go_wp2
  go_ret2
  exact ⟨rfl, hK3.out⟩

theorem hmake_ok (k t : Int) (n : Nat) (g : Bool) (hk : 0 ≤ k ∧ k < 3) (hn : n < 1048576) (ht : 0 ≤ t ∧ t < 1048576) (vf : Value) (df : Option Nat) (F : List Int) (HF : Ws w vf df F) (hFn : F.length = n) (hne : ∀ g, df = some g → d ≠ some g) (hz : 1 + (n : Int) ≤ z - W.length) :
    Calls Try.prog 10 #[.pointer (some ⟨h, 0, none⟩), .agg #[.int .i64 k, .int .i64 n, .int .i64 t, .bool g], vf] w fun e w' => e = .returned (.tuple #[.int .u64 (mkw 5 W.length), .bool true]) ∧ ∃ v' d', Hp w' h p sv v' d' (W ++ mkHd ⟨k, n, t, g⟩ :: F) z mst ∧ Kept (foot p d) w w' ∧ (d' = d ∨ ∃ b, d' = some b ∧ w.heap.size ≤ b) := by
  have hm := H.ar.max
  have hl := H.ar.len
  have hH := Lib.hid H
  have hB := Lib.hid (Blk.new w 36 [.int .i64 k, .int .i64 n, .int .i64 t, .bool g])
  have hH1 := Lib.hid (H.alloc (.cells #[.int .i64 k, .int .i64 n, .int .i64 t, .bool g] 36))
  have hF1 := Lib.hid (HF.alloc (.cells #[.int .i64 k, .int .i64 n, .int .i64 t, .bool g] 36))
  obtain ⟨Af, cf, rfl⟩ := HF.row.shape
  have hNE := Lib.hid hne
  have hk3' : k ≠ 3 := by omega
  have e1 : ((F.length : Int) == (n : Int)) = true := by simp [hFn]
  have e1' : ((F.length : Int) != (n : Int)) = false := by simp [hFn]
  have b0 := hB.out.cell 0 rfl
  have b1 := hB.out.cell 1 rfl
  have b2 := hB.out.cell 2 rfl
  have b3 := hB.out.cell 3 rfl
  have hb := H.blk.lt
  have hpb := H.ar.blk.lt
  have hds : ∀ g, d = some g → g < w.heap.size := fun g hg => H.ar.ws.row.lt hg
  have hfs : ∀ g, df = some g → g < w.heap.size := fun g hg => HF.row.lt hg
  have hpn := H.ne
  have hdn := H.neD
  have hfp : df ≠ some p := fun e => HF.row.ne H.ar.blk (by decide) p e rfl
  have hK0 := Lib.hid (Only.of_alloc (Kept.refl (fun _ => False) (w.alloc (.cells #[.int .i64 k, .int .i64 n, .int .i64 t, .bool g] 36))))
  have HFn := Lib.hid hFn
  have hap := H.ar.apart
  have hft : ¬ foot p d h := by rintro (e | e); exact hpn e; exact hdn e.symm
  have hftB : ¬ foot p d w.heap.size := by rintro (e | e); omega; have := hds _ e.symm; omega
  have hftF : ∀ g, df = some g → ¬ foot p d g := by rintro g hg (e | e); exact hfp (by rw [← e]; exact hg); exact hne g hg e.symm
  have HFT := Lib.hid (And.intro hft (And.intro hftB hftF))
  have hM := Lib.hid (And.intro H.m0 (And.intro H.m1 H.zm))
  have hfs' := hfs
  clear H HF hFn hne hap hdn hfp hds hfs hft hftB hftF
  go_enter Try.func10, Try.ntmps10
  go_wp2_with (first | (go_at_call 24; refine (alive_any _ _ _ _ _ hH1.out.blk).mono ?_; rintro e w' ⟨rfl, rfl⟩) | (go_at_call 29; refine (handle_no _ k n t g hk3' _).mono ?_; rintro e w2 ⟨rfl, hk2⟩; have hH2 := Lib.hid (hH1.out.only hk2); have hB2 := Lib.hid (hB.out.kept hk2 (fun h => h)); have hF2 := Lib.hid (hF1.out.kept hk2 (fun _ _ h => h)); have hK2 := Lib.hid (hK0.out.then hk2); have c0 := hB2.out.cell 0 rfl; have c1 := hB2.out.cell 1 rfl; have c2 := hB2.out.cell 2 rfl; have c3 := hB2.out.cell 3 rfl; have a0 := hH2.out.blk.cell 0 rfl; have hw2 := hk2.size))
  go_region_held3 (fun w' => w'.cell? ⟨h, 0, none⟩ = some (.pointer (some ⟨p, 0, none⟩)) ∧ w'.cell? ⟨w.heap.size, 0, none⟩ = some (.int .i64 k) ∧ w'.cell? ⟨w.heap.size, 1, none⟩ = some (.int .i64 n) ∧ w'.cell? ⟨w.heap.size, 2, none⟩ = some (.int .i64 t) ∧ w'.cell? ⟨w.heap.size, 3, none⟩ = some (.bool g))
    (first | go_keep | exact ⟨hQ3.out.cell 0 rfl, hB3.out.cell 0 rfl, hB3.out.cell 1 rfl, hB3.out.cell 2 rfl, hB3.out.cell 3 rfl⟩)
    (first | (go_at_call 30; refine (fresh_ok _ _ _ _ _ _ hH2.out.ar.drew k t n g ⟨hk.1, by omega⟩ hn ht hz).mono ?_; rintro e w3 ⟨rfl, v3, d3, hA3, hk3, hd3⟩; have hA3' := Lib.hid hA3; have hQ3 := Lib.hid (hH2.out.blk.drew.kept hk3 HFT.out.1); have hB3 := Lib.hid (hB2.out.drew.kept hk3 HFT.out.2.1); have hF3 := Lib.hid (hF2.out.drewN 1 |>.kept hk3 HFT.out.2.2); have hK3 := Lib.hid (Kept.trans (S := foot p d) (hK2.out.drew.mono (fun _ _ h => h.elim)) hk3 (fun _ _ h => h)); have hD3 := Lib.hid hd3; clear hA3 hk3 hd3))
  have hw2' : w.heap.size + 1 ≤ w2.heap.size := by simpa using hw2
  clear hw2
  have hwle := Lib.hid hw2'
  have hP0 := Lib.hid (show Ar w3 p v3 d3 (part W (mkHd ⟨k, n, t, g⟩) F 0) z by rw [part_zero, HFn.out]; exact hA3'.out)
  have hVL := Lib.hid (vl_mkw (t := 5) (n := W.length) (by omega) (by omega) (by omega) (by omega))
  have hrw := mkw_range 5 (W.length : Int)
  have hd3h : ¬ some h = d3 := fun e => hA3'.out.ws.row.ne hQ3.out (by decide) h e.symm rfl
  have hd3f : ∀ g, df = some g → ¬ some g = d3 := by
    intro g hg e
    rcases hD3.out with e' | ⟨b, e', hle⟩
    · exact hNE.out g hg (by rw [← e', ← e])
    · have h1 := hfs' g hg
      rw [e'] at e; have e2 := Option.some.inj e
      have h2 : w2.heap.size ≤ b := hle
      omega
  have HD3 := Lib.hid (And.intro hd3h hd3f)
  clear hd3h hd3f hfs'
  have hFl : F.length < 1048576 := by rw [HFn.out]; exact hn
  generalize hx : mkHd ⟨k, n, t, g⟩ = x at *
  have HX := Lib.hid hx
  clear hx
  generalize hy : mkw 5 (W.length : Int) = y at *
  have HY := Lib.hid hy
  clear hy
  go_wp2
  go_loopw [50] (fun iv wx => ∃ i : Nat, iv = .int .i64 i ∧ i ≤ F.length ∧ Ar wx p v3 d3 (part W x F i) z ∧ Kept (fun k => some k = d3) w3 wx) (fun iv _ => F.length - (intOf iv).toNat)
  case atStart => exact ⟨0, rfl, by omega, hP0.out, Kept.refl _ _⟩
  case round =>
    obtain ⟨i, rfl, hi, hA, hk4⟩ := hrel
    have HA := Lib.hid hA
    have HK := Lib.hid hk4
    have hQ4 := Lib.hid (hQ3.out.kept hk4 HD3.out.1)
    have hF4 := Lib.hid (hF3.out.kept hk4 (fun g hg => HD3.out.2 g hg))
    clear hA hk4
    by_cases hlt : i < F.length
    · obtain ⟨gf, cf', hvf, hdf, hcf⟩ := hF4.out.row.head (by omega)
      simp only [Value.slice.injEq] at hvf
      obtain ⟨rfl, -, rfl⟩ := hvf
      have hfi : (words F)[i]? = some (.int .u64 (F.getD i 0)) := by simp [words, List.getElem?_eq_getElem hlt, List.getD]
      have cf1 := (hF4.out.row.cellAt i (by rw [Nat.mul_one]; exact hlt)).trans hfi
      have hrf := hF4.out.rng.get i
      have hst := part_set W x F i hlt
      have hLT := Lib.hid hlt
      generalize F.getD i 0 = u at *
      have hST := Lib.hid hst
      clear hst hfi
      have a0 := hQ4.out.cell 0 rfl
      have hfn := HFn.out
      have hw1 : IntKind.i64.wrap ((W.length : Int) + 1) = W.length + 1 := by rw [IntKind.wrap_i64]; omega
      have hw2 : IntKind.i64.wrap ((W.length : Int) + 1 + i) = W.length + 1 + i := by rw [IntKind.wrap_i64]; omega
      have hpl := part_len W x F i (by omega)
      have hPL := Lib.hid hpl
      clear hpl hfn
      go_wp2_with fail
      go_region_held3 (fun w' => w'.cell? ⟨h, 0, none⟩ = some (.pointer (some ⟨p, 0, none⟩)))
        (first | go_keep | exact hQ5.out.cell 0 rfl)
        (first | (go_at_call 32; refine (value_any _ _ hrw.1 hrw.2).mono ?_; rw [hVL.out]; rintro e w' ⟨rfl, rfl⟩) | (go_at_call 31; refine (set_any' _ _ _ _ _ _ HA.out.drew _ (W.length + 1 + i) (by omega) (by rw [hPL.out]; omega) _ hrf).mono ?_; rw [hST.out]; rintro e w5 ⟨rfl, hA5, hk5⟩; have hA5' := Lib.hid hA5; have hK5 := Lib.hid (Kept.trans HK.out.drew hk5 (fun _ _ h => h)); have hQ5 := Lib.hid (hQ4.out.drew.kept hk5 HD3.out.1); clear hA5 hk5))
      clear hw1 hw2
      go_wp2
      go_roundw
      case rel => exact ⟨i + 1, by go_num, hLT.out, hA5'.out, hK5.out⟩
      case measure => have := hLT.out; simp [intOf]; omega
    · obtain rfl : i = F.length := by omega
      have HA' := Lib.hid (show Ar wr p v3 d3 (W ++ x :: F) z by rw [← part_done]; exact HA.out)
      go_wp2
      go_ret2
      rw [HX.out, HY.out]
      refine ⟨rfl, v3, d3, ?_, Kept.trans (S := foot p d) hK3.out HK.out ?_, ?_⟩
      · exact ⟨hQ4.out, HA'.out, hM.out.1, hM.out.2.1, hM.out.2.2⟩
      · intro j hj e
        rcases hD3.out with e' | ⟨b, e', hle⟩
        · exact .inr (by rw [← e']; exact e)
        · rw [e'] at e; have e2 := Option.some.inj e
          have h2 : w2.heap.size ≤ b := hle
          have h3 := hwle.out
          omega
      · rcases hD3.out with e' | ⟨b, e', hle⟩
        · exact .inl e'
        · exact .inr ⟨b, e', by have h2 : w2.heap.size ≤ b := hle
                                have h3 := hwle.out
                                omega⟩
end
end Go.Proofs.Ytlkfbmebeodbmaa
