/- The statements of the heap: a heap of tuples, the store's New, and awake. -/
import Derived.Test.YtlkfbmebeodbmaaHeap4
import Derived.Test.YtlkfbmebeodbmaaTup
set_option linter.unusedVariables false
namespace Go.Proofs.Ytlkfbmebeodbmaa
open Go.RowKit Go.Thr

theorem snew_any (w : World) (m : Int) (hm : 0 ≤ m ∧ m ≤ 1048576) : Calls Try.prog 7 #[.int .i64 m] w fun e w' => e = .returned (.pointer (some ⟨w.heap.size, 0, none⟩)) ∧ Blk w' w.heap.size 54 [.slice none 0 0, .int .i64 m, .slice none 0 0, .int .i64 0] ∧ Only w w' := by
  have hm0 := hm.1
  have hm1 := hm.2
  have hB := Lib.hid (Blk.new w 54 [.slice none 0 0, .int .i64 m, .slice none 0 0, .int .i64 0])
  clear hm
  go_enter Try.func7, Try.ntmps7
  go_wp2
  go_ret
  exact ⟨rfl, hB.out, (Kept.refl _ w).alloc _⟩

/-- A heap of tuples, with its roots. -/
structure HSt (w : World) (h p : Nat) (sv v : Value) (d : Option Nat) (z mst : Int) (vr : Value) (dr : Option Nat) (l : List (Nat × Bool)) : Prop where
  hp : Hp w h p sv v d (tupW l) z mst
  ws : Ws w vr dr (ptrs (posR l 0))
  ne : ∀ g, d = some g → dr ≠ some g
  small : Small l

section
variable {w w' : World} {h p : Nat} {sv v : Value} {d : Option Nat} {z mst : Int} {vr : Value} {dr : Option Nat} {l : List (Nat × Bool)}
theorem HSt.len (H : HSt w h p sv v d z mst vr dr l) : ((tupW l).length : Int) ≤ z ∧ z ≤ mst ∧ mst ≤ 1048576 := ⟨H.hp.ar.len, H.hp.zm, H.hp.m1⟩
theorem HSt.kept {S : Nat → Prop} (H : HSt w h p sv v d z mst vr dr l) (k : Kept S w w') (h1 : ¬ S h) (h2 : ¬ S p) (h3 : ∀ g, d = some g → ¬ S g) (h4 : ∀ g, dr = some g → ¬ S g) : HSt w' h p sv v d z mst vr dr l :=
  ⟨H.hp.kept k h1 h2 h3, H.ws.kept k h4, H.ne, H.small⟩
theorem HSt.only (H : HSt w h p sv v d z mst vr dr l) (k : Only w w') : HSt w' h p sv v d z mst vr dr l := H.kept k (fun h => h) (fun h => h) (fun _ _ h => h) (fun _ _ h => h)
theorem HSt.rlen (H : HSt w h p sv v d z mst vr dr l) : (ptrs (posR l 0)).length ≤ 1000000000 := by
  have h1 : ∀ (l : List (Nat × Bool)) (i : Nat), (posR l i).length ≤ (tupW l).length := by
    intro l; induction l with
    | nil => intro i; simp [posR]
    | cons e l ih =>
      intro i
      have := ih (i + 1 + e.1)
      rw [tupW_cons]; simp only [posR]; split <;> simp <;> omega
  have := h1 l 0
  have := H.len
  simp [ptrs]; omega
theorem keep_small (hs : Small l) : Small (keep l) := fun e he => hs e (List.mem_filter.1 he).1
end

theorem hneed_any (w : World) (h p : Nat) (sv v : Value) (d : Option Nat) (z mst : Int) (vr : Value) (dr : Option Nat) (l : List (Nat × Bool)) (H : HSt w h p sv v d z mst vr dr l) (n : Int) (hn : 0 ≤ n) (hn1 : n ≤ 1048576) :
    Calls Try.prog 9 #[.pointer (some ⟨h, 0, none⟩), .int .i64 n, vr] w fun e w' => ∃ ok l' z' v', e = .returned (.bool ok) ∧ HSt w' h p sv v' d z' mst vr dr l' ∧ Kept (fun k => foot2 d dr k ∨ k = p) w w' ∧
      ((n ≤ z - (tupW l).length ∧ ok = true ∧ l' = l ∧ z' = z) ∨ (z - (tupW l).length < n ∧ l' = keep l ∧ ((n ≤ mst - (tupW (keep l)).length ∧ ok = true ∧ z' = roomZ mst ((tupW (keep l)).length + n)) ∨ (mst - (tupW (keep l)).length < n ∧ ok = false ∧ z' = roomZ mst (tupW (keep l)).length)))) := by
  by_cases hz : n ≤ z - (tupW l).length
  · refine (need_fits w h p sv v d _ z mst H.hp vr n hn hz).mono ?_
    rintro e w' ⟨rfl, hk⟩
    exact ⟨true, l, z, v, rfl, H.only hk, hk.mono (fun _ _ h => h.elim), .inl ⟨hz, rfl, rfl, rfl⟩⟩
  · have hl := H.len
    have hl' : (tupW l).length ≤ 1048576 := by omega
    refine (need_more w h p sv v d _ z mst H.hp vr dr _ H.ws H.ne H.rlen (posA l 0) (tup_snd H.small hl') (tup_gone H.small) n hn hn1 (by omega)).mono ?_
    rintro e w' ⟨M, v', hM, rfl, hH, hR, hk⟩
    obtain rfl := tup_live H.small hl' hM
    rw [tup_finW H.small] at hH ⊢
    rw [tup_finR H.small hl'] at hR
    by_cases hc : n ≤ mst - (tupW (keep l)).length
    · rw [if_pos hc] at hH
      exact ⟨_, keep l, _, v', rfl, ⟨hH, hR, H.ne, keep_small H.small⟩, hk, .inr ⟨by omega, rfl, .inl ⟨hc, by simpa using hc, rfl⟩⟩⟩
    · rw [if_neg hc] at hH
      exact ⟨_, keep l, _, v', rfl, ⟨hH, hR, H.ne, keep_small H.small⟩, hk, .inr ⟨by omega, rfl, .inr ⟨by omega, by simpa using hc, rfl⟩⟩⟩

theorem hcoll_any (w : World) (h p : Nat) (sv v : Value) (d : Option Nat) (z mst : Int) (vr : Value) (dr : Option Nat) (l : List (Nat × Bool)) (H : HSt w h p sv v d z mst vr dr l) :
    Calls Try.prog 16 #[.pointer (some ⟨h, 0, none⟩), vr] w fun e w' => e = .returned (.tuple #[]) ∧ ∃ v', HSt w' h p sv v' d (roomZ mst (tupW (keep l)).length) mst vr dr (keep l) ∧ Kept (fun k => foot2 d dr k ∨ k = p) w w' := by
  have hl := H.len
  have hl' : (tupW l).length ≤ 1048576 := by omega
  refine (hcollect_any w h p sv v d _ z mst H.hp vr dr _ H.ws H.ne H.rlen (posA l 0) (tup_snd H.small hl') (tup_gone H.small)).mono ?_
  rintro e w' ⟨rfl, M, v', hM, hH, hR, hk⟩
  obtain rfl := tup_live H.small hl' hM
  rw [tup_finW H.small] at hH
  rw [tup_finR H.small hl'] at hR
  exact ⟨rfl, v', ⟨hH, hR, H.ne, keep_small H.small⟩, hk⟩

theorem HSt.start {w : World} {h p : Nat} {sv : Value} {z mst : Int} (H : Hp w h p sv (.slice none 0 0) none [] z mst) : HSt w h p sv (.slice none 0 0) none z mst (.slice none 0 0) none [] :=
  ⟨H, ⟨Row.nil _ _ _, fun x hx => by cases hx⟩, fun g hg => by (cases hg), fun e he => by (cases he)⟩

theorem awake_need {ok : Bool} {l' : List (Nat × Bool)} {z' : Int}
    (hc : ((100 : Int) ≤ roomZ 1000 0 - (tupW []).length ∧ ok = true ∧ l' = [] ∧ z' = roomZ 1000 0) ∨ (roomZ 1000 0 - (tupW []).length < 100 ∧ l' = keep [] ∧ (((100 : Int) ≤ 1000 - (tupW (keep [])).length ∧ ok = true ∧ z' = roomZ 1000 ((tupW (keep [])).length + 100)) ∨ (1000 - ((tupW (keep [])).length : Int) < 100 ∧ ok = false ∧ z' = roomZ 1000 (tupW (keep [])).length)))) :
    ok = true ∧ l' = [] ∧ z' = 200 := by
  have h0 : ((tupW []).length : Int) = 0 := rfl
  have h1 : keep [] = [] := rfl
  have hr : roomZ 1000 0 = 32 := by decide
  rw [h1, h0, hr] at hc
  rcases hc with ⟨h, _⟩ | ⟨_, rfl, ⟨_, rfl, rfl⟩ | ⟨h, _⟩⟩
  · omega
  · exact ⟨rfl, rfl, by decide⟩
  · omega

set_option maxRecDepth 100000 in
theorem awake_any (w : World) : Calls Try.prog 6 #[] w fun e w' => e = .returned (.bool true) ∧ Only w w' := by
  have hr : roomZ 1000 0 = 32 := by decide
  go_enter Try.func6, Try.ntmps6
  go_wp2_with (first
    | (go_at_call 7; refine (snew_any _ 9 (by omega)).mono ?_; rintro e w1 ⟨rfl, hB1, hk1⟩; have HK1 := Lib.hid hk1; clear hk1 hB1)
    | (go_at_call 8; refine (hnew_any _ 1000 (by omega) _ ⟨_, rfl⟩).mono ?_; rintro e w2 ⟨p, rfl, hH2, hk2, hp2⟩; have HH2 := Lib.hid (HSt.start hH2); have HK2 := Lib.hid (HK1.out.then hk2); have hh2 := hk2.size; have hh1 := HK1.out.size; generalize w1.heap.size = h at *; clear hk2 hH2)
    | (go_at_call 12; refine (hcap_any HH2.out.hp).mono ?_; rw [hr]; rintro e w' ⟨rfl, rfl⟩)
    | (go_at_call 9; refine (hneed_any _ _ _ _ _ _ _ _ _ _ _ HH2.out 100 (by omega) (by omega)).mono ?_; rintro e w3 ⟨ok, l', z', v', rfl, hH3, hk3, hc⟩; obtain ⟨rfl, rfl, rfl⟩ := awake_need hc; have HH3 := Lib.hid hH3; have HK3 := Lib.hid (Kept.trans HK2.out hk3 (fun k hk e => by rcases e with (e | e) | e <;> first | (cases e; done) | omega)); clear hH3 hk3 hc)
    | (go_at_call 12; refine (hcap_any HH3.out.hp).mono ?_; rintro e w' ⟨rfl, rfl⟩)
    | (go_at_call 11; refine (hused_any HH3.out.hp).mono ?_; rintro e w' ⟨rfl, rfl⟩)
    | (go_at_call 21; refine (harena_any _ _ _ _ _ _ HH3.out.hp.blk).mono ?_; rintro e w' ⟨rfl, rfl⟩))
  go_ret
  exact ⟨rfl, HK3.out⟩
end Go.Proofs.Ytlkfbmebeodbmaa
