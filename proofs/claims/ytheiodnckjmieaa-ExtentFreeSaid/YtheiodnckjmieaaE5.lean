/- The law Apart. (Printed by genlaws.py.) -/
import Derived.Test.YtheiodnckjmieaaE3
import Derived.Deep.CutBlock
import Derived.Test.YtheiodnckjmieaaE4
import Derived.Test.YtheiodnckjmieaaEm
namespace Go.Proofs.Ytheiodnckjmieaa
set_option linter.unusedVariables false
open Go.RowKit

theorem take_zero {F : List Bool} {m : Int} {X M : Int} (h : takeC F m = 0) (e : (X, M) = takeX 0 F m) : 0 ≤ X ∧ 1 ≤ M ∧ X + M ≤ F.length ∧ (∀ z, inE z (X, M) → freeB 0 F z) ∧ ∀ z, freeB 0 (takeF F m) z ↔ freeB 0 F z ∧ ¬ inE z (X, M) := by
  by_cases h1 : m < 1
  · rw [takeC, if_pos h1] at h; omega
  obtain ⟨n, rfl⟩ : ∃ n : Nat, m = n := ⟨m.toNat, by omega⟩
  obtain ⟨p, hp, hl, ha, hm⟩ := take_got h
  have hX : takeX 0 F n = ((p : Int), (n : Int)) := by rw [takeX, if_neg h1, Int.toNat_natCast, hp]; simp
  have hF : takeF F n = setR F p n false := by rw [takeF, if_neg h1, Int.toNat_natCast, hp]
  rw [hX] at e
  injection e with e1 e2
  subst e1 e2
  have e3 : ((p : Int) - 0).toNat = p := by omega
  refine ⟨by omega, by omega, by omega, ?_, fun z => ?_⟩
  · refine (all_free (base := 0) (by show (0 : Int) ≤ p; omega)).1 ((allF_iff (by omega)).1 ?_)
    rw [e3, Int.toNat_natCast]; exact ha
  · rw [hF]
    have := free_set (base := 0) (F := F) (e := ((p : Int), (n : Int))) (b := false) (by show (0 : Int) ≤ p; omega) (by show (1 : Int) ≤ n; omega) (by show (p : Int) + n ≤ 0 + F.length; omega) z
    simpa using this
theorem claim_free {F : List Bool} {x n : Int} (h : claimC 0 F x n = 0) : 0 ≤ x ∧ 1 ≤ n ∧ x + n ≤ F.length ∧ (∀ z, inE z (x, n) → freeB 0 F z) ∧ ∀ z, freeB 0 (claimF 0 F x n) z ↔ freeB 0 F z ∧ ¬ inE z (x, n) := by
  obtain ⟨ho, ha⟩ := claim_zero h
  have hoi := ours_iff ho
  have hF : claimF 0 F x n = setR F (x - 0).toNat n.toNat false := by unfold claimF; rw [if_pos ⟨ho, ha⟩]
  refine ⟨hoi.2.1, hoi.1, by omega, (all_free (e := (x, n)) hoi.2.1).1 ((allF_iff (by omega)).1 ha), fun z => ?_⟩
  rw [hF]
  have := free_set (base := 0) (F := F) (e := (x, n)) (b := false) hoi.2.1 hoi.1 hoi.2.2 z
  simpa using this
theorem give_free {F : List Bool} {x n : Int} (h : giveC 0 F x n = 0) : 0 ≤ x ∧ 1 ≤ n ∧ x + n ≤ F.length ∧ ∀ z, freeB 0 (giveF 0 F x n) z ↔ freeB 0 F z ∨ inE z (x, n) := by
  unfold giveC at h
  by_cases h1 : oursB 0 F.length x n = true
  · rw [if_pos h1] at h
    by_cases h2 : allF F (x - 0).toNat n.toNat false = true
    · have hoi := ours_iff h1
      refine ⟨hoi.2.1, hoi.1, by omega, fun z => ?_⟩
      unfold giveF
      rw [if_pos ⟨h1, h2⟩]
      have := free_set (base := 0) (F := F) (e := (x, n)) (b := true) hoi.2.1 hoi.1 hoi.2.2 z
      simpa using this
    · rw [if_neg h2] at h; omega
  · rw [if_neg h1] at h; omega
/-- What the map of what is held must hold. -/
def HoldY (F : List Bool) (Y : List Int) : Prop := ∀ x, x ∈ Y ↔ (0 ≤ x ∧ x < F.length) ∧ ¬ freeB 0 F x
theorem hold_count : ∀ (F : List Bool), countB F + ((List.range F.length).filter fun i => F[i]? == some false).length = F.length := by
  intro F
  have key : ∀ k, k ≤ F.length → countB (F.take k) + ((List.range k).filter fun i => F[i]? == some false).length = k := by
    intro k
    induction k with
    | zero => intro _; rfl
    | succ k ih =>
      intro hk
      obtain ⟨y, hy⟩ : ∃ y, F[k]? = some y := ⟨_, List.getElem?_eq_getElem (by omega)⟩
      have := ih (by omega)
      rw [count_step hy, List.range_succ, List.filter_append, List.length_append]
      cases y <;> simp [hy] <;> omega
  have := key F.length (Nat.le_refl _)
  rwa [List.take_length] at this
theorem hold_len {F : List Bool} {Y : List Int} (h : HoldY F Y) (hn : Y.Nodup) : countB F + Y.length = F.length := by
  have hc := hold_count F
  have hp : Y.Perm (((List.range F.length).filter fun i => F[i]? == some false).map fun i : Nat => (i : Int)) := by
    refine (List.perm_ext_iff_of_nodup hn ?_).2 fun x => ?_
    · refine List.Pairwise.map _ (fun a b hab => ?_) ((List.nodup_range).filter _)
      intro e; exact hab (by omega)
    · rw [h x, List.mem_map]
      constructor
      · rintro ⟨⟨h1, h2⟩, h3⟩
        refine ⟨x.toNat, List.mem_filter.2 ⟨List.mem_range.2 (by omega), ?_⟩, by omega⟩
        obtain ⟨y, hy⟩ : ∃ y, F[x.toNat]? = some y := ⟨_, List.getElem?_eq_getElem (by omega)⟩
        cases y with
        | false => rw [hy]; rfl
        | true =>
          refine absurd ⟨h1, ?_⟩ h3
          have e : (x - 0).toNat = x.toNat := by omega
          rw [e]; exact hy
      · rintro ⟨i, hi, rfl⟩
        obtain ⟨h1, h2⟩ := List.mem_filter.1 hi
        have hi2 := List.mem_range.1 h1
        refine ⟨⟨by omega, by omega⟩, fun hf => ?_⟩
        have e : ((i : Int) - 0).toNat = i := by omega
        have := hf.2
        rw [e] at this
        rw [this] at h2
        simp at h2
  have := hp.length_eq
  rw [List.length_map] at this
  omega

/-- What is known when an act is done: Z what it told, X and M the sectors, F' the free ones. -/
structure Ap (w wx : World) (B mb yb N k : Nat) (F : List Bool) (Y : List Int) (F' : List Bool) (Z X M : Int) : Prop where
  chg : Chg (fun _ => False) w wx
  ef : Ef wx (fun q => q = B ∨ q = mb) B 0 F'
  fn : F'.length = N
  b0 : wx.cell? ⟨yb, 0, none⟩ = some (.int .i64 X)
  b1 : wx.cell? ⟨yb, 1, none⟩ = some (.int .i64 M)
  yl : yb < wx.heap.size
  cs : (Z = 0 ∧ (0 ≤ X ∧ 1 ≤ M ∧ X + M ≤ N ∧ (∀ z, inE z (X, M) → freeB 0 F z) ∧ ∀ z, freeB 0 F' z ↔ freeB 0 F z ∧ ¬ inE z (X, M)) ∧ SetM wx mb Y) ∨ (Z ≠ 0 ∧ ∃ Y', Y'.Nodup ∧ SetM wx mb Y' ∧ HoldY F' Y' ∧ Y'.length ≤ 100 * k)
theorem hold_add {F F' : List Bool} {Y Y' : List Int} {X M : Int} (h : HoldY F Y) (hl : F'.length = F.length) (hb : 0 ≤ X ∧ 1 ≤ M ∧ X + M ≤ F.length) (hf : ∀ z, freeB 0 F' z ↔ freeB 0 F z ∧ ¬ inE z (X, M)) (hy : ∀ z, z ∈ Y' ↔ z ∈ Y ∨ inE z (X, M)) : HoldY F' Y' := fun x => by
  rw [hy, h x, hf, hl]
  constructor
  · rintro (⟨h1, h2⟩ | h1)
    · exact ⟨h1, fun h3 => h2 h3.1⟩
    · exact ⟨by unfold inE at h1; simp only at h1; omega, fun h3 => h3.2 h1⟩
  · rintro ⟨h1, h2⟩
    by_cases hx : inE x (X, M)
    · exact .inr hx
    · exact .inl ⟨h1, fun h3 => h2 ⟨h3, hx⟩⟩
theorem hold_sub {F F' : List Bool} {Y Y' : List Int} {X M : Int} (h : HoldY F Y) (hl : F'.length = F.length) (hf : ∀ z, freeB 0 F' z ↔ freeB 0 F z ∨ inE z (X, M)) (hy : ∀ z, z ∈ Y' ↔ z ∈ Y ∧ ¬ inE z (X, M)) : HoldY F' Y' := fun x => by
  rw [hy, h x, hf, hl]
  constructor
  · rintro ⟨⟨h1, h2⟩, h3⟩
    exact ⟨h1, fun h4 => h4.elim h2 h3⟩
  · rintro ⟨h1, h2⟩
    exact ⟨⟨h1, fun h3 => h2 (.inl h3)⟩, fun h3 => h2 (.inr h3)⟩

set_option maxHeartbeats 4000000 in
set_option maxRecDepth 100000 in
theorem extentApart_any (s : Int) (v : Value) (l : List (Int × Int × Int)) (w : World) (hs : (Lit.int .i64 s).wf = true) (hL : IsL3 .i64 .i64 .i64 w v l) :
    Calls Try.prog 8 #[.int .i64 s, v] w fun e w' => e = .returned (.bool true) ∧ Below w.heap.size w w' := by
  obtain ⟨hwf, a, cap, rfl, hlen, hc⟩ := hL
  have HC := Lib.hid hc
  have hmm := @run_makeMap Try.prog
  have HWF := Lib.hid hwf
  clear hc hwf
  go_enter Try.func8, Try.ntmps8
  go_wp2_with fail
  refine (awake_any w).mono ?_; rintro e w1 ⟨rfl, g1⟩
  go_wp2_with fail
  refine (great_any w1 s a l.length cap).mono ?_; rintro e w1' ⟨rfl, rfl⟩
  cases hg : greatB s l.length with
  | true =>
    go_wp2_with fail
    refine (awake_any w1).mono ?_; rintro e w2 ⟨rfl, g2⟩
    go_wp2
    go_ret
    exact ⟨rfl, Chg.below (g1.trans g2 (fun _ _ h => h))⟩
  | false =>
    go_wp2_with fail
    cases hb : badN 0 s with
    | true =>
      refine (new_bad w1 0 s hb).mono ?_; rintro e w2 ⟨rfl, rfl⟩
      go_wp2_with fail
      refine (rnew_bad w1 0 s hb).mono ?_; rintro e w2 ⟨rfl, rfl⟩
      go_wp2
      go_ret
      exact ⟨rfl, Chg.below g1⟩
    | false =>
      have hbb : 0 ≤ s ∧ s ≤ 1048576 := by simp [badN] at hb; omega
      obtain ⟨N, rfl⟩ : ∃ n : Nat, s = n := ⟨s.toNat, by omega⟩
      refine (new_ef w1 0 N hb).mono ?_; rintro e w2 ⟨rfl, hE, g2⟩
      obtain ⟨B, hB⟩ : ∃ B, B = w1.heap.size := ⟨_, rfl⟩
      rw [← hB] at hE ⊢
      have HB := Lib.hid hB
      clear hB
      go_wp2_with fail
      refine (rnew_ok w2 0 N hb).mono ?_; rintro e w3 ⟨rfl, hR, g3⟩
      have hP := new_pair HB.out hE hR g3
      obtain ⟨B2, hB2⟩ : ∃ B2, B2 = w2.heap.size := ⟨_, rfl⟩
      rw [← hB2] at hP ⊢
      have zB : w.heap.size ≤ B ∧ w.heap.size ≤ B2 := by have := g1.size; have := g2.size; have := HB.out; omega
      have HP := Lib.hid hP
      have G3 := Lib.hid ((g1.trans g2 (fun _ _ h => h)).trans g3 (fun _ _ h => h))
      have hN : N ≤ 100 ∧ l.length ≤ 60 := by simp [greatB] at hg; omega
      clear hE hR hP hB2 g1 g2 g3 hg hb
      go_wp2_with fail
      refine name_region ?_; intro w4 hw4
      have hmb : ∃ mb, mb = w3.heap.size ∧ SetM w4 mb [] ∧ Ef w4 (fun q => q = B ∨ q = mb) B 0 (List.replicate N true) ∧ Chg (fun _ => False) w w4 := by
        refine ⟨_, rfl, ?_, ?_, ?_⟩
        · subst hw4; exact setM_made _
        · subst hw4
          exact HP.out.1.grow (T := fun _ => False) (by repeat (first | with_reducible exact Chg.refl _ _ | with_reducible assumption | with_reducible refine Chg.drewN ?_ _ | with_reducible refine Chg.drew ?_ | with_reducible refine Chg.alloc ?_ _ | with_reducible refine Chg.setCell ?_ (by first | (left; rfl) | (right; exact Nat.le_refl _) | (right; simp; done) | (right; omega) | (right; simp at *; omega) | (simp at *; omega)) _ | with_reducible refine Chg.trans ?_ (by with_reducible assumption) (by intro i hi hT; first | exact hT | exact False.elim hT | omega | (simp at *; omega)))) (fun _ _ h => h.elim) id (fun q hq => by
            rcases hq with hq | hq
            · exact .inl (.inl hq)
            · right; simp; omega) (.inl rfl)
        · subst hw4; exact G3.out.trans (T := fun _ => False) (by repeat (first | with_reducible exact Chg.refl _ _ | with_reducible assumption | with_reducible refine Chg.drewN ?_ _ | with_reducible refine Chg.drew ?_ | with_reducible refine Chg.alloc ?_ _ | with_reducible refine Chg.setCell ?_ (by first | (left; rfl) | (right; exact Nat.le_refl _) | (right; simp; done) | (right; omega) | (right; simp at *; omega) | (simp at *; omega)) _ | with_reducible refine Chg.trans ?_ (by with_reducible assumption) (by intro i hi hT; first | exact hT | exact False.elim hT | omega | (simp at *; omega)))) (fun _ _ h => h)
      obtain ⟨mb, hmbe, HM4, HE4, G4⟩ := hmb
      have zmb : w.heap.size ≤ mb := by have := G3.out.size; omega
      have zBm : B ≠ mb := by have := HP.out.1.sb.2; omega
      rw [← hmbe]
      have HM4 := Lib.hid HM4
      have HE4 := Lib.hid HE4
      have G4 := Lib.hid G4
      clear hmbe hw4
      have HH4 : Hid (HoldY (List.replicate N true) []) := fun x => by
        constructor
        · intro h; cases h
        · rintro ⟨⟨h1, h2⟩, h3⟩
          rw [List.length_replicate] at h2
          refine absurd ⟨h1, ?_⟩ h3
          rw [List.getElem?_replicate, if_pos (by omega)]
      go_loopw [49] (fun i wr => ∃ (k : Nat) (F : List Bool) (Y : List Int), k ≤ l.length ∧ i = .int .i64 (↑k : Int) ∧ F.length = N ∧ Y.length ≤ 100 * k ∧ Hid (Y.Nodup) ∧ Hid (Ef wr (fun q => q = B ∨ q = mb) B 0 F) ∧ Hid (SetM wr mb Y) ∧ Hid (HoldY F Y) ∧ Hid (Chg (fun _ => False) w wr)) (fun i _ => l.length - (intOf i).toNat)
      case atStart => exact ⟨0, _, [], by omega, rfl, List.length_replicate, by simp, List.nodup_nil, HE4.out, HM4.out, HH4.out, G4.out⟩
      case round =>
        obtain ⟨k, F, Y, hk, rfl, hFN, hYl, HY, HE, HM, HH, HG⟩ := hrel
        have zr := HE.out.sb.2
        have zmr := HM.out.lt
        by_cases hlt : k < l.length
        rotate_left
        · obtain rfl : k = l.length := by omega
          have hcnt := hold_len HH.out HY.out
          have hYN : Y.length ≤ N := by omega
          go_wp2_with fail
          refine (left_ef wr _ B 0 F HE.out).mono ?_; rintro e w5 ⟨rfl, g5⟩
          have HM5 := Lib.hid (HM.out.chg g5 id)
          have G5 := Lib.hid (HG.out.trans g5 (fun _ _ h => h))
          clear g5
          have hfin : ((countB F : Int) == (N : Int) - (Y.length : Int)) = true := by simp; omega
          go_wp2_with (at_len; refine list_len rfl _ rfl mb Y rfl HM5.out ?_)
          go_ret
          exact ⟨by simp, Chg.below G5.out⟩
        obtain ⟨lb, lo, rfl, hlb, hc⟩ := HC.out (by omega)
        obtain ⟨⟨kd, x, y⟩, hx⟩ : ∃ x, l[k]? = some x := ⟨_, List.getElem?_eq_getElem hlt⟩
        obtain ⟨kc0, kc1, kc2⟩ := hc k _ hx
        have e0 : wr.cell? ⟨lb, lo + k * 3, none⟩ = some (.int .i64 kd) := by rw [HG.out.cell hlb id]; exact kc0
        have e1 : wr.cell? ⟨lb, lo + k * 3 + 1, none⟩ = some (.int .i64 x) := by rw [HG.out.cell hlb id]; exact kc1
        have e2 : wr.cell? ⟨lb, lo + k * 3 + 2, none⟩ = some (.int .i64 y) := by rw [HG.out.cell hlb id]; exact kc2
        have hw := HWF.out _ (List.mem_of_getElem? hx)
        have HX := Lib.hid (And.intro (wfI64 hw.2.1) (wfI64 hw.2.2))
        clear kc0 kc1 kc2 hc hx hw
        have q40 : ∃ yb : Nat, True := ⟨0, trivial⟩
        clear q40
        obtain ⟨wo, rfl⟩ : ∃ wo : World, wo = wr := ⟨_, rfl⟩
        go_upto_block 2 with fail
        refine name_region ?_; intro W hW
        have c0 : W.cell? ⟨wo.heap.size, 0, none⟩ = some (.int .i64 kd) := by subst hW; go_simp
        have c1 : W.cell? ⟨wo.heap.size, 1, none⟩ = some (.int .i64 x) := by subst hW; go_simp
        have c2 : W.cell? ⟨wo.heap.size, 2, none⟩ = some (.int .i64 y) := by subst hW; go_simp
        have d0 : W.cell? ⟨wo.heap.size + 1, 0, none⟩ = some (.int .i64 x) := by subst hW; go_simp
        have d1 : W.cell? ⟨wo.heap.size + 1, 1, none⟩ = some (.int .i64 y) := by subst hW; go_simp
        have df : ∀ o, W.frozen? ⟨wo.heap.size + 1, o, none⟩ = false := by subst hW; intro o; go_simp
        have zW : wo.heap.size + 1 < W.heap.size := by subst hW; simp
        have gW : Chg (fun _ => False) wo W := by subst hW; exact (by repeat (first | with_reducible exact Chg.refl _ _ | with_reducible assumption | with_reducible refine Chg.drewN ?_ _ | with_reducible refine Chg.drew ?_ | with_reducible refine Chg.alloc ?_ _ | with_reducible refine Chg.setCell ?_ (by first | (left; rfl) | (right; exact Nat.le_refl _) | (right; simp; done) | (right; omega) | (right; simp at *; omega) | (simp at *; omega)) _ | with_reducible refine Chg.trans ?_ (by with_reducible assumption) (by intro i hi hT; first | exact hT | exact False.elim hT | omega | (simp at *; omega))))
        clear hW
        have HEW : Hid (Ef W (fun q => q = B ∨ q = mb ∨ q = wo.heap.size + 1) B 0 F) := HE.out.grow gW (fun _ _ h => h.elim) id (fun q hq => by
          rcases hq with hq | hq | hq
          · exact .inl (.inl hq)
          · exact .inl (.inr hq)
          · right; omega) (.inl rfl)
        have nar : ∀ (u : World) (G : List Bool), Ef u (fun q => q = B ∨ q = mb ∨ q = wo.heap.size + 1) B 0 G → Ef u (fun q => q = B ∨ q = mb) B 0 G := fun u G hE => hE.grow (T := fun _ => False) (Chg.refl _ _) (fun _ _ h => h.elim) id (fun q hq => .inl (by
          rcases hq with hq | hq
          · exact .inl hq
          · exact .inr (.inl hq))) (.inl rfl)
        have NAR := Lib.hid nar
        clear nar
        have HMW := Lib.hid (HM.out.chg gW id)
        have GW := Lib.hid (HG.out.trans gW (fun _ _ h => h))
        clear gW e0 e1 e2
        have HNO : Hid (Ap w W B mb (wo.heap.size + 1) N k F Y F 6 x y) := ⟨GW.out, NAR.out _ _ HEW.out, hFN, d0, d1, zW, .inr ⟨by decide, Y, HY.out, HMW.out, HH.out, hYl⟩⟩
        go_cut [13] (fun z wx => ∃ (Z : Int) (F' : List Bool) (X M : Int), z = .int .i64 Z ∧ Hid (Ap w wx B mb (wo.heap.size + 1) N k F Y F' Z X M))
        case first =>
          by_cases e1' : kd = 1
          · subst e1'
            go_wp2_with fail
            refine (take_ef W _ B 0 F x HEW.out HX.out.1.2).mono ?_; rintro e w5 ⟨rfl, hE, g5⟩
            obtain ⟨⟨X, M⟩, hXY⟩ : ∃ q : Int × Int, q = takeX 0 F x := ⟨_, rfl⟩
            obtain ⟨Z, hZ⟩ : ∃ q : Int, q = takeC F x := ⟨_, rfl⟩
            have eX : (takeX 0 F x).1 = X := by rw [← hXY]
            have eY : (takeX 0 F x).2 = M := by rw [← hXY]
            rw [eX, eY, ← hZ]
            have HXY := Lib.hid hXY
            have HZ := Lib.hid hZ
            have HE5 := Lib.hid hE
            have HM5 := Lib.hid (HMW.out.chg g5 (by omega))
            have G5 : Hid (Chg (fun _ => False) w w5) := GW.out.trans g5 (fun q hq h => by omega)
            have d0' : w5.cell? ⟨wo.heap.size + 1, 0, none⟩ = some (.int .i64 x) := by rw [g5.cell zW (by omega)]; exact d0
            have d1' : w5.cell? ⟨wo.heap.size + 1, 1, none⟩ = some (.int .i64 y) := by rw [g5.cell zW (by omega)]; exact d1
            have df' : ∀ o, w5.frozen? ⟨wo.heap.size + 1, o, none⟩ = false := fun o => by rw [g5.frozen zW (by omega)]; exact df o
            have z5 : wo.heap.size + 1 < w5.heap.size := Nat.lt_of_lt_of_le zW g5.size
            clear hE g5 hXY hZ eX eY d0 d1 df
            go_wp2
            go_meet
            have K : Chg (fun q => q = wo.heap.size + 1) w5 ((w5.setCell ⟨wo.heap.size + 1, 0, none⟩ (.int .i64 X)).setCell ⟨wo.heap.size + 1, 1, none⟩ (.int .i64 M)) := (by repeat (first | with_reducible exact Chg.refl _ _ | with_reducible assumption | with_reducible refine Chg.drewN ?_ _ | with_reducible refine Chg.drew ?_ | with_reducible refine Chg.alloc ?_ _ | with_reducible refine Chg.setCell ?_ (by first | (left; rfl) | (right; exact Nat.le_refl _) | (right; simp; done) | (right; omega) | (right; simp at *; omega) | (simp at *; omega)) _ | with_reducible refine Chg.trans ?_ (by with_reducible assumption) (by intro i hi hT; first | exact hT | exact False.elim hT | omega | (simp at *; omega))))
            refine ⟨Z, takeF F x, X, M, rfl, G5.out.trans K (fun q hq h => by omega), NAR.out _ _ (HE5.out.chg K (fun q hq hT => .inr (.inr hT)) (by omega)), by rw [takeF_len]; exact hFN, by go_simp, by go_simp, by simp [World.setCell]; omega, ?_⟩
            by_cases hz : Z = 0
            · subst hz
              have t := take_zero HZ.out.symm HXY.out
              rw [hFN] at t
              exact .inl ⟨rfl, t, HM5.out.chg K (by omega)⟩
            · have hFF : takeF F x = F := by rcases ref_take F x with h | h; exact absurd (HZ.out.trans h) hz; exact h
              rw [hFF]
              exact .inr ⟨hz, Y, HY.out, HM5.out.chg K (by omega), HH.out, hYl⟩
          · have q1 : (kd == 1) = false := by simpa using e1'
            by_cases e2' : kd = 2
            · clear e1' q1
              subst e2'
              go_wp2_with fail
              refine (claim_ef W _ B 0 F x y HEW.out HX.out.1 HX.out.2).mono ?_; rintro e w5 ⟨rfl, hE, g5⟩
              obtain ⟨Z, hZ⟩ : ∃ q : Int, q = claimC 0 F x y := ⟨_, rfl⟩
              rw [← hZ]
              have HZ := Lib.hid hZ
              have HE5 := Lib.hid hE
              have HM5 := Lib.hid (HMW.out.chg g5 (by omega))
              have G5 : Hid (Chg (fun _ => False) w w5) := GW.out.trans g5 (fun q hq h => by omega)
              have d0' : w5.cell? ⟨wo.heap.size + 1, 0, none⟩ = some (.int .i64 x) := by rw [g5.cell zW (by omega)]; exact d0
              have d1' : w5.cell? ⟨wo.heap.size + 1, 1, none⟩ = some (.int .i64 y) := by rw [g5.cell zW (by omega)]; exact d1
              have z5 : wo.heap.size + 1 < w5.heap.size := Nat.lt_of_lt_of_le zW g5.size
              clear hE g5 hZ d0 d1 df
              go_wp2
              go_meet
              refine ⟨Z, claimF 0 F x y, x, y, rfl, G5.out, NAR.out _ _ HE5.out, by rw [claimF_len]; exact hFN, d0', d1', z5, ?_⟩
              by_cases hz : Z = 0
              · subst hz
                have t := claim_free HZ.out.symm
                rw [hFN] at t
                exact .inl ⟨rfl, t, HM5.out⟩
              · have hFF : claimF 0 F x y = F := by rcases ref_claim 0 F x y with h | h; exact absurd (HZ.out.trans h) hz; exact h
                rw [hFF]
                exact .inr ⟨hz, Y, HY.out, HM5.out, HH.out, hYl⟩
            · have q2 : (kd == 2) = false := by simpa using e2'
              by_cases e3' : kd = 3
              · clear e1' q1 e2' q2
                subst e3'
                go_wp2_with fail
                refine (give_ef W _ B 0 F x y HEW.out HX.out.1 HX.out.2).mono ?_; rintro e w5 ⟨rfl, hE, g5⟩
                obtain ⟨Z, hZ⟩ : ∃ q : Int, q = giveC 0 F x y := ⟨_, rfl⟩
                rw [← hZ]
                have HZ := Lib.hid hZ
                have HE5 := Lib.hid hE
                have HM5 := Lib.hid (HMW.out.chg g5 (by omega))
                have G5 : Hid (Chg (fun _ => False) w w5) := GW.out.trans g5 (fun q hq h => by omega)
                have d0' : w5.cell? ⟨wo.heap.size + 1, 0, none⟩ = some (.int .i64 x) := by rw [g5.cell zW (by omega)]; exact d0
                have d1' : w5.cell? ⟨wo.heap.size + 1, 1, none⟩ = some (.int .i64 y) := by rw [g5.cell zW (by omega)]; exact d1
                have z5 : wo.heap.size + 1 < w5.heap.size := Nat.lt_of_lt_of_le zW g5.size
                clear hE g5 hZ d0 d1 df
                by_cases hz : Z = 0
                rotate_left
                · have hz2 : (Z == 0) = false := by simpa using hz
                  have hFF : giveF 0 F x y = F := by rcases ref_give 0 F x y with h | h; exact absurd (HZ.out.trans h) hz; exact h
                  rw [hFF] at HE5
                  clear hz hFF
                  go_wp2
                  go_meet
                  exact ⟨6, F, x, y, rfl, G5.out, NAR.out _ _ HE5.out, hFN, d0', d1', z5, .inr ⟨by decide, Y, HY.out, HM5.out, HH.out, hYl⟩⟩
                · subst hz
                  have t := give_free HZ.out.symm
                  rw [hFN] at t
                  obtain ⟨t1, t2, t3, t4⟩ := t
                  obtain ⟨m, rfl⟩ : ∃ m : Nat, y = m := ⟨y.toNat, by omega⟩
                  have HT4 := Lib.hid t4
                  clear t4 HZ
                  go_wp2_with fail
                  go_loopw [82] (fun i wx => ∃ (j : Nat) (Yj : List Int), j ≤ m ∧ i = .int .i64 (↑j : Int) ∧ Yj.length ≤ 100 * k ∧ Hid (Yj.Nodup) ∧ Hid (∀ z, z ∈ Yj ↔ z ∈ Y ∧ ¬ (x ≤ z ∧ z < x + j)) ∧ Hid (SetM wx mb Yj) ∧ Hid (Chg (fun q => q = mb) w5 wx)) (fun i _ => m - (intOf i).toNat)
                  case atStart => exact ⟨0, Y, by omega, rfl, hYl, HY.out, fun z => ⟨fun h => ⟨h, by omega⟩, fun h => h.1⟩, HM5.out, Chg.refl _ _⟩
                  case round =>
                    obtain ⟨j, Yj, hj, rfl, hyl, HYJ, HYM, HMJ, HGJ⟩ := hrel
                    have f0 : wr.cell? ⟨wo.heap.size + 1, 0, none⟩ = some (.int .i64 x) := by rw [HGJ.out.cell z5 (by omega)]; exact d0'
                    have f1 : wr.cell? ⟨wo.heap.size + 1, 1, none⟩ = some (.int .i64 m) := by rw [HGJ.out.cell z5 (by omega)]; exact d1'
                    by_cases hjm : j < m
                    · have hwf : (Lit.int .i64 (x + j)).wf = true := WalkArith.wf_i64 (by omega)
                      go_wp2_with (at_delete; go_loud (refine list_del rfl _ _ rfl mb Yj rfl HMJ.out (x + j) rfl hwf ?_; intro w6 hm6 hg6))
                      go_roundw
                      case rel => exact ⟨j + 1, Yj.erase (x + j), by omega, by go_num, Nat.le_trans List.length_erase_le hyl, HYJ.out.erase _, (fun z => by
                        rw [HYJ.out.mem_erase_iff, HYM.out]
                        constructor
                        · rintro ⟨h1, h2, h3⟩; exact ⟨h2, by omega⟩
                        · rintro ⟨h1, h2⟩; exact ⟨by omega, h1, by omega⟩), hm6, HGJ.out.trans hg6 (fun _ _ h => h)⟩
                      case measure => simp [intOf]; omega
                    · obtain rfl : j = m := by omega
                      have z7 := HGJ.out.size
                      go_wp2
                      go_meet
                      refine ⟨6, giveF 0 F x j, x, j, rfl, G5.out.trans HGJ.out (fun q hq h => by omega), NAR.out _ _ (HE5.out.chg HGJ.out (fun q hq hT => .inr (.inl hT)) (by omega)), by rw [giveF_len]; exact hFN, f0, f1, by omega, .inr ⟨by decide, Yj, HYJ.out, HMJ.out, ?_, hyl⟩⟩
                      refine hold_sub HH.out (by rw [giveF_len]) HT4.out fun z => ?_
                      rw [HYM.out]
                      unfold inE
                      simp only
              · have q3 : (kd == 3) = false := by simpa using e3'
                clear e1' e2' e3'
                go_wp2
                go_meet
                exact ⟨6, F, x, y, rfl, HNO.out⟩
        case rest =>
          obtain ⟨Z, F', X, M, rfl, HA⟩ := hcut
          have b0 := HA.out.b0
          have b1 := HA.out.b1
          have yl := HA.out.yl
          clear d0 d1 df c0 c1 c2 HNO HMW HEW
          by_cases hz : Z = 0
          rotate_left
          · have hz2 : (Z == 0) = false := by simpa using hz
            obtain ⟨Y', h1, h2, h3, h4⟩ : ∃ Y', Y'.Nodup ∧ SetM wc mb Y' ∧ HoldY F' Y' ∧ Y'.length ≤ 100 * k := by
              rcases HA.out.cs with h | h
              · exact absurd h.1 hz
              · exact h.2
            have H1 := Lib.hid h1
            have H2 := Lib.hid h2
            have H3 := Lib.hid h3
            clear hz h1 h2 h3
            go_wp2
            go_roundw
            case rel => exact ⟨k + 1, F', Y', by omega, by go_num, HA.out.fn, by omega, H1.out, HA.out.ef, H2.out, H3.out, HA.out.chg⟩
            case measure => simp [intOf]; omega
          · subst hz
            obtain ⟨t, hM⟩ : (0 ≤ X ∧ 1 ≤ M ∧ X + M ≤ N ∧ (∀ z, inE z (X, M) → freeB 0 F z) ∧ ∀ z, freeB 0 F' z ↔ freeB 0 F z ∧ ¬ inE z (X, M)) ∧ SetM wc mb Y := by
              rcases HA.out.cs with h | h
              · exact h.2
              · exact absurd rfl h.1
            obtain ⟨t1, t2, t3, t4, t5⟩ := t
            obtain ⟨m, rfl⟩ : ∃ m : Nat, M = m := ⟨M.toNat, by omega⟩
            have HM0 := Lib.hid hM
            have T4 := Lib.hid t4
            have T5 := Lib.hid t5
            clear hM t4 t5
            go_wp2_with fail
            go_loopw [95] (fun i wx => ∃ (j : Nat) (Yj : List Int), j ≤ m ∧ i = .int .i64 (↑j : Int) ∧ Yj.length ≤ 100 * k + j ∧ Hid (Yj.Nodup) ∧ Hid (∀ z, z ∈ Yj ↔ z ∈ Y ∨ (X ≤ z ∧ z < X + j)) ∧ Hid (SetM wx mb Yj) ∧ Hid (Chg (fun q => q = mb) wc wx)) (fun i _ => m - (intOf i).toNat)
            case atStart => exact ⟨0, Y, by omega, rfl, hYl, HY.out, fun z => ⟨fun h => .inl h, fun h => by rcases h with h | h; exact h; omega⟩, HM0.out, Chg.refl _ _⟩
            case round =>
              obtain ⟨j, Yj, hj, rfl, hyl, HYJ, HYM, HMJ, HGJ⟩ := hrel
              have f0 : wr.cell? ⟨wo.heap.size + 1, 0, none⟩ = some (.int .i64 X) := by rw [HGJ.out.cell yl (by omega)]; exact b0
              have f1 : wr.cell? ⟨wo.heap.size + 1, 1, none⟩ = some (.int .i64 m) := by rw [HGJ.out.cell yl (by omega)]; exact b1
              by_cases hjm : j < m
              · have hwf : (Lit.int .i64 (X + j)).wf = true := WalkArith.wf_i64 (by omega)
                have hnot : X + (j : Int) ∉ Yj := by
                  rw [HYM.out]
                  rintro (h | h)
                  · exact ((HH.out _).1 h).2 (T4.out _ ⟨by show X ≤ _; omega, by show _ < X + (m : Int); omega⟩)
                  · omega
                have q5 : decide (X + (j : Int) < 0) = false := by simp; omega
                have q6 : decide ((N : Int) ≤ X + j) = false := by simp; omega
                go_wp2_with (first
                  | (at_lookup; go_loud (refine list_get rfl _ _ rfl mb Yj rfl HMJ.out (X + j) rfl hwf ?_; rw [decide_eq_false hnot]))
                  | (at_mapUpdate; go_loud (refine list_put rfl _ _ _ rfl mb Yj rfl HMJ.out (by omega) (X + j) rfl rfl hwf hnot ?_; intro w6 hm6 hg6)))
                go_roundw
                case rel => exact ⟨j + 1, (X + j) :: Yj, by omega, by go_num, by simp; omega, List.nodup_cons.2 ⟨hnot, HYJ.out⟩, (fun z => by
                  rw [List.mem_cons, HYM.out]
                  constructor
                  · rintro (h | h | h)
                    · right; omega
                    · exact .inl h
                    · right; omega
                  · rintro (h | h)
                    · exact .inr (.inl h)
                    · by_cases e : z = X + j
                      · exact .inl e
                      · right; right; omega), hm6, HGJ.out.trans hg6 (fun _ _ h => h)⟩
                case measure => simp [intOf]; omega
              · obtain rfl : j = m := by omega
                go_wp2
                go_roundw
                case rel =>
                  refine ⟨k + 1, F', Yj, by omega, by go_num, HA.out.fn, by omega, HYJ.out, HA.out.ef.chg HGJ.out (fun q hq hT => .inr hT) (by omega), HMJ.out, ?_, HA.out.chg.trans HGJ.out (fun q hq h => by omega)⟩
                  refine hold_add HH.out (by rw [HA.out.fn, hFN]) ⟨t1, t2, by omega⟩ T5.out fun z => ?_
                  rw [HYM.out]
                  unfold inE
                  simp only
                case measure => simp [intOf]; omega
end Go.Proofs.Ytheiodnckjmieaa
