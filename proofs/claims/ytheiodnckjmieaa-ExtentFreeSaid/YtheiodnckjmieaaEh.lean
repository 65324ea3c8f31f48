/- The laws' helpers: great, same, do. -/
import Derived.Test.YtheiodnckjmieaaEz
import Derived.Deep.RegionHeld3
namespace Go.Proofs.Ytheiodnckjmieaa
set_option linter.unusedVariables false
open Go.RowKit

def greatB (s : Int) (n : Nat) : Bool := decide (100 < s ∧ s ≤ 1048576 ∨ 60 < n)
set_option maxHeartbeats 1000000 in
theorem great_any (w : World) (s : Int) (a : Option Addr) (n c : Nat) :
    Calls Try.prog 11 #[.int .i64 s, .slice a n c] w fun e w' => e = .returned (.bool (greatB s n)) ∧ w = w' := by
  by_cases p1 : 100 < s
  · by_cases p2 : s ≤ 1048576
    · have hg : greatB s n = true := by simp [greatB]; omega
      rw [hg]
      go_enter Try.func11, Try.ntmps11
      go_wp2
      go_ret
      exact ⟨rfl, rfl⟩
    · have q2 : decide (s ≤ 1048576) = false := by simp; omega
      have hg : greatB s n = decide (60 < n) := by rw [greatB, decide_eq_decide]; omega
      rw [hg]
      go_enter Try.func11, Try.ntmps11
      go_wp2
      go_ret
      exact ⟨ret_bool (by rw [decide_eq_decide]; omega), rfl⟩
  · have q1 : decide (100 < s) = false := by simp; omega
    have hg : greatB s n = decide (60 < n) := by rw [greatB, decide_eq_decide]; omega
    rw [hg]
    go_enter Try.func11, Try.ntmps11
    go_wp2
    go_ret
    exact ⟨ret_bool (by rw [decide_eq_decide]; omega), rfl⟩

set_option maxHeartbeats 1000000 in
theorem same_any (w : World) (a1 a2 : Option Addr) (c1 c2 : Nat) (fs : List Ext) (h1 : IsE w a1 c1 fs) (h2 : IsE w a2 c2 fs) (hl : fs.length ≤ 1048576) :
    Calls Try.prog 15 #[.slice a1 fs.length c1, .slice a2 fs.length c2] w fun e w' => e = .returned (.bool true) ∧ Chg (fun _ => False) w w' := by
  have H1 := Lib.hid h1
  have H2 := Lib.hid h2
  clear h1 h2
  go_enter Try.func15, Try.ntmps15
  go_wp2_with fail
  go_loopw [14] (fun i wr => ∃ k : Nat, k ≤ fs.length ∧ i = .int .i64 (↑k : Int) ∧ Hid (Chg (fun _ => False) w wr)) (fun i _ => fs.length - (intOf i).toNat)
  case atStart => exact ⟨0, by omega, rfl, Chg.refl _ _⟩
  case round =>
    obtain ⟨k, hk, rfl, HG⟩ := hrel
    by_cases hkt : k < fs.length
    · obtain ⟨f, hf⟩ : ∃ f, fs[k]? = some f := ⟨_, List.getElem?_eq_getElem hkt⟩
      obtain ⟨g1, o1, rfl, l1, k0, k1⟩ := (H1.out.keep HG.out (fun _ _ h => h)).at hf
      obtain ⟨g2, o2, rfl, l2, m0, m1⟩ := (H2.out.keep HG.out (fun _ _ h => h)).at hf
      clear hf
      go_wp2_with fail
      go_quiet (fail)
      go_wp2
      go_roundw
      case rel => exact ⟨k + 1, by omega, by go_num, HG.out.trans (T := fun _ => False) (by repeat (first | with_reducible exact Chg.refl _ _ | with_reducible assumption | with_reducible refine Chg.drewN ?_ _ | with_reducible refine Chg.drew ?_ | with_reducible refine Chg.alloc ?_ _ | with_reducible refine Chg.setCell ?_ (by first | (left; rfl) | (right; exact Nat.le_refl _) | (right; simp; done) | (right; omega) | (right; simp at *; omega) | (simp at *; omega)) _ | with_reducible refine Chg.trans ?_ (by with_reducible assumption) (by intro i hi hT; first | exact hT | exact False.elim hT | omega | (simp at *; omega)))) (fun _ _ h => h)⟩
      case measure => simp [intOf]; omega
    · obtain rfl : k = fs.length := by omega
      go_wp2
      go_ret
      exact ⟨rfl, HG.out⟩

/-- Both maps, of the same sectors. -/
def Pr (w : World) (S : Nat → Prop) (b1 b2 : Nat) (base : Int) (F : List Bool) : Prop := Ef w S b1 base F ∧ (∃ a c, Rm w S b2 base a c F) ∧ b1 ≠ b2
theorem Ef.sb {w : World} {S : Nat → Prop} {b : Nat} {base : Int} {F : List Bool} (h : Ef w S b base F) : S b ∧ b < w.heap.size := by
  obtain ⟨a, c, fs, h1, h2⟩ := h
  exact ⟨h1.sb, h1.lt _ h1.sb⟩
theorem Pr.chg {w w' : World} {S T : Nat → Prop} {b1 b2 : Nat} {base : Int} {F : List Bool} (h : Pr w S b1 b2 base F) (k : Chg T w w') (hT : ∀ k, k < w.heap.size → T k → S k) (hb : ¬ T b1) (hb2 : ¬ T b2) : Pr w' S b1 b2 base F := by
  obtain ⟨h1, ⟨a, c, h2⟩, h3⟩ := h
  exact ⟨h1.chg k hT hb, ⟨a, c, h2.chg k hT hb2⟩, h3⟩
def doF (base : Int) (F : List Bool) (kd n len : Int) : List Bool := if kd = 1 then takeF F n else if kd = 2 then claimF base F n len else if kd = 3 then giveF base F n len else F
theorem doF_len (base : Int) (F : List Bool) (kd n len : Int) : (doF base F kd n len).length = F.length := by
  unfold doF
  split
  · exact takeF_len F n
  · split
    · exact claimF_len _ _ _ _
    · split
      · exact giveF_len _ _ _ _
      · rfl
/-- The reference's call beside the map's. -/
theorem rtake_all (w : World) (S : Nat → Prop) (b : Nat) (base : Int) (F : List Bool) (n : Int) (h : ∃ a c, Rm w S b base a c F) (hn : n ≤ 9223372036854775807) :
    Calls Try.prog 25 #[.pointer (some ⟨b, 0, none⟩), .int .i64 n] w fun e w' => e = .returned (.tuple #[.agg #[.int .i64 (takeX base F n).1, .int .i64 (takeX base F n).2], .int .i64 (takeC F n)]) ∧ (∃ a' c', Rm w' S b base a' c' (takeF F n)) ∧ Chg (fun k => k = b) w w' := by
  obtain ⟨a, c, h⟩ := h
  by_cases h1 : n < 1
  · refine (rtake_few w b n h1).mono ?_
    rintro e w' ⟨rfl, hg⟩
    exact ⟨by rw [takeX, takeC, if_pos h1, if_pos h1], ⟨a, c, by rw [takeF, if_pos h1]; exact h.chg hg (fun _ _ h => h.elim) id⟩, hg.mono (fun _ _ h => h.elim)⟩
  · exact rtake_any w S b base a c F n h ⟨by omega, hn⟩

theorem rclaim_all (w : World) (S : Nat → Prop) (b : Nat) (base : Int) (F : List Bool) (x n : Int) (h : ∃ a c, Rm w S b base a c F) (hx : -9223372036854775808 ≤ x ∧ x ≤ 9223372036854775807) (hn : -9223372036854775808 ≤ n ∧ n ≤ 9223372036854775807) :
    Calls Try.prog 26 #[.pointer (some ⟨b, 0, none⟩), .agg #[.int .i64 x, .int .i64 n]] w fun e w' => e = .returned (.int .i64 (claimC base F x n)) ∧ (∃ a' c', Rm w' S b base a' c' (claimF base F x n)) ∧ Chg (fun k => k = b) w w' := by
  obtain ⟨a, c, h⟩ := h
  exact rclaim_any w S b base a c F x n h hx hn
theorem rgive_all (w : World) (S : Nat → Prop) (b : Nat) (base : Int) (F : List Bool) (x n : Int) (h : ∃ a c, Rm w S b base a c F) (hx : -9223372036854775808 ≤ x ∧ x ≤ 9223372036854775807) (hn : -9223372036854775808 ≤ n ∧ n ≤ 9223372036854775807) :
    Calls Try.prog 27 #[.pointer (some ⟨b, 0, none⟩), .agg #[.int .i64 x, .int .i64 n]] w fun e w' => e = .returned (.int .i64 (giveC base F x n)) ∧ (∃ a' c', Rm w' S b base a' c' (giveF base F x n)) ∧ Chg (fun k => k = b) w w' := by
  obtain ⟨a, c, h⟩ := h
  exact rgive_any w S b base a c F x n h hx hn

set_option maxHeartbeats 2000000 in
theorem do_any (w : World) (S : Nat → Prop) (b1 b2 : Nat) (base : Int) (F : List Bool) (kd n len : Int) (h : Pr w S b1 b2 base F) (hn : -9223372036854775808 ≤ n ∧ n ≤ 9223372036854775807) (hl : -9223372036854775808 ≤ len ∧ len ≤ 9223372036854775807) :
    Calls Try.prog 14 #[.pointer (some ⟨b1, 0, none⟩), .pointer (some ⟨b2, 0, none⟩), .agg #[.int .i64 kd, .int .i64 n, .int .i64 len]] w fun e w' => e = .returned (.bool true) ∧ Pr w' S b1 b2 base (doF base F kd n len) ∧ Chg (fun k => k = b1 ∨ k = b2) w w' := by
  have sb1 := h.1.sb
  have sb2 : S b2 ∧ b2 < w.heap.size := by obtain ⟨_, ⟨a, c, h2⟩, _⟩ := h; exact ⟨h2.sb, h2.lt _ h2.sb⟩
  have h12 := h.2.2
  have H := Lib.hid h
  have lb1 := sb1.2
  have lb2 := sb2.2
  have HS := Lib.hid (And.intro sb1.1 sb2.1)
  clear h sb1 sb2
  by_cases e1 : kd = 1
  · have HF : Hid (doF base F kd n len = takeF F n) := if_pos e1
    subst e1
    go_enter Try.func14, Try.ntmps14
    go_wp2_with fail
    refine name_calls ?_; intro W hW
    have gW : Chg (fun _ => False) w W := by subst hW; exact (by repeat (first | with_reducible exact Chg.refl _ _ | with_reducible assumption | with_reducible refine Chg.drewN ?_ _ | with_reducible refine Chg.drew ?_ | with_reducible refine Chg.alloc ?_ _ | with_reducible refine Chg.setCell ?_ (by first | (left; rfl) | (right; exact Nat.le_refl _) | (right; simp; done) | (right; omega) | (right; simp at *; omega) | (simp at *; omega)) _ | with_reducible refine Chg.trans ?_ (by with_reducible assumption) (by intro i hi hT; first | exact hT | exact False.elim hT | omega | (simp at *; omega))))
    have k1 : W.cell? ⟨w.heap.size, 1, none⟩ = some (.int .i64 n) := by subst hW; go_simp
    have z1 : w.heap.size < W.heap.size := by subst hW; simp
    clear hW
    have HW := Lib.hid (H.out.chg gW (fun _ _ h => h.elim) id id)
    have GW := Lib.hid gW
    clear gW
    refine (take_ef W S b1 base F n HW.out.1 hn.2).mono ?_; rintro e w1 ⟨rfl, hE, g1⟩
    have i1 : w1.cell? ⟨w.heap.size, 1, none⟩ = some (.int .i64 n) := by rw [g1.cell z1 (by omega)]; exact k1
    have z2 : w.heap.size < w1.heap.size := Nat.lt_of_lt_of_le z1 g1.size
    have HE := Lib.hid hE
    have G1 := Lib.hid g1
    have HR1 : Hid (∃ a c, Rm w1 S b2 base a c F) := by
      obtain ⟨a, c, h2⟩ := HW.out.2.1
      exact ⟨a, c, h2.chg g1 (fun q _ hq => by rw [hq]; exact HS.out.1) (by omega)⟩
    obtain ⟨⟨X, Y⟩, hXY⟩ : ∃ q : Int × Int, q = takeX base F n := ⟨_, rfl⟩
    obtain ⟨Z, hZ⟩ : ∃ q : Int, q = takeC F n := ⟨_, rfl⟩
    have eX : (takeX base F n).1 = X := by rw [← hXY]
    have eY : (takeX base F n).2 = Y := by rw [← hXY]
    rw [eX, eY, ← hZ]
    have HX := Lib.hid (And.intro eX (And.intro eY hZ))
    clear hE g1 k1 hXY hZ eX eY
    go_wp2_with fail
    refine name_calls ?_; intro W2 hW2
    have g2 : Chg (fun _ => False) w1 W2 := by subst hW2; exact (by repeat (first | with_reducible exact Chg.refl _ _ | with_reducible assumption | with_reducible refine Chg.drewN ?_ _ | with_reducible refine Chg.drew ?_ | with_reducible refine Chg.alloc ?_ _ | with_reducible refine Chg.setCell ?_ (by first | (left; rfl) | (right; exact Nat.le_refl _) | (right; simp; done) | (right; omega) | (right; simp at *; omega) | (simp at *; omega)) _ | with_reducible refine Chg.trans ?_ (by with_reducible assumption) (by intro i hi hT; first | exact hT | exact False.elim hT | omega | (simp at *; omega))))
    have j0 : W2.cell? ⟨w1.heap.size, 0, none⟩ = some (.int .i64 X) := by subst hW2; go_simp
    have j1 : W2.cell? ⟨w1.heap.size, 1, none⟩ = some (.int .i64 Y) := by subst hW2; go_simp
    have z3 : w1.heap.size < W2.heap.size := by subst hW2; simp
    clear hW2
    have HR2 : Hid (∃ a c, Rm W2 S b2 base a c F) := by obtain ⟨a, c, h2⟩ := HR1.out; exact ⟨a, c, h2.chg g2 (fun _ _ h => h.elim) id⟩
    have HE2 := Lib.hid (HE.out.chg g2 (fun _ _ h => h.elim) id)
    have G2 := Lib.hid g2
    clear g2
    refine (rtake_all W2 S b2 base F n HR2.out hn.2).mono ?_; rintro e w3 ⟨rfl, hR, g3⟩
    rw [HX.out.1, HX.out.2.1, ← HX.out.2.2]
    have j0' : w3.cell? ⟨w1.heap.size, 0, none⟩ = some (.int .i64 X) := by rw [g3.cell z3 (by omega)]; exact j0
    have j1' : w3.cell? ⟨w1.heap.size, 1, none⟩ = some (.int .i64 Y) := by rw [g3.cell z3 (by omega)]; exact j1
    have HE3 := Lib.hid (HE2.out.chg g3 (fun q _ hq => by rw [hq]; exact HS.out.2) (by omega))
    have HR3 := Lib.hid hR
    have G3 := Lib.hid g3
    have z4 : w1.heap.size < w3.heap.size := Nat.lt_of_lt_of_le z3 g3.size
    clear hR g3 j0 j1
    go_wp2
    go_ret
    have gf : Chg (fun k => k = b1 ∨ k = b2) w w3 := (((GW.out.mono (T := fun k => k = b1 ∨ k = b2) (fun _ _ h => h.elim)).trans G1.out (fun _ _ h => .inl h)).trans G2.out (fun _ _ h => h.elim)).trans G3.out (fun _ _ h => .inr h)
    refine ⟨rfl, ?_, gf.trans (T := fun _ => False) (by repeat (first | with_reducible exact Chg.refl _ _ | with_reducible assumption | with_reducible refine Chg.drewN ?_ _ | with_reducible refine Chg.drew ?_ | with_reducible refine Chg.alloc ?_ _ | with_reducible refine Chg.setCell ?_ (by first | (left; rfl) | (right; exact Nat.le_refl _) | (right; simp; done) | (right; omega) | (right; simp at *; omega) | (simp at *; omega)) _ | with_reducible refine Chg.trans ?_ (by with_reducible assumption) (by intro i hi hT; first | exact hT | exact False.elim hT | omega | (simp at *; omega)))) (fun _ _ h => h.elim)⟩
    rw [HF.out]
    exact Pr.chg ⟨HE3.out, HR3.out, h12⟩ (T := fun _ => False) (by repeat (first | with_reducible exact Chg.refl _ _ | with_reducible assumption | with_reducible refine Chg.drewN ?_ _ | with_reducible refine Chg.drew ?_ | with_reducible refine Chg.alloc ?_ _ | with_reducible refine Chg.setCell ?_ (by first | (left; rfl) | (right; exact Nat.le_refl _) | (right; simp; done) | (right; omega) | (right; simp at *; omega) | (simp at *; omega)) _ | with_reducible refine Chg.trans ?_ (by with_reducible assumption) (by intro i hi hT; first | exact hT | exact False.elim hT | omega | (simp at *; omega)))) (fun _ _ h => h.elim) id id
  · have q1 : (kd == 1) = false := by simpa using e1
    by_cases e2 : kd = 2
    · have HF : Hid (doF base F kd n len = claimF base F n len) := by show _ = _; rw [doF, if_neg e1, if_pos e2]
      clear q1 e1
      subst e2
      go_enter Try.func14, Try.ntmps14
      go_wp2_with fail
      refine name_region ?_; intro W hW
      have gW : Chg (fun _ => False) w W := by subst hW; exact (by repeat (first | with_reducible exact Chg.refl _ _ | with_reducible assumption | with_reducible refine Chg.drewN ?_ _ | with_reducible refine Chg.drew ?_ | with_reducible refine Chg.alloc ?_ _ | with_reducible refine Chg.setCell ?_ (by first | (left; rfl) | (right; exact Nat.le_refl _) | (right; simp; done) | (right; omega) | (right; simp at *; omega) | (simp at *; omega)) _ | with_reducible refine Chg.trans ?_ (by with_reducible assumption) (by intro i hi hT; first | exact hT | exact False.elim hT | omega | (simp at *; omega))))
      have k1 : W.cell? ⟨w.heap.size, 1, none⟩ = some (.int .i64 n) := by subst hW; go_simp
      have k2 : W.cell? ⟨w.heap.size, 2, none⟩ = some (.int .i64 len) := by subst hW; go_simp
      have z1 : w.heap.size < W.heap.size := by subst hW; simp
      clear hW
      have HW := Lib.hid (H.out.chg gW (fun _ _ h => h.elim) id id)
      have GW := Lib.hid gW
      clear gW
      obtain ⟨Z, hZ⟩ : ∃ q : Int, q = claimC base F n len := ⟨_, rfl⟩
      have HZ := Lib.hid hZ
      clear hZ
      go_region_held3 (fun w' => w'.cell? ⟨w.heap.size, 1, none⟩ = some (.int .i64 n) ∧ w'.cell? ⟨w.heap.size, 2, none⟩ = some (.int .i64 len)) (first | go_keep | (constructor <;> assumption))
        (first
          | (go_at_call 24; refine (claim_ef W.drew S b1 base F n len (HW.out.1.chg (T := fun _ => False) (by repeat (first | with_reducible exact Chg.refl _ _ | with_reducible assumption | with_reducible refine Chg.drewN ?_ _ | with_reducible refine Chg.drew ?_ | with_reducible refine Chg.alloc ?_ _ | with_reducible refine Chg.setCell ?_ (by first | (left; rfl) | (right; exact Nat.le_refl _) | (right; simp; done) | (right; omega) | (right; simp at *; omega) | (simp at *; omega)) _ | with_reducible refine Chg.trans ?_ (by with_reducible assumption) (by intro i hi hT; first | exact hT | exact False.elim hT | omega | (simp at *; omega)))) (fun _ _ h => h.elim) id) hn hl).mono ?_; rintro e w1 ⟨rfl, hE, g1⟩; rw [← HZ.out]; have i1 : w1.cell? ⟨w.heap.size, 1, none⟩ = some (.int .i64 n) := (by rw [g1.cell z1 (by omega)]; exact k1); have i2 : w1.cell? ⟨w.heap.size, 2, none⟩ = some (.int .i64 len) := (by rw [g1.cell z1 (by omega)]; exact k2); have HE := Lib.hid hE; have G1 : Hid (Chg (fun k => k = b1) W w1) := Chg.trans (S := fun k => k = b1) (Chg.drew (Chg.refl _ _)) g1 (fun _ _ h => h); clear hE g1)
          | (go_at_call 26; refine (rclaim_all w1 S b2 base F n len (by obtain ⟨a, c, h2⟩ := HW.out.2.1; exact ⟨a, c, h2.chg (T := fun k => k = b1) G1.out (fun q _ hq => by rw [hq]; exact HS.out.1) (by omega)⟩) hn hl).mono ?_; rintro e w3 ⟨rfl, hR, g3⟩; rw [← HZ.out]; have i3 : w3.cell? ⟨w.heap.size, 1, none⟩ = some (.int .i64 n) := (by rw [g3.cell (Nat.lt_of_lt_of_le z1 G1.out.size) (by omega)]; exact i1); have i4 : w3.cell? ⟨w.heap.size, 2, none⟩ = some (.int .i64 len) := (by rw [g3.cell (Nat.lt_of_lt_of_le z1 G1.out.size) (by omega)]; exact i2); have HE3 := Lib.hid (HE.out.chg g3 (fun q _ hq => by rw [hq]; exact HS.out.2) (by omega)); have HR3 := Lib.hid hR; have G3 := Lib.hid g3; clear hR g3))
      all_goals go_wp2
      all_goals go_ret
      all_goals
        have gf : Chg (fun k => k = b1 ∨ k = b2) w w3 := ((GW.out.mono (T := fun k => k = b1 ∨ k = b2) (fun _ _ h => h.elim)).trans G1.out (fun _ _ h => .inl h)).trans G3.out (fun _ _ h => .inr h)
        refine ⟨rfl, ?_, gf⟩
        rw [HF.out]
        exact ⟨HE3.out, HR3.out, h12⟩
    · have q2 : (kd == 2) = false := by simpa using e2
      by_cases e3 : kd = 3
      · have HF : Hid (doF base F kd n len = giveF base F n len) := by show _ = _; rw [doF, if_neg e1, if_neg e2, if_pos e3]
        clear q1 q2 e1 e2
        subst e3
        go_enter Try.func14, Try.ntmps14
        go_wp2_with fail
        refine name_region ?_; intro W hW
        have gW : Chg (fun _ => False) w W := by subst hW; exact (by repeat (first | with_reducible exact Chg.refl _ _ | with_reducible assumption | with_reducible refine Chg.drewN ?_ _ | with_reducible refine Chg.drew ?_ | with_reducible refine Chg.alloc ?_ _ | with_reducible refine Chg.setCell ?_ (by first | (left; rfl) | (right; exact Nat.le_refl _) | (right; simp; done) | (right; omega) | (right; simp at *; omega) | (simp at *; omega)) _ | with_reducible refine Chg.trans ?_ (by with_reducible assumption) (by intro i hi hT; first | exact hT | exact False.elim hT | omega | (simp at *; omega))))
        have k1 : W.cell? ⟨w.heap.size, 1, none⟩ = some (.int .i64 n) := by subst hW; go_simp
        have k2 : W.cell? ⟨w.heap.size, 2, none⟩ = some (.int .i64 len) := by subst hW; go_simp
        have z1 : w.heap.size < W.heap.size := by subst hW; simp
        clear hW
        have HW := Lib.hid (H.out.chg gW (fun _ _ h => h.elim) id id)
        have GW := Lib.hid gW
        clear gW
        obtain ⟨Z, hZ⟩ : ∃ q : Int, q = giveC base F n len := ⟨_, rfl⟩
        have HZ := Lib.hid hZ
        clear hZ
        go_region_held3 (fun w' => w'.cell? ⟨w.heap.size, 1, none⟩ = some (.int .i64 n) ∧ w'.cell? ⟨w.heap.size, 2, none⟩ = some (.int .i64 len)) (first | go_keep | (constructor <;> assumption))
          (first
            | (go_at_call 23; refine (give_ef W.drew S b1 base F n len (HW.out.1.chg (T := fun _ => False) (by repeat (first | with_reducible exact Chg.refl _ _ | with_reducible assumption | with_reducible refine Chg.drewN ?_ _ | with_reducible refine Chg.drew ?_ | with_reducible refine Chg.alloc ?_ _ | with_reducible refine Chg.setCell ?_ (by first | (left; rfl) | (right; exact Nat.le_refl _) | (right; simp; done) | (right; omega) | (right; simp at *; omega) | (simp at *; omega)) _ | with_reducible refine Chg.trans ?_ (by with_reducible assumption) (by intro i hi hT; first | exact hT | exact False.elim hT | omega | (simp at *; omega)))) (fun _ _ h => h.elim) id) hn hl).mono ?_; rintro e w1 ⟨rfl, hE, g1⟩; rw [← HZ.out]; have i1 : w1.cell? ⟨w.heap.size, 1, none⟩ = some (.int .i64 n) := (by rw [g1.cell z1 (by omega)]; exact k1); have i2 : w1.cell? ⟨w.heap.size, 2, none⟩ = some (.int .i64 len) := (by rw [g1.cell z1 (by omega)]; exact k2); have HE := Lib.hid hE; have G1 : Hid (Chg (fun k => k = b1) W w1) := Chg.trans (S := fun k => k = b1) (Chg.drew (Chg.refl _ _)) g1 (fun _ _ h => h); clear hE g1)
            | (go_at_call 27; refine (rgive_all w1 S b2 base F n len (by obtain ⟨a, c, h2⟩ := HW.out.2.1; exact ⟨a, c, h2.chg (T := fun k => k = b1) G1.out (fun q _ hq => by rw [hq]; exact HS.out.1) (by omega)⟩) hn hl).mono ?_; rintro e w3 ⟨rfl, hR, g3⟩; rw [← HZ.out]; have i3 : w3.cell? ⟨w.heap.size, 1, none⟩ = some (.int .i64 n) := (by rw [g3.cell (Nat.lt_of_lt_of_le z1 G1.out.size) (by omega)]; exact i1); have i4 : w3.cell? ⟨w.heap.size, 2, none⟩ = some (.int .i64 len) := (by rw [g3.cell (Nat.lt_of_lt_of_le z1 G1.out.size) (by omega)]; exact i2); have HE3 := Lib.hid (HE.out.chg g3 (fun q _ hq => by rw [hq]; exact HS.out.2) (by omega)); have HR3 := Lib.hid hR; have G3 := Lib.hid g3; clear hR g3))
        all_goals go_wp2
        all_goals go_ret
        all_goals
          have gf : Chg (fun k => k = b1 ∨ k = b2) w w3 := ((GW.out.mono (T := fun k => k = b1 ∨ k = b2) (fun _ _ h => h.elim)).trans G1.out (fun _ _ h => .inl h)).trans G3.out (fun _ _ h => .inr h)
          refine ⟨rfl, ?_, gf⟩
          rw [HF.out]
          exact ⟨HE3.out, HR3.out, h12⟩
      · have q3 : (kd == 3) = false := by simpa using e3
        have HF : doF base F kd n len = F := by rw [doF, if_neg e1, if_neg e2, if_neg e3]
        rw [HF]
        clear HF e1 e2 e3
        go_enter Try.func14, Try.ntmps14
        go_wp2
        go_ret
        exact ⟨rfl, H.out.chg (T := fun _ => False) (by repeat (first | with_reducible exact Chg.refl _ _ | with_reducible assumption | with_reducible refine Chg.drewN ?_ _ | with_reducible refine Chg.drew ?_ | with_reducible refine Chg.alloc ?_ _ | with_reducible refine Chg.setCell ?_ (by first | (left; rfl) | (right; exact Nat.le_refl _) | (right; simp; done) | (right; omega) | (right; simp at *; omega) | (simp at *; omega)) _ | with_reducible refine Chg.trans ?_ (by with_reducible assumption) (by intro i hi hT; first | exact hT | exact False.elim hT | omega | (simp at *; omega)))) (fun _ _ h => h.elim) id id, (by repeat (first | with_reducible exact Chg.refl _ _ | with_reducible assumption | with_reducible refine Chg.drewN ?_ _ | with_reducible refine Chg.drew ?_ | with_reducible refine Chg.alloc ?_ _ | with_reducible refine Chg.setCell ?_ (by first | (left; rfl) | (right; exact Nat.le_refl _) | (right; simp; done) | (right; omega) | (right; simp at *; omega) | (simp at *; omega)) _ | with_reducible refine Chg.trans ?_ (by with_reducible assumption) (by intro i hi hT; first | exact hT | exact False.elim hT | omega | (simp at *; omega))))⟩
end Go.Proofs.Ytheiodnckjmieaa
