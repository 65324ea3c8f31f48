/- The law Claims. (Printed by genlaws.py.) -/
import Derived.Test.YtheiodnckjmieaaE2
import Derived.Deep.CutBlock
namespace Go.Proofs.Ytheiodnckjmieaa
set_option linter.unusedVariables false
open Go.RowKit

theorem below0 {w w0 w' : World} (g : Chg (fun _ => False) w w0) (h : Chg (fun _ => False) w0 w') : Below w.heap.size w w' := Chg.below (g.trans h (fun _ _ h => h))
theorem claim_zero {F : List Bool} {x n : Int} (h : claimC 0 F x n = 0) : oursB 0 F.length x n = true ∧ allF F (x - 0).toNat n.toNat true = true := by
  unfold claimC at h
  by_cases h1 : oursB 0 F.length x n = true
  · rw [if_pos h1] at h
    by_cases h2 : allF F (x - 0).toNat n.toNat true = true
    · exact ⟨h1, h2⟩
    · rw [if_neg h2] at h; omega
  · rw [if_neg h1] at h; omega
theorem set_false_all {F : List Bool} {p n : Nat} (h : p + n ≤ F.length) : allF (setR F p n false) p n false = true := by
  unfold allF
  rw [decide_eq_true_iff]
  intro k hk
  rw [setR_at, if_pos (by omega), if_pos (by omega)]
theorem set_false_not {F : List Bool} {p n : Nat} (h : p + n ≤ F.length) (hn : 1 ≤ n) : allF (setR F p n false) p n true = false := by
  unfold allF
  rw [decide_eq_false_iff_not]
  intro hh
  have := hh 0 (by omega)
  rw [setR_at, if_pos (by omega), if_pos (by omega)] at this
  injection this with this
  cases this
theorem set_back {F : List Bool} {p n : Nat} (h : p + n ≤ F.length) (ha : allF F p n true = true) : setR (setR F p n false) p n true = F := by
  apply List.ext_getElem?
  intro i
  rw [setR_at, setR_len, setR_at]
  by_cases c : p ≤ i ∧ i < p + n
  · rw [if_pos c, if_pos (by omega)]
    unfold allF at ha
    rw [decide_eq_true_iff] at ha
    have := ha (i - p) (by omega)
    have e : p + (i - p) = i := by omega
    rw [e] at this
    exact this.symm
  · rw [if_neg c, if_neg c]
/-- What a claim that holds leaves: claimed again it is refused, each sector is used, given back all is as it was. -/
theorem claim_then {F : List Bool} {x n : Int} (h : claimC 0 F x n = 0) : 1 ≤ n ∧ 0 ≤ x ∧ x + n ≤ F.length ∧ claimC 0 (claimF 0 F x n) x n = 7 ∧ claimF 0 (claimF 0 F x n) x n = claimF 0 F x n ∧ (∀ i : Nat, (i : Int) < n → usedB 0 (claimF 0 F x n) (x + i) = true) ∧ giveC 0 (claimF 0 F x n) x n = 0 ∧ giveF 0 (claimF 0 F x n) x n = F := by
  obtain ⟨ho, ha⟩ := claim_zero h
  have hoi := ours_iff ho
  have hp : (x - 0).toNat + n.toNat ≤ F.length := by omega
  have hF : claimF 0 F x n = setR F (x - 0).toNat n.toNat false := by unfold claimF; rw [if_pos ⟨ho, ha⟩]
  have ho2 : oursB 0 (claimF 0 F x n).length x n = true := by rw [claimF_len]; exact ho
  have hnot := set_false_not hp (by omega)
  have hall := set_false_all hp
  refine ⟨hoi.1, hoi.2.1, by omega, ?_, ?_, fun i hi => ?_, ?_, ?_⟩
  · unfold claimC; rw [ho2, if_pos rfl, hF, hnot]; rfl
  · have key : ∀ G, allF G (x - 0).toNat n.toNat true = false → claimF 0 G x n = G := by
      intro G hG
      unfold claimF
      rw [if_neg]
      rintro ⟨_, h2⟩
      rw [hG] at h2
      cases h2
    exact key _ (by rw [hF]; exact hnot)
  · unfold usedB
    rw [claimF_len, decide_eq_true (by omega), decide_eq_true (by omega), hF, setR_at, if_pos (by omega), if_pos (by omega)]
    rfl
  · unfold giveC; rw [ho2, if_pos rfl, hF, hall]; rfl
  · unfold giveF; rw [ho2, hF, hall, if_pos ⟨rfl, rfl⟩, set_back hp ha]

set_option maxHeartbeats 4000000 in
set_option maxRecDepth 100000 in
theorem extentClaims_any (s : Int) (v : Value) (l : List (Int × Int × Int)) (x0 x1 : Int) (w : World) (hs : (Lit.int .i64 s).wf = true) (hL : IsL3 .i64 .i64 .i64 w v l) (hx0 : (Lit.int .i64 x0).wf = true) (hx1 : (Lit.int .i64 x1).wf = true) :
    Calls Try.prog 7 #[.int .i64 s, v, .agg #[.int .i64 x0, .int .i64 x1]] w fun e w' => e = .returned (.bool true) ∧ Below w.heap.size w w' := by
  obtain ⟨hwf, a, cap, rfl, hlen, hc⟩ := hL
  have HC := Lib.hid hc
  have HWF := Lib.hid hwf
  clear hc hwf
  go_enter Try.func7, Try.ntmps7
  go_wp2_with fail
  refine name_calls ?_; intro w0 hw0
  have gW0 : Chg (fun _ => False) w w0 := by subst hw0; exact (by repeat (first | with_reducible exact Chg.refl _ _ | with_reducible assumption | with_reducible refine Chg.drewN ?_ _ | with_reducible refine Chg.drew ?_ | with_reducible refine Chg.alloc ?_ _ | with_reducible refine Chg.setCell ?_ (by first | (left; rfl) | (right; exact Nat.le_refl _) | (right; simp; done) | (right; omega) | (right; simp at *; omega) | (simp at *; omega)) _ | with_reducible refine Chg.trans ?_ (by with_reducible assumption) (by intro i hi hT; first | exact hT | exact False.elim hT | omega | (simp at *; omega))))
  have hbx : ∃ bx, bx < w0.heap.size ∧ w0.cell? ⟨bx, 0, none⟩ = some (.int .i64 x0) ∧ w0.cell? ⟨bx, 1, none⟩ = some (.int .i64 x1) ∧ bx = w.heap.size := ⟨w.heap.size, by subst hw0; simp, by subst hw0; go_simp, by subst hw0; go_simp, rfl⟩
  obtain ⟨bx, zx, bx0, bx1, hbe⟩ := hbx
  rw [← hbe]
  clear hbe
  clear hw0
  have HC0 : Hid (0 < l.length → ∃ b off, a = some ⟨b, off, none⟩ ∧ b < w0.heap.size ∧ ∀ (i : Nat) x, l[i]? = some x → w0.cell? ⟨b, off + i * 3, none⟩ = some (.int .i64 x.1) ∧ w0.cell? ⟨b, off + i * 3 + 1, none⟩ = some (.int .i64 x.2.1) ∧ w0.cell? ⟨b, off + i * 3 + 2, none⟩ = some (.int .i64 x.2.2)) := fun h => by
    obtain ⟨b, off, h1, h2, h3⟩ := HC.out h
    refine ⟨b, off, h1, Nat.lt_of_lt_of_le h2 gW0.size, fun i x hx => ?_⟩
    obtain ⟨c0, c1, c2⟩ := h3 i x hx
    exact ⟨by rw [gW0.cell h2 id]; exact c0, by rw [gW0.cell h2 id]; exact c1, by rw [gW0.cell h2 id]; exact c2⟩
  clear HC
  have HC := HC0
  clear HC0
  refine (awake_any w0).mono ?_; rintro e w1 ⟨rfl, g1⟩
  go_wp2_with fail
  refine (great_any w1 s a l.length cap).mono ?_; rintro e w1' ⟨rfl, rfl⟩
  cases hg : greatB s l.length with
  | true =>
    go_wp2_with fail
    refine (awake_any w1).mono ?_; rintro e w2 ⟨rfl, g2⟩
    go_wp2
    go_ret
    exact ⟨rfl, below0 gW0 (g1.trans g2 (fun _ _ h => h))⟩
  | false =>
    go_wp2_with fail
    cases hb : badN 0 s with
    | true =>
      refine (new_bad w1 0 s hb).mono ?_; rintro e w2 ⟨rfl, rfl⟩
      go_wp2_with fail
      refine (rnew_bad w1 0 s hb).mono ?_; rintro e w2 ⟨rfl, rfl⟩
      go_wp2
      go_ret
      exact ⟨rfl, below0 gW0 g1⟩
    | false =>
      have hbb : 0 ≤ s ∧ s ≤ 1048576 := by simp [badN] at hb; omega
      obtain ⟨N, rfl⟩ : ∃ n : Nat, s = n := ⟨s.toNat, by omega⟩
      refine (new_ef w1 0 N hb).mono ?_; rintro e w2 ⟨rfl, hE, g2⟩
      obtain ⟨B, hB⟩ : ∃ B, B = w1.heap.size := ⟨_, rfl⟩
      rw [← hB] at hE ⊢
      have HB := Lib.hid hB
      clear hB
      go_wp2_with fail
      refine (rnew_ok w2 0 N hb).mono ?_; rintro e w3 ⟨rfl, hR, g3⟩
      have hP := new_pair HB.out hE hR g3
      obtain ⟨B2, hB2⟩ : ∃ B2, B2 = w2.heap.size := ⟨_, rfl⟩
      rw [← hB2] at hP ⊢
      have zB : w0.heap.size ≤ B ∧ w0.heap.size ≤ B2 := by have := g1.size; have := g2.size; have := HB.out; omega
      have HP := Lib.hid hP
      have G3 := Lib.hid ((g1.trans g2 (fun _ _ h => h)).trans g3 (fun _ _ h => h))
      clear hE hR hP hB2 g1 g2 g3 hg hb
      go_wp2_with fail
      go_loopw [50] (fun i wr => ∃ k : Nat, k ≤ l.length ∧ i = .int .i64 (↑k : Int) ∧ Hid (∃ F, Pr wr (fun q => q = B ∨ q = B2) B B2 0 F) ∧ Hid (Chg (fun _ => False) w0 wr)) (fun i _ => l.length - (intOf i).toNat)
      case atStart => exact ⟨0, by omega, rfl, ⟨_, HP.out⟩, G3.out⟩
      case round =>
        obtain ⟨k, hk, rfl, HQ, HG⟩ := hrel
        by_cases hlt : k < l.length
        · obtain ⟨lb, lo, rfl, hlb, hc⟩ := HC.out (by omega)
          obtain ⟨⟨kd, x, y⟩, hx⟩ : ∃ x, l[k]? = some x := ⟨_, List.getElem?_eq_getElem hlt⟩
          obtain ⟨kc0, kc1, kc2⟩ := hc k _ hx
          have e0 : wr.cell? ⟨lb, lo + k * 3, none⟩ = some (.int .i64 kd) := by rw [HG.out.cell hlb id]; exact kc0
          have e1 : wr.cell? ⟨lb, lo + k * 3 + 1, none⟩ = some (.int .i64 x) := by rw [HG.out.cell hlb id]; exact kc1
          have e2 : wr.cell? ⟨lb, lo + k * 3 + 2, none⟩ = some (.int .i64 y) := by rw [HG.out.cell hlb id]; exact kc2
          have hw := HWF.out _ (List.mem_of_getElem? hx)
          have HX := Lib.hid (And.intro (wfI64 hw.2.1) (wfI64 hw.2.2))
          obtain ⟨F, hF⟩ := HQ.out
          have HF := Lib.hid hF
          clear kc0 kc1 kc2 hc hx hw hF
          go_wp2_with fail
          refine name_calls ?_; intro W hW
          have gW : Chg (fun _ => False) wr W := by subst hW; exact (by repeat (first | with_reducible exact Chg.refl _ _ | with_reducible assumption | with_reducible refine Chg.drewN ?_ _ | with_reducible refine Chg.drew ?_ | with_reducible refine Chg.alloc ?_ _ | with_reducible refine Chg.setCell ?_ (by first | (left; rfl) | (right; exact Nat.le_refl _) | (right; simp; done) | (right; omega) | (right; simp at *; omega) | (simp at *; omega)) _ | with_reducible refine Chg.trans ?_ (by with_reducible assumption) (by intro i hi hT; first | exact hT | exact False.elim hT | omega | (simp at *; omega))))
          clear hW
          refine (do_any W _ B B2 0 F kd x y (HF.out.chg gW (fun _ _ h => h.elim) id id) HX.out.1 HX.out.2).mono ?_; rintro e w4 ⟨rfl, hP, g4⟩
          have HP4 := Lib.hid hP
          have G4 : Hid (Chg (fun _ => False) w0 w4) := (HG.out.trans gW (fun _ _ h => h)).trans g4 (fun q hq h => by omega)
          clear hP g4 gW
          go_wp2
          go_roundw
          case rel => exact ⟨k + 1, by omega, by go_num, ⟨_, HP4.out⟩, G4.out⟩
          case measure => simp [intOf]; omega
        · obtain rfl : k = l.length := by omega
          obtain ⟨F, hF⟩ := HQ.out
          have HF := Lib.hid hF
          clear hF
          go_wp2_with fail
          refine (free_ef wr _ B 0 F HF.out.1).mono ?_; rintro e w4 ⟨⟨gs, a4, c4, rfl, ho, hS⟩, g4⟩
          have HS := Lib.hid hS
          have HI : Hid (IsE w4 a4 c4 gs) := RdS.row ho (flat_one _)
          have HP4 := Lib.hid (HF.out.chg g4 (fun _ _ h => h.elim) id id)
          have hlow : Hid (∀ q, (Value.slice a4 gs.length c4).ownBlock = some q → wr.heap.size ≤ q) := fun q hq => (ho.lt q hq).1
          have hgl : gs.length ≤ 1048576 := by
            have := norm_len HS.out.norm (by have := HF.out.1.bd; omega)
            have := HF.out.1.bd
            omega
          have G4 := Lib.hid (HG.out.trans g4 (fun _ _ h => h))
          have hBr := HF.out.1.sb.2
          have zw4 : wr.heap.size ≤ w4.heap.size := g4.size
          have d0 : w4.cell? ⟨bx, 0, none⟩ = some (.int .i64 x0) := by rw [G4.out.cell zx id]; exact bx0
          have d1 : w4.cell? ⟨bx, 1, none⟩ = some (.int .i64 x1) := by rw [G4.out.cell zx id]; exact bx1
          have z4 : bx < w4.heap.size := Nat.lt_of_lt_of_le zx G4.out.size
          clear hS ho g4
          go_wp2_with fail
          refine name_calls ?_; intro W hW
          have gW : Chg (fun _ => False) w4 W := by subst hW; exact (by repeat (first | with_reducible exact Chg.refl _ _ | with_reducible assumption | with_reducible refine Chg.drewN ?_ _ | with_reducible refine Chg.drew ?_ | with_reducible refine Chg.alloc ?_ _ | with_reducible refine Chg.setCell ?_ (by first | (left; rfl) | (right; exact Nat.le_refl _) | (right; simp; done) | (right; omega) | (right; simp at *; omega) | (simp at *; omega)) _ | with_reducible refine Chg.trans ?_ (by with_reducible assumption) (by intro i hi hT; first | exact hT | exact False.elim hT | omega | (simp at *; omega))))
          have y0 : W.cell? ⟨w4.heap.size, 0, none⟩ = some (.int .i64 x0) := by subst hW; go_simp
          have y1 : W.cell? ⟨w4.heap.size, 1, none⟩ = some (.int .i64 x1) := by subst hW; go_simp
          have zW : w4.heap.size < W.heap.size := by subst hW; simp
          clear hW
          have HPW := Lib.hid (HP4.out.chg gW (fun _ _ h => h.elim) id id)
          have HIW := Lib.hid (IsE.keep HI.out gW (fun _ _ h => h))
          have GW := Lib.hid (G4.out.trans gW (fun _ _ h => h))
          clear gW d0 d1
          refine (claim_ef W _ B 0 F x0 x1 HPW.out.1 (wfI64 hx0) (wfI64 hx1)).mono ?_; rintro e w5 ⟨rfl, hE, g5⟩
          have HE5 := Lib.hid hE
          have G5 : Hid (Chg (fun _ => False) w0 w5) := GW.out.trans g5 (fun q hq h => by omega)
          have HI5 : Hid (IsE w5 a4 c4 gs) := IsE.keep HIW.out g5 (fun q hq h => by have := hlow.out q hq; omega)
          have y0 : w5.cell? ⟨w4.heap.size, 0, none⟩ = some (.int .i64 x0) := by rw [g5.cell zW (by omega)]; exact y0
          have y1 : w5.cell? ⟨w4.heap.size, 1, none⟩ = some (.int .i64 x1) := by rw [g5.cell zW (by omega)]; exact y1
          have z5 : w4.heap.size < w5.heap.size := Nat.lt_of_lt_of_le zW g5.size
          have HR5 : Hid (∃ a c, Rm w5 (fun q => q = B ∨ q = B2) B2 0 a c F) := by
            obtain ⟨a, c, h2⟩ := HPW.out.2.1
            exact ⟨a, c, h2.chg g5 (fun q _ hq => .inl hq) (by intro h; exact HPW.out.2.2 h.symm)⟩
          obtain ⟨Z, hZ⟩ : ∃ q : Int, q = claimC 0 F x0 x1 := ⟨_, rfl⟩
          rw [← hZ]
          have HZ := Lib.hid hZ
          clear hE g5 hZ
          by_cases hz : Z = 0
          rotate_left
          · have hz2 : (Z == 0) = false := by simpa using hz
            have hFF : claimF 0 F x0 x1 = F := by rcases ref_claim 0 F x0 x1 with h | h; exact absurd (HZ.out.trans h) hz; exact h
            have HE5' := HE5
            rw [hFF] at HE5'
            clear hz hFF HE5
            go_wp2_with fail
            refine (free_ef w5 _ B 0 F HE5'.out).mono ?_; rintro e w6 ⟨⟨g1, a6, c6, rfl, ho, hS⟩, g6⟩
            obtain rfl := same_uniq HS.out hS
            have HO := Lib.hid ho
            obtain ⟨a7, c7, hR⟩ := HR5.out
            have HR6 := Lib.hid (hR.chg g6 (fun _ _ h => h.elim) id)
            have G6 := Lib.hid (G5.out.trans g6 (fun _ _ h => h))
            clear ho hS hR g6
            go_wp2_with fail
            refine (rfree_any w6 _ B2 0 a7 c7 F HR6.out).mono ?_; rintro e w7 ⟨⟨g2, a8, c8, rfl, ho, hS⟩, g7⟩
            obtain rfl := same_uniq HS.out hS
            have I2 : IsE w7 a8 c8 gs := RdS.row ho (flat_one _)
            have I1 : IsE w7 a6 c6 gs := IsE.keep (RdS.row HO.out (flat_one _)) g7 (fun _ _ h => h)
            have HI := Lib.hid (And.intro I1 I2)
            have G7 := Lib.hid (G6.out.trans g7 (fun _ _ h => h))
            clear ho hS g7 I1 I2
            go_wp2_with fail
            refine (same_any w7 a6 a8 c6 c8 gs HI.out.1 HI.out.2 hgl).mono ?_; rintro e w8 ⟨rfl, g8⟩
            go_wp2
            go_ret
            exact ⟨rfl, below0 gW0 (G7.out.trans g8 (fun _ _ h => h))⟩
          subst hz
          obtain ⟨t1, t2, t3, t4, t5, t6, t7, t8⟩ := claim_then HZ.out.symm
          have hlen2 := HPW.out.1.bd.2.2
          obtain ⟨m, rfl⟩ : ∃ m : Nat, x1 = m := ⟨x1.toNat, by omega⟩
          have hxb : 0 ≤ x0 ∧ x0 + m ≤ 1048576 := by omega
          obtain ⟨F1, hF1⟩ : ∃ F1, F1 = claimF 0 F x0 m := ⟨_, rfl⟩
          rw [← hF1] at t4 t5 t6 t7 t8 HE5
          have HT := Lib.hid (And.intro t4 (And.intro t5 (And.intro t6 (And.intro t7 t8))))
          clear t4 t5 t6 t7 t8 hF1 HZ
          go_wp2_with fail
          refine (claim_ef w5 _ B 0 F1 x0 m HE5.out (wfI64 hx0) (wfI64 hx1)).mono ?_; rintro e w6 ⟨rfl, hE, g6⟩
          rw [HT.out.1]
          rw [HT.out.2.1] at hE
          have HE6 := Lib.hid hE
          have G6 : Hid (Chg (fun _ => False) w0 w6) := G5.out.trans g6 (fun q hq h => by omega)
          have HI6 : Hid (IsE w6 a4 c4 gs) := IsE.keep HI5.out g6 (fun q hq h => by have := hlow.out q hq; omega)
          have v0 : w6.cell? ⟨w4.heap.size, 0, none⟩ = some (.int .i64 x0) := by rw [g6.cell z5 (by omega)]; exact y0
          have v1 : w6.cell? ⟨w4.heap.size, 1, none⟩ = some (.int .i64 m) := by rw [g6.cell z5 (by omega)]; exact y1
          have z6 : w4.heap.size < w6.heap.size := Nat.lt_of_lt_of_le z5 g6.size
          clear hE g6 y0 y1
          go_wp2_with fail
          go_loopw [81] (fun i wx => ∃ k : Nat, k ≤ m ∧ i = .int .i64 (↑k : Int) ∧ Hid (Chg (fun _ => False) w6 wx)) (fun i _ => m - (intOf i).toNat)
          case atStart => exact ⟨0, by omega, rfl, Chg.refl _ _⟩
          case round =>
            obtain ⟨k, hk, rfl, HG2⟩ := hrel
            have u0 : wr.cell? ⟨w4.heap.size, 0, none⟩ = some (.int .i64 x0) := by rw [HG2.out.cell z6 id]; exact v0
            have u1 : wr.cell? ⟨w4.heap.size, 1, none⟩ = some (.int .i64 m) := by rw [HG2.out.cell z6 id]; exact v1
            have HE7 := Lib.hid (HE6.out.chg HG2.out (fun _ _ h => h.elim) id)
            have z7 : w4.heap.size < wr.heap.size := Nat.lt_of_lt_of_le z6 HG2.out.size
            by_cases hkm : k < m
            · go_wp2_with fail
              refine (used_ef wr _ B 0 F1 (x0 + k) HE7.out (by omega)).mono ?_; rintro e w8 ⟨rfl, g8⟩
              rw [HT.out.2.2.1 k (by omega)]
              have G8 := Lib.hid (HG2.out.trans g8 (fun _ _ h => h))
              clear g8
              go_wp2
              go_roundw
              case rel => exact ⟨k + 1, by omega, by go_num, G8.out⟩
              case measure => simp [intOf]; omega
            · obtain rfl : k = m := by omega
              have G7 := Lib.hid (G6.out.trans HG2.out (fun _ _ h => h))
              have HI7 := Lib.hid (IsE.keep HI6.out HG2.out (fun _ _ h => h))
              go_wp2_with fail
              refine (give_ef wr _ B 0 F1 x0 k HE7.out (wfI64 hx0) (wfI64 hx1)).mono ?_; rintro e w8 ⟨rfl, hE, g8⟩
              rw [HT.out.2.2.2.1]
              rw [HT.out.2.2.2.2] at hE
              have HE8 := Lib.hid hE
              have G8 : Hid (Chg (fun _ => False) w0 w8) := G7.out.trans g8 (fun q hq h => by omega)
              have HI8 : Hid (IsE w8 a4 c4 gs) := IsE.keep HI7.out g8 (fun q hq h => by have := hlow.out q hq; omega)
              clear hE g8
              go_wp2_with fail
              refine (free_ef w8 _ B 0 F HE8.out).mono ?_; rintro e w9 ⟨⟨g2, a9, c9, rfl, ho, hS⟩, g9⟩
              obtain rfl := same_uniq HS.out hS
              have HJ : Hid (IsE w9 a9 c9 gs) := RdS.row ho (flat_one _)
              have HI9 := Lib.hid (IsE.keep HI8.out g9 (fun _ _ h => h))
              have G9 := Lib.hid (G8.out.trans g9 (fun _ _ h => h))
              clear ho hS g9
              go_wp2_with fail
              go_loopw [105] (fun i wr => ∃ k : Nat, k ≤ gs.length ∧ i = .int .i64 (↑k : Int) ∧ Hid (Chg (fun _ => False) w9 wr)) (fun i _ => gs.length - (intOf i).toNat)
              case atStart => exact ⟨0, by omega, rfl, Chg.refl _ _⟩
              case round =>
                obtain ⟨j, hj, rfl, HG2⟩ := hrel
                by_cases hjt : j < gs.length
                · obtain ⟨f, hf⟩ : ∃ f, gs[j]? = some f := ⟨_, List.getElem?_eq_getElem hjt⟩
                  obtain ⟨g, o, rfl, lg, k0, k1⟩ := (IsE.keep HJ.out HG2.out (fun _ _ h => h)).at hf
                  obtain ⟨g', o', rfl, lg', m0, m1⟩ := (IsE.keep HI9.out HG2.out (fun _ _ h => h)).at hf
                  have hq : (Value.agg #[.int .i64 f.1, .int .i64 f.2]) = .agg #[.int .i64 f.1, .int .i64 f.2] := rfl
                  clear hf hq
                  go_wp2_with fail
                  go_quiet (fail)
                  go_wp2
                  go_roundw
                  case rel => exact ⟨j + 1, by omega, by go_num, HG2.out.trans (T := fun _ => False) (by repeat (first | with_reducible exact Chg.refl _ _ | with_reducible assumption | with_reducible refine Chg.drewN ?_ _ | with_reducible refine Chg.drew ?_ | with_reducible refine Chg.alloc ?_ _ | with_reducible refine Chg.setCell ?_ (by first | (left; rfl) | (right; exact Nat.le_refl _) | (right; simp; done) | (right; omega) | (right; simp at *; omega) | (simp at *; omega)) _ | with_reducible refine Chg.trans ?_ (by with_reducible assumption) (by intro i hi hT; first | exact hT | exact False.elim hT | omega | (simp at *; omega)))) (fun _ _ h => h)⟩
                  case measure => simp [intOf]; omega
                · obtain rfl : j = gs.length := by omega
                  go_wp2
                  go_ret
                  exact ⟨rfl, below0 gW0 (G9.out.trans HG2.out (fun _ _ h => h))⟩
end Go.Proofs.Ytheiodnckjmieaa
