/- RetryTimes: what any timer tells, whatever happens. -/
import Derived.Test.YtnkhlnnkjmjfcaaRa
import Derived.Test.YtnkhlnnkjmjfcaaOpen
namespace Go.Proofs.Ytnkhlnnkjmjfcaa
set_option linter.unusedVariables false
open Go.RowKit

/-- The reference's timer in a variable. -/
structure Rm (w : World) (b : Nat) (f fi mo row wh : Int) : Prop where
  c0 : w.cell? ⟨b, 0, none⟩ = some (.int .i64 f)
  c1 : w.cell? ⟨b, 1, none⟩ = some (.int .i64 fi)
  c2 : w.cell? ⟨b, 2, none⟩ = some (.int .i64 mo)
  c3 : w.cell? ⟨b, 3, none⟩ = some (.int .i64 row)
  c4 : w.cell? ⟨b, 4, none⟩ = some (.int .i64 wh)
  fz : ∀ o, w.frozen? ⟨b, o, none⟩ = false
theorem Rm.chg {S : Nat → Prop} {w w' : World} {b : Nat} {f fi mo row wh : Int} (h : Rm w b f fi mo row wh) (c : Chg S w w') (hn : ¬ S b) : Rm w' b f fi mo row wh := by
  have hb := cell_lt h.c0
  exact ⟨(c.cell hb hn 0).trans h.c0, (c.cell hb hn 1).trans h.c1, (c.cell hb hn 2).trans h.c2, (c.cell hb hn 3).trans h.c3, (c.cell hb hn 4).trans h.c4, fun o => (c.frozen hb hn o).trans (h.fz o)⟩

theorem fail_over2 (b : Nat) (f fi mo row rest nx now : Int) (w : World) (h : Tm w b f fi mo row rest nx) (hr : f < row) :
    Calls Try.prog 11 #[.pointer (some ⟨b, 0, none⟩), .int .i64 now] w fun e w' => e = .returned (.tuple #[.int .i64 0, .bool false]) ∧ Tm w' b f fi mo row rest nx ∧ Chg (Own b) w w' :=
  (fail_over b f fi mo row rest nx now w h hr).mono fun e w' ⟨he, n, hw⟩ => ⟨he, by rw [hw]; exact h.drewN n, by rw [hw]; exact (Chg.refl _ _).drewN n⟩

/-- Both timers behind so many failures in a row. -/
structure Both (w0 wr : World) (bT bM : Nat) (f : Nat) (fi mo : Int) (row : Nat) (wh : Int) : Prop where
  t : Tm wr bT f fi mo (min row (f + 1) : Nat) (rst fi mo (min row f)) wh
  m : Rm wr bM f fi mo row wh
  ne : bT ≠ bM
  lt : w0.heap.size ≤ bT ∧ w0.heap.size ≤ bM
  chg : Chg (fun _ => False) w0 wr

theorem tm_re {w : World} {b : Nat} {f fi mo row rest nx : Int} (h : Tm w b f fi mo row rest nx) {d : Nat} {os : Array Obj} : Tm (Go.Sort.grow (redrawn w d) os) b f fi mo row rest nx :=
  h.chg (Chg.ofBelow (S := fun _ => False) (below_regrown w d os)) id

/-- What Ready and Left tell, on both sides. -/
theorem ready_same (f row : Nat) (wh now : Int) : decide ((↑(min row (f + 1)) : Int) ≤ ↑f ∧ wh ≤ tk now) = decide ((row : Int) ≤ ↑f ∧ wh ≤ tk now) := by
  by_cases h : row ≤ f
  · rw [Nat.min_eq_left (by omega)]
  · have e1 : ¬ ((↑(min row (f + 1)) : Int) ≤ ↑f) := by rw [Nat.min_eq_right (by omega)]; omega
    have e2 : ¬ ((row : Int) ≤ ↑f) := by omega
    simp [e1, e2]
theorem left_same (f row : Nat) : max ((f : Int) - ↑(min row (f + 1))) 0 = max ((f : Int) - row) 0 := by omega

set_option maxRecDepth 100000 in
set_option maxHeartbeats 2000000 in
theorem retryTimes_any (fl a b : Int) (v : Value) (xs : List (Int × Int)) (w : World) (hf : 0 ≤ fl ∧ fl ≤ 255) (hv : IsL2 .i64 .i64 w v xs) :
    Calls Try.prog 3 #[.int .u8 fl, .agg #[.int .i64 a, .int .i64 b], v] w fun e w' => e = .returned (.bool true) ∧ Below w.heap.size w w' := by
  obtain ⟨hwf, ad, cap, rfl, hlen, hrow⟩ := hv
  have HW := Lib.hid hwf
  have HR := Lib.hid hrow
  clear hwf hrow
  obtain ⟨f, rfl⟩ := Int.eq_ofNat_of_zero_le hf.1
  by_cases hl : 200 < xs.length
  · go_enter Try.func3, Try.ntmps3
    go_wp2_with fail
    refine (alive_any _).mono ?_; rintro e w1 ⟨rfl, g1⟩
    go_wp2_with fail
    go_ret
    exact ⟨rfl, Chg.below (by repeat (first | with_reducible exact Chg.refl _ _ | with_reducible assumption | with_reducible refine Chg.drewN ?_ _ | with_reducible refine Chg.drew ?_ | with_reducible refine Chg.alloc ?_ _ | with_reducible refine Chg.setCell ?_ (by first | (left; rfl) | (right; exact Nat.le_refl _) | (right; simp; done) | (right; omega) | (right; simp at *; omega) | (simp at *; omega)) _ | with_reducible refine Chg.trans ?_ (by with_reducible assumption) (by intro i hi hT; first | exact hT | exact False.elim hT | omega | (simp at *; omega))))⟩
  by_cases hok : 0 ≤ (f : Int) ∧ (f : Int) ≤ 1000 ∧ 1 ≤ a ∧ a ≤ b ∧ b ≤ 1099511627776
  rotate_left
  · have HN := Lib.hid hok
    clear hok
    go_enter Try.func3, Try.ntmps3
    go_wp2_with fail
    refine (alive_any _).mono ?_; rintro e w1 ⟨rfl, g1⟩
    have k0 : w1.cell? ⟨w.heap.size, 0, none⟩ = some (.int .i64 a) := by rw [(g1.cell (by simp) id 0)]; go_simp
    have k1 : w1.cell? ⟨w.heap.size, 1, none⟩ = some (.int .i64 b) := by rw [(g1.cell (by simp) id 1)]; go_simp
    go_wp2_with fail
    refine (new_no _ _ _ _ HN.out).mono ?_; rintro e w2 ⟨rfl, rfl⟩
    go_wp2_with fail
    refine (rnew_no _ _ _ _ HN.out).mono ?_; rintro e w2 ⟨rfl, b2⟩
    have g2 := Chg.ofBelow (S := fun _ => False) b2
    clear b2
    go_wp2_with fail
    go_ret
    exact ⟨rfl, Chg.below (by repeat (first | with_reducible exact Chg.refl _ _ | with_reducible assumption | with_reducible refine Chg.drewN ?_ _ | with_reducible refine Chg.drew ?_ | with_reducible refine Chg.alloc ?_ _ | with_reducible refine Chg.setCell ?_ (by first | (left; rfl) | (right; exact Nat.le_refl _) | (right; simp; done) | (right; omega) | (right; simp at *; omega) | (simp at *; omega)) _ | with_reducible refine Chg.trans ?_ (by with_reducible assumption) (by intro i hi hT; first | exact hT | exact False.elim hT | omega | (simp at *; omega))))⟩
  · have HO := Lib.hid hok
    clear hok
    go_enter Try.func3, Try.ntmps3
    go_wp2_with fail
    refine (alive_any _).mono ?_; rintro e w1 ⟨rfl, g1⟩
    have k0 : w1.cell? ⟨w.heap.size, 0, none⟩ = some (.int .i64 a) := by rw [(g1.cell (by simp) id 0)]; go_simp
    have k1 : w1.cell? ⟨w.heap.size, 1, none⟩ = some (.int .i64 b) := by rw [(g1.cell (by simp) id 1)]; go_simp
    have z1 : w.heap.size < w1.heap.size := by have := g1.size; simp at this; exact this
    go_wp2_with fail
    refine (new_ok _ _ _ _ HO.out).mono ?_; rintro e w2 ⟨rfl, t2, z2, g2⟩
    have T2 := Lib.hid t2
    clear t2
    have j0 : w2.cell? ⟨w.heap.size, 0, none⟩ = some (.int .i64 a) := (g2.cell z1 id 0).trans k0
    have j1 : w2.cell? ⟨w.heap.size, 1, none⟩ = some (.int .i64 b) := (g2.cell z1 id 1).trans k1
    go_wp2_with fail
    refine (rnew_ok _ _ _ _ HO.out).mono ?_; rintro e w3 ⟨rfl, b3⟩
    have g3 := Chg.ofBelow (S := fun _ => False) b3
    clear b3
    go_wp2_with fail
    have zb : w.heap.size ≤ w1.heap.size := Nat.le_of_lt z1
    have zc : w1.heap.size < w3.heap.size := Nat.lt_of_lt_of_le z2 g3.size
    go_loopw [57] (fun i wr => ∃ (k row : Nat) (wh : Int), k ≤ xs.length ∧ i = .int .i64 (↑k : Int) ∧ row ≤ k ∧ Hid (Both w wr w1.heap.size w3.heap.size f a b row wh)) (fun i _ => xs.length - (intOf i).toNat)
    case atStart =>
      refine ⟨0, 0, 0, by omega, rfl, by omega, ?_, ?_, by omega, by omega, (by repeat (first | with_reducible exact Chg.refl _ _ | with_reducible assumption | with_reducible refine Chg.drewN ?_ _ | with_reducible refine Chg.drew ?_ | with_reducible refine Chg.alloc ?_ _ | with_reducible refine Chg.setCell ?_ (by first | (left; rfl) | (right; exact Nat.le_refl _) | (right; simp; done) | (right; omega) | (right; simp at *; omega) | (simp at *; omega)) _ | with_reducible refine Chg.trans ?_ (by with_reducible assumption) (by intro i hi hT; first | exact hT | exact False.elim hT | omega | (simp at *; omega))))⟩
      · exact (T2.out.chg g3 id).chg ((Chg.refl (fun _ => False) _).alloc _) id
      · exact ⟨by go_simp, by go_simp, by go_simp, by go_simp, by go_simp, by intro o; go_simp⟩
    case round =>
      obtain ⟨k, row, wh, hk, rfl, hrk, HB⟩ := hrel
      have ne := HB.out.ne
      by_cases hlt : k < xs.length
      rotate_left
      · obtain rfl : k = xs.length := by omega
        have gW := HB.out.chg
        go_wp2_with fail
        go_ret
        exact ⟨rfl, Chg.below gW⟩
      · obtain ⟨b0, off, hab, hb0, hcell⟩ := HR.out (by omega)
        subst hab
        obtain ⟨⟨kd, nw⟩, hx⟩ : ∃ x, xs[k]? = some x := ⟨_, List.getElem?_eq_getElem hlt⟩
        have kc := hcell k _ hx
        have e0 : wr.cell? ⟨b0, off + k * 2, none⟩ = some (.int .i64 kd) := (HB.out.chg.cell hb0 id _).trans kc.1
        have e1 : wr.cell? ⟨b0, off + k * 2 + 1, none⟩ = some (.int .i64 nw) := (HB.out.chg.cell hb0 id _).trans kc.2
        have lt' : (k : Int) < xs.length := by omega
        have hm := HO.out
        have hm2 : 1 ≤ a ∧ a ≤ b ∧ b ≤ 1099511627776 := ⟨hm.2.2.1, hm.2.2.2.1, hm.2.2.2.2⟩
        have HM2 := Lib.hid hm2
        have hrs := rst_bd a b ⟨hm2.1, hm2.2.1⟩
        have HRS := Lib.hid hrs
        have lT : w1.heap.size < wr.heap.size := cell_lt HB.out.t.c0
        have lM : w3.heap.size < wr.heap.size := cell_lt HB.out.m.c0
        have hl200 : xs.length ≤ 200 := by omega
        clear kc hcell hm hm2 hrs
        obtain ⟨m0, m1, m2, m3, m4, mf⟩ := HB.out.m
        by_cases hk0 : kd = 0
        · subst hk0
          by_cases hr1 : row < f
          · have hrf : row ≤ f := by omega
            have HT : Hid (Tm wr w1.heap.size f a b row (rst a b row) wh) := by have h := HB.out.t; rw [Nat.min_eq_left (by omega), Nat.min_eq_left hrf] at h; exact h
            have gB := HB.out.chg
            have hrsr := HRS.out row
            go_wp2_with fail
            refine (fail_ok _ _ _ _ _ _ _ nw _ (HT.out.chg ((Chg.refl (fun _ => False) _).alloc _) id) (by omega) (by omega) (by omega) (by have := HRS.out row; have := HM2.out; omega) (by have := HM2.out; omega)).mono ?_; rintro e w4 ⟨rfl, t4, g4⟩
            have T4 := Lib.hid t4
            have M4 : Rm w4 w3.heap.size f a b row wh := (HB.out.m.chg ((Chg.refl (fun _ => False) _).alloc _) id).chg g4 (fun h => ne h.symm)
            have z4 : wr.heap.size < w4.heap.size := by have := g4.size; simp at this; exact this
            have a4 : w4.cell? ⟨wr.heap.size, 1, none⟩ = some (.int .i64 nw) := by rw [g4.cell (by simp) (show ¬ wr.heap.size = w1.heap.size by omega) 1]; go_simp
            have a40 : w4.cell? ⟨wr.heap.size, 0, none⟩ = some (.int .i64 0) := by rw [g4.cell (by simp) (show ¬ wr.heap.size = w1.heap.size by omega) 0]; go_simp
            clear t4 m0 m1 m2 m3 m4 mf
            obtain ⟨m0, m1, m2, m3, m4, mf⟩ := M4
            go_wp2_with fail
            refine (rfail_ok _ _ _ _ nw row _ (by omega) (by omega) HM2.out).mono ?_; rintro e w5 ⟨rfl, b5⟩
            have g5 := Chg.ofBelow (S := fun _ => False) b5
            have c5 : ∀ c o, c < w4.heap.size → w5.cell? ⟨c, o, none⟩ = w4.cell? ⟨c, o, none⟩ := fun c o h => g5.cell h id o
            have f5 : ∀ c o, c < w4.heap.size → w5.frozen? ⟨c, o, none⟩ = w4.frozen? ⟨c, o, none⟩ := fun c o h => g5.frozen h id o
            have zM : w3.heap.size < w4.heap.size := by omega
            have z5 := g5.size
            have zM5 : w3.heap.size < w5.heap.size := Nat.lt_of_lt_of_le zM z5
            have z45 : wr.heap.size < w5.heap.size := Nat.lt_of_lt_of_le z4 z5
            clear b5
            go_wp2_with fail
            refine name_region ?_; intro W hW
            have tW : Hid (Tm W w1.heap.size f a b ((row : Int) + 1) (min (2 * rst a b row) b) (tk nw + rst a b row)) := by subst hW; exact (T4.out.chg g5 id).chg (S := fun c => c = w3.heap.size) (by repeat (first | with_reducible exact Chg.refl _ _ | with_reducible assumption | with_reducible refine Chg.drewN ?_ _ | with_reducible refine Chg.drew ?_ | with_reducible refine Chg.alloc ?_ _ | with_reducible refine Chg.setCell ?_ (by first | (left; rfl) | (right; exact Nat.le_refl _) | (right; simp; done) | (right; omega) | (right; simp at *; omega) | (simp at *; omega)) _ | with_reducible refine Chg.trans ?_ (by with_reducible assumption) (by intro i hi hT; first | exact hT | exact False.elim hT | omega | (simp at *; omega)))) ne
            have mW : Hid (Rm W w3.heap.size f a b ((row : Int) + 1) (tk nw + rst a b row)) := by subst hW; exact ⟨by go_simp, by go_simp, by go_simp, by go_simp, by go_simp, by intro o; go_simp⟩
            have aW : W.cell? ⟨wr.heap.size, 1, none⟩ = some (.int .i64 nw) := by subst hW; go_simp
            have cW : Chg (fun _ => False) w W := by subst hW; exact (by repeat (first | with_reducible exact Chg.refl _ _ | with_reducible assumption | with_reducible refine Chg.drewN ?_ _ | with_reducible refine Chg.drew ?_ | with_reducible refine Chg.alloc ?_ _ | with_reducible refine Chg.setCell ?_ (by first | (left; rfl) | (right; exact Nat.le_refl _) | (right; simp; done) | (right; omega) | (right; simp at *; omega) | (simp at *; omega)) _ | with_reducible refine Chg.trans ?_ (by with_reducible assumption) (by intro i hi hT; first | exact hT | exact False.elim hT | omega | (simp at *; omega))))
            have zW : wr.heap.size < W.heap.size := by subst hW; first | (simp; done) | (simp; omega)
            clear hW
            have zM9 : w3.heap.size < W.heap.size := cell_lt mW.out.c0
            obtain ⟨n0, n1, n2, n3, n4, nf⟩ := mW.out
            (have hN : W.heap.size ≤ (World.heap W).size := by first | assumption | exact Nat.le_refl _ | (simp; done) | omega | (simp; omega) | (simp at *; omega)); (have kr := fun d os b o (h : b < W.heap.size) => (below_regrown W d os).cell (p := ⟨b, o, none⟩) (Nat.lt_of_lt_of_le h hN)); (refine wp_region_quiet_below (by kernel_rfl) (by kernel_rfl) ?_); (repeat (first | go_big_quiet_step ((first | (go_at_call 15; exact Calls.regrown_of (quiet_below (ready_any _ _ _ _ _ _ _ _ _ (tm_re tW.out)))) | (go_at_call 16; exact Calls.regrown_of (rready_any _ _ _ _ _ _ _)) | (go_at_call 17; exact Calls.regrown_of (quiet_below (left_any _ _ _ _ _ _ _ _ (tm_re tW.out) (by omega)))) | (go_at_call 18; exact Calls.regrown_of (rleft_any _ _ _ _ _ _ (by omega))))) | quiet_step ((first | (go_at_call 15; exact Calls.regrown_of (quiet_below (ready_any _ _ _ _ _ _ _ _ _ (tm_re tW.out)))) | (go_at_call 16; exact Calls.regrown_of (rready_any _ _ _ _ _ _ _)) | (go_at_call 17; exact Calls.regrown_of (quiet_below (left_any _ _ _ _ _ _ _ _ (tm_re tW.out) (by omega)))) | (go_at_call 18; exact Calls.regrown_of (rleft_any _ _ _ _ _ _ (by omega))))))); (refine wpQuiet_nil ?_); (intro w9 hw9); (obtain ⟨⟨dq, osq⟩, hw9⟩ := hw9); (have g9 := below_regrown W dq osq); (rw [← hw9] at g9); (have g9 : Below (W.heap.size) _ w9 := g9.mono hN); (have z9 : W.heap.size ≤ w9.heap.size := Nat.le_trans hN g9.size); (have c9 := fun b o h => g9.cell (p := ⟨b, o, none⟩) h); (have f9 := fun b o h => g9.frozen (p := ⟨b, o, none⟩) h); (clear hw9 kr hN g9)
            go_wp2_with fail
            go_roundw
            case rel => exact ⟨k + 1, row + 1, _, by omega, by go_num, by omega, ⟨by rw [Nat.min_eq_left (by omega), Nat.min_eq_left (show row + 1 ≤ f by omega)]; exact (tW.out).chg (Chg.ofBelow (S := fun _ => False) g9) id, (mW.out).chg (Chg.ofBelow (S := fun _ => False) g9) id, ne, HB.out.lt, cW.trans (Chg.ofBelow (S := fun _ => False) g9) (fun _ _ h => h)⟩⟩
            case measure => simp [intOf]; omega
          by_cases hr2 : row = f
          · have hrf : row ≤ f := by omega
            have HT : Hid (Tm wr w1.heap.size f a b row (rst a b row) wh) := by have h := HB.out.t; rw [Nat.min_eq_left (by omega), Nat.min_eq_left hrf] at h; exact h
            have gB := HB.out.chg
            have hrsr := HRS.out row
            go_wp2_with fail
            refine (fail_last _ _ _ _ _ _ _ nw _ (HT.out.chg ((Chg.refl (fun _ => False) _).alloc _) id) (by omega) (by omega) (by omega)).mono ?_; rintro e w4 ⟨rfl, t4, g4⟩
            have T4 := Lib.hid t4
            have M4 : Rm w4 w3.heap.size f a b row wh := (HB.out.m.chg ((Chg.refl (fun _ => False) _).alloc _) id).chg g4 (fun h => ne h.symm)
            have z4 : wr.heap.size < w4.heap.size := by have := g4.size; simp at this; exact this
            have a4 : w4.cell? ⟨wr.heap.size, 1, none⟩ = some (.int .i64 nw) := by rw [g4.cell (by simp) (show ¬ wr.heap.size = w1.heap.size by omega) 1]; go_simp
            have a40 : w4.cell? ⟨wr.heap.size, 0, none⟩ = some (.int .i64 0) := by rw [g4.cell (by simp) (show ¬ wr.heap.size = w1.heap.size by omega) 0]; go_simp
            clear t4 m0 m1 m2 m3 m4 mf
            obtain ⟨m0, m1, m2, m3, m4, mf⟩ := M4
            go_wp2_with fail
            refine (rfail_over _ _ _ _ _ nw _ (by omega) (by omega)).mono ?_; rintro e w5 ⟨rfl, b5⟩
            have g5 := Chg.ofBelow (S := fun _ => False) b5
            have c5 : ∀ c o, c < w4.heap.size → w5.cell? ⟨c, o, none⟩ = w4.cell? ⟨c, o, none⟩ := fun c o h => g5.cell h id o
            have f5 : ∀ c o, c < w4.heap.size → w5.frozen? ⟨c, o, none⟩ = w4.frozen? ⟨c, o, none⟩ := fun c o h => g5.frozen h id o
            have zM : w3.heap.size < w4.heap.size := by omega
            have z5 := g5.size
            have zM5 : w3.heap.size < w5.heap.size := Nat.lt_of_lt_of_le zM z5
            have z45 : wr.heap.size < w5.heap.size := Nat.lt_of_lt_of_le z4 z5
            clear b5
            go_wp2_with fail
            refine name_region ?_; intro W hW
            have tW : Hid (Tm W w1.heap.size f a b ((row : Int) + 1) (rst a b row) wh) := by subst hW; exact (T4.out.chg g5 id).chg (S := fun c => c = w3.heap.size) (by repeat (first | with_reducible exact Chg.refl _ _ | with_reducible assumption | with_reducible refine Chg.drewN ?_ _ | with_reducible refine Chg.drew ?_ | with_reducible refine Chg.alloc ?_ _ | with_reducible refine Chg.setCell ?_ (by first | (left; rfl) | (right; exact Nat.le_refl _) | (right; simp; done) | (right; omega) | (right; simp at *; omega) | (simp at *; omega)) _ | with_reducible refine Chg.trans ?_ (by with_reducible assumption) (by intro i hi hT; first | exact hT | exact False.elim hT | omega | (simp at *; omega)))) ne
            have mW : Hid (Rm W w3.heap.size f a b ((row : Int) + 1) wh) := by subst hW; exact ⟨by go_simp, by go_simp, by go_simp, by go_simp, by go_simp, by intro o; go_simp⟩
            have aW : W.cell? ⟨wr.heap.size, 1, none⟩ = some (.int .i64 nw) := by subst hW; go_simp
            have cW : Chg (fun _ => False) w W := by subst hW; exact (by repeat (first | with_reducible exact Chg.refl _ _ | with_reducible assumption | with_reducible refine Chg.drewN ?_ _ | with_reducible refine Chg.drew ?_ | with_reducible refine Chg.alloc ?_ _ | with_reducible refine Chg.setCell ?_ (by first | (left; rfl) | (right; exact Nat.le_refl _) | (right; simp; done) | (right; omega) | (right; simp at *; omega) | (simp at *; omega)) _ | with_reducible refine Chg.trans ?_ (by with_reducible assumption) (by intro i hi hT; first | exact hT | exact False.elim hT | omega | (simp at *; omega))))
            have zW : wr.heap.size < W.heap.size := by subst hW; first | (simp; done) | (simp; omega)
            clear hW
            have zM9 : w3.heap.size < W.heap.size := cell_lt mW.out.c0
            obtain ⟨n0, n1, n2, n3, n4, nf⟩ := mW.out
            (have hN : W.heap.size ≤ (World.heap W).size := by first | assumption | exact Nat.le_refl _ | (simp; done) | omega | (simp; omega) | (simp at *; omega)); (have kr := fun d os b o (h : b < W.heap.size) => (below_regrown W d os).cell (p := ⟨b, o, none⟩) (Nat.lt_of_lt_of_le h hN)); (refine wp_region_quiet_below (by kernel_rfl) (by kernel_rfl) ?_); (repeat (first | go_big_quiet_step ((first | (go_at_call 15; exact Calls.regrown_of (quiet_below (ready_any _ _ _ _ _ _ _ _ _ (tm_re tW.out)))) | (go_at_call 16; exact Calls.regrown_of (rready_any _ _ _ _ _ _ _)) | (go_at_call 17; exact Calls.regrown_of (quiet_below (left_any _ _ _ _ _ _ _ _ (tm_re tW.out) (by omega)))) | (go_at_call 18; exact Calls.regrown_of (rleft_any _ _ _ _ _ _ (by omega))))) | quiet_step ((first | (go_at_call 15; exact Calls.regrown_of (quiet_below (ready_any _ _ _ _ _ _ _ _ _ (tm_re tW.out)))) | (go_at_call 16; exact Calls.regrown_of (rready_any _ _ _ _ _ _ _)) | (go_at_call 17; exact Calls.regrown_of (quiet_below (left_any _ _ _ _ _ _ _ _ (tm_re tW.out) (by omega)))) | (go_at_call 18; exact Calls.regrown_of (rleft_any _ _ _ _ _ _ (by omega))))))); (refine wpQuiet_nil ?_); (intro w9 hw9); (obtain ⟨⟨dq, osq⟩, hw9⟩ := hw9); (have g9 := below_regrown W dq osq); (rw [← hw9] at g9); (have g9 : Below (W.heap.size) _ w9 := g9.mono hN); (have z9 : W.heap.size ≤ w9.heap.size := Nat.le_trans hN g9.size); (have c9 := fun b o h => g9.cell (p := ⟨b, o, none⟩) h); (have f9 := fun b o h => g9.frozen (p := ⟨b, o, none⟩) h); (clear hw9 kr hN g9)
            go_wp2_with fail
            go_roundw
            case rel => exact ⟨k + 1, row + 1, _, by omega, by go_num, by omega, ⟨by rw [Nat.min_eq_left (by omega), show min (row + 1) f = row by omega]; exact (tW.out).chg (Chg.ofBelow (S := fun _ => False) g9) id, (mW.out).chg (Chg.ofBelow (S := fun _ => False) g9) id, ne, HB.out.lt, cW.trans (Chg.ofBelow (S := fun _ => False) g9) (fun _ _ h => h)⟩⟩
            case measure => simp [intOf]; omega
          · have HT : Hid (Tm wr w1.heap.size f a b ((f : Int) + 1) (rst a b f) wh) := by have h := HB.out.t; rw [Nat.min_eq_right (by omega), Nat.min_eq_right (by omega)] at h; exact h
            have dA : decide ((f : Int) + 1 ≤ f ∧ wh ≤ tk nw) = false := by simp; omega
            have dB : decide ((row : Int) + 1 ≤ f ∧ wh ≤ tk nw) = false := by simp; omega
            have lA : max ((f : Int) - (f + 1)) 0 = 0 := by omega
            have lB : max ((f : Int) - (row + 1)) 0 = 0 := by omega
            have gB := HB.out.chg
            have hrsr := HRS.out row
            go_wp2_with fail
            refine (fail_over2 _ _ _ _ _ _ _ nw _ (HT.out.chg ((Chg.refl (fun _ => False) _).alloc _) id) (by omega)).mono ?_; rintro e w4 ⟨rfl, t4, g4⟩
            have T4 := Lib.hid t4
            have M4 : Rm w4 w3.heap.size f a b row wh := (HB.out.m.chg ((Chg.refl (fun _ => False) _).alloc _) id).chg g4 (fun h => ne h.symm)
            have z4 : wr.heap.size < w4.heap.size := by have := g4.size; simp at this; exact this
            have a4 : w4.cell? ⟨wr.heap.size, 1, none⟩ = some (.int .i64 nw) := by rw [g4.cell (by simp) (show ¬ wr.heap.size = w1.heap.size by omega) 1]; go_simp
            have a40 : w4.cell? ⟨wr.heap.size, 0, none⟩ = some (.int .i64 0) := by rw [g4.cell (by simp) (show ¬ wr.heap.size = w1.heap.size by omega) 0]; go_simp
            clear t4 m0 m1 m2 m3 m4 mf
            obtain ⟨m0, m1, m2, m3, m4, mf⟩ := M4
            go_wp2_with fail
            refine (rfail_over _ _ _ _ _ nw _ (by omega) (by omega)).mono ?_; rintro e w5 ⟨rfl, b5⟩
            have g5 := Chg.ofBelow (S := fun _ => False) b5
            have c5 : ∀ c o, c < w4.heap.size → w5.cell? ⟨c, o, none⟩ = w4.cell? ⟨c, o, none⟩ := fun c o h => g5.cell h id o
            have f5 : ∀ c o, c < w4.heap.size → w5.frozen? ⟨c, o, none⟩ = w4.frozen? ⟨c, o, none⟩ := fun c o h => g5.frozen h id o
            have zM : w3.heap.size < w4.heap.size := by omega
            have z5 := g5.size
            have zM5 : w3.heap.size < w5.heap.size := Nat.lt_of_lt_of_le zM z5
            have z45 : wr.heap.size < w5.heap.size := Nat.lt_of_lt_of_le z4 z5
            clear b5
            go_wp2_with fail
            refine name_region ?_; intro W hW
            have tW : Hid (Tm W w1.heap.size f a b ((f : Int) + 1) (rst a b f) wh) := by subst hW; exact (T4.out.chg g5 id).chg (S := fun c => c = w3.heap.size) (by repeat (first | with_reducible exact Chg.refl _ _ | with_reducible assumption | with_reducible refine Chg.drewN ?_ _ | with_reducible refine Chg.drew ?_ | with_reducible refine Chg.alloc ?_ _ | with_reducible refine Chg.setCell ?_ (by first | (left; rfl) | (right; exact Nat.le_refl _) | (right; simp; done) | (right; omega) | (right; simp at *; omega) | (simp at *; omega)) _ | with_reducible refine Chg.trans ?_ (by with_reducible assumption) (by intro i hi hT; first | exact hT | exact False.elim hT | omega | (simp at *; omega)))) ne
            have mW : Hid (Rm W w3.heap.size f a b ((row : Int) + 1) wh) := by subst hW; exact ⟨by go_simp, by go_simp, by go_simp, by go_simp, by go_simp, by intro o; go_simp⟩
            have aW : W.cell? ⟨wr.heap.size, 1, none⟩ = some (.int .i64 nw) := by subst hW; go_simp
            have cW : Chg (fun _ => False) w W := by subst hW; exact (by repeat (first | with_reducible exact Chg.refl _ _ | with_reducible assumption | with_reducible refine Chg.drewN ?_ _ | with_reducible refine Chg.drew ?_ | with_reducible refine Chg.alloc ?_ _ | with_reducible refine Chg.setCell ?_ (by first | (left; rfl) | (right; exact Nat.le_refl _) | (right; simp; done) | (right; omega) | (right; simp at *; omega) | (simp at *; omega)) _ | with_reducible refine Chg.trans ?_ (by with_reducible assumption) (by intro i hi hT; first | exact hT | exact False.elim hT | omega | (simp at *; omega))))
            have zW : wr.heap.size < W.heap.size := by subst hW; first | (simp; done) | (simp; omega)
            clear hW
            have zM9 : w3.heap.size < W.heap.size := cell_lt mW.out.c0
            obtain ⟨n0, n1, n2, n3, n4, nf⟩ := mW.out
            (have hN : W.heap.size ≤ (World.heap W).size := by first | assumption | exact Nat.le_refl _ | (simp; done) | omega | (simp; omega) | (simp at *; omega)); (have kr := fun d os b o (h : b < W.heap.size) => (below_regrown W d os).cell (p := ⟨b, o, none⟩) (Nat.lt_of_lt_of_le h hN)); (refine wp_region_quiet_below (by kernel_rfl) (by kernel_rfl) ?_); (repeat (first | go_big_quiet_step ((first | (go_at_call 15; exact Calls.regrown_of (quiet_below (ready_any _ _ _ _ _ _ _ _ _ (tm_re tW.out)))) | (go_at_call 16; exact Calls.regrown_of (rready_any _ _ _ _ _ _ _)) | (go_at_call 17; exact Calls.regrown_of (quiet_below (left_any _ _ _ _ _ _ _ _ (tm_re tW.out) (by omega)))) | (go_at_call 18; exact Calls.regrown_of (rleft_any _ _ _ _ _ _ (by omega))))) | quiet_step ((first | (go_at_call 15; exact Calls.regrown_of (quiet_below (ready_any _ _ _ _ _ _ _ _ _ (tm_re tW.out)))) | (go_at_call 16; exact Calls.regrown_of (rready_any _ _ _ _ _ _ _)) | (go_at_call 17; exact Calls.regrown_of (quiet_below (left_any _ _ _ _ _ _ _ _ (tm_re tW.out) (by omega)))) | (go_at_call 18; exact Calls.regrown_of (rleft_any _ _ _ _ _ _ (by omega))))))); (refine wpQuiet_nil ?_); (intro w9 hw9); (obtain ⟨⟨dq, osq⟩, hw9⟩ := hw9); (have g9 := below_regrown W dq osq); (rw [← hw9] at g9); (have g9 : Below (W.heap.size) _ w9 := g9.mono hN); (have z9 : W.heap.size ≤ w9.heap.size := Nat.le_trans hN g9.size); (have c9 := fun b o h => g9.cell (p := ⟨b, o, none⟩) h); (have f9 := fun b o h => g9.frozen (p := ⟨b, o, none⟩) h); (clear hw9 kr hN g9)
            go_wp2_with fail
            go_roundw
            case rel => exact ⟨k + 1, row + 1, _, by omega, by go_num, by omega, ⟨by rw [Nat.min_eq_right (by omega), Nat.min_eq_right (by omega)]; exact (tW.out).chg (Chg.ofBelow (S := fun _ => False) g9) id, (mW.out).chg (Chg.ofBelow (S := fun _ => False) g9) id, ne, HB.out.lt, cW.trans (Chg.ofBelow (S := fun _ => False) g9) (fun _ _ h => h)⟩⟩
            case measure => simp [intOf]; omega
        by_cases hk1 : kd = 1
        · subst hk1
          have gB := HB.out.chg
          go_wp2_with fail
          refine (good_any _ _ _ _ _ _ _ _ (HB.out.t.chg ((Chg.refl (fun _ => False) _).alloc _) id)).mono ?_; rintro e w4 ⟨rfl, t4, g4⟩
          have T4 := Lib.hid t4
          have M4 : Rm w4 w3.heap.size f a b row wh := (HB.out.m.chg ((Chg.refl (fun _ => False) _).alloc _) id).chg g4 (fun h => ne h.symm)
          have z4 : wr.heap.size < w4.heap.size := by have := g4.size; simp at this; exact this
          have a4 : w4.cell? ⟨wr.heap.size, 1, none⟩ = some (.int .i64 nw) := by rw [g4.cell (by simp) (show ¬ wr.heap.size = w1.heap.size by omega) 1]; go_simp
          clear t4 m0 m1 m2 m3 m4 mf
          obtain ⟨m0, m1, m2, m3, m4, mf⟩ := M4
          go_wp2_with fail
          refine (rgood_any _ _ _ _ _ _).mono ?_; rintro e w5 ⟨rfl, b5⟩
          have g5 := Chg.ofBelow (S := fun _ => False) b5
          have c5 : ∀ c o, c < w4.heap.size → w5.cell? ⟨c, o, none⟩ = w4.cell? ⟨c, o, none⟩ := fun c o h => g5.cell h id o
          have f5 : ∀ c o, c < w4.heap.size → w5.frozen? ⟨c, o, none⟩ = w4.frozen? ⟨c, o, none⟩ := fun c o h => g5.frozen h id o
          have zM : w3.heap.size < w4.heap.size := by omega
          have z5 := g5.size
          clear b5
          go_wp2_with fail
          refine name_region ?_; intro W hW
          have tW : Hid (Tm W w1.heap.size f a b 0 a 0) := by subst hW; exact (T4.out.chg g5 id).chg (S := fun c => c = w3.heap.size) (by repeat (first | with_reducible exact Chg.refl _ _ | with_reducible assumption | with_reducible refine Chg.drewN ?_ _ | with_reducible refine Chg.drew ?_ | with_reducible refine Chg.alloc ?_ _ | with_reducible refine Chg.setCell ?_ (by first | (left; rfl) | (right; exact Nat.le_refl _) | (right; simp; done) | (right; omega) | (right; simp at *; omega) | (simp at *; omega)) _ | with_reducible refine Chg.trans ?_ (by with_reducible assumption) (by intro i hi hT; first | exact hT | exact False.elim hT | omega | (simp at *; omega)))) ne
          have mW : Hid (Rm W w3.heap.size f a b 0 0) := by subst hW; exact ⟨by go_simp, by go_simp, by go_simp, by go_simp, by go_simp, by intro o; go_simp⟩
          have aW : W.cell? ⟨wr.heap.size, 1, none⟩ = some (.int .i64 nw) := by subst hW; go_simp
          have cW : Chg (fun _ => False) w W := by subst hW; exact (by repeat (first | with_reducible exact Chg.refl _ _ | with_reducible assumption | with_reducible refine Chg.drewN ?_ _ | with_reducible refine Chg.drew ?_ | with_reducible refine Chg.alloc ?_ _ | with_reducible refine Chg.setCell ?_ (by first | (left; rfl) | (right; exact Nat.le_refl _) | (right; simp; done) | (right; omega) | (right; simp at *; omega) | (simp at *; omega)) _ | with_reducible refine Chg.trans ?_ (by with_reducible assumption) (by intro i hi hT; first | exact hT | exact False.elim hT | omega | (simp at *; omega))))
          have zW : wr.heap.size < W.heap.size := by subst hW; first | (simp; done) | (simp; omega)
          clear hW
          have zM9 : w3.heap.size < W.heap.size := cell_lt mW.out.c0
          obtain ⟨n0, n1, n2, n3, n4, nf⟩ := mW.out
          (have hN : W.heap.size ≤ (World.heap W).size := by first | assumption | exact Nat.le_refl _ | (simp; done) | omega | (simp; omega) | (simp at *; omega)); (have kr := fun d os b o (h : b < W.heap.size) => (below_regrown W d os).cell (p := ⟨b, o, none⟩) (Nat.lt_of_lt_of_le h hN)); (refine wp_region_quiet_below (by kernel_rfl) (by kernel_rfl) ?_); (repeat (first | go_big_quiet_step ((first | (go_at_call 15; exact Calls.regrown_of (quiet_below (ready_any _ _ _ _ _ _ _ _ _ (tm_re tW.out)))) | (go_at_call 16; exact Calls.regrown_of (rready_any _ _ _ _ _ _ _)) | (go_at_call 17; exact Calls.regrown_of (quiet_below (left_any _ _ _ _ _ _ _ _ (tm_re tW.out) (by omega)))) | (go_at_call 18; exact Calls.regrown_of (rleft_any _ _ _ _ _ _ (by omega))))) | quiet_step ((first | (go_at_call 15; exact Calls.regrown_of (quiet_below (ready_any _ _ _ _ _ _ _ _ _ (tm_re tW.out)))) | (go_at_call 16; exact Calls.regrown_of (rready_any _ _ _ _ _ _ _)) | (go_at_call 17; exact Calls.regrown_of (quiet_below (left_any _ _ _ _ _ _ _ _ (tm_re tW.out) (by omega)))) | (go_at_call 18; exact Calls.regrown_of (rleft_any _ _ _ _ _ _ (by omega))))))); (refine wpQuiet_nil ?_); (intro w9 hw9); (obtain ⟨⟨dq, osq⟩, hw9⟩ := hw9); (have g9 := below_regrown W dq osq); (rw [← hw9] at g9); (have g9 : Below (W.heap.size) _ w9 := g9.mono hN); (have z9 : W.heap.size ≤ w9.heap.size := Nat.le_trans hN g9.size); (have c9 := fun b o h => g9.cell (p := ⟨b, o, none⟩) h); (have f9 := fun b o h => g9.frozen (p := ⟨b, o, none⟩) h); (clear hw9 kr hN g9)
          go_wp2_with fail
          go_roundw
          case rel => exact ⟨k + 1, 0, _, by omega, by go_num, by omega, ⟨(tW.out).chg (Chg.ofBelow (S := fun _ => False) g9) id, (mW.out).chg (Chg.ofBelow (S := fun _ => False) g9) id, ne, HB.out.lt, cW.trans (Chg.ofBelow (S := fun _ => False) g9) (fun _ _ h => h)⟩⟩
          case measure => simp [intOf]; omega
        · have q0 : (kd == 0) = false := by simpa using hk0
          have q1 : (kd == 1) = false := by simpa using hk1
          clear hk0 hk1
          by_cases hrf : row ≤ f
          · have HT : Hid (Tm wr w1.heap.size f a b row (rst a b row) wh) := by have h := HB.out.t; rw [Nat.min_eq_left (by omega), Nat.min_eq_left hrf] at h; exact h
            have gB := HB.out.chg
            go_wp2_with fail
            refine name_region ?_; intro W hW
            have tW : Hid (Tm W w1.heap.size f a b row (rst a b row) wh) := by subst hW; exact HT.out.chg ((Chg.refl (fun _ => False) _).alloc _) id
            have mW : Hid (Rm W w3.heap.size f a b row wh) := by subst hW; exact ⟨by go_simp, by go_simp, by go_simp, by go_simp, by go_simp, by intro o; go_simp⟩
            have aW : W.cell? ⟨wr.heap.size, 1, none⟩ = some (.int .i64 nw) := by subst hW; go_simp
            have cW : Chg (fun _ => False) w W := by subst hW; exact (by repeat (first | with_reducible exact Chg.refl _ _ | with_reducible assumption | with_reducible refine Chg.drewN ?_ _ | with_reducible refine Chg.drew ?_ | with_reducible refine Chg.alloc ?_ _ | with_reducible refine Chg.setCell ?_ (by first | (left; rfl) | (right; exact Nat.le_refl _) | (right; simp; done) | (right; omega) | (right; simp at *; omega) | (simp at *; omega)) _ | with_reducible refine Chg.trans ?_ (by with_reducible assumption) (by intro i hi hT; first | exact hT | exact False.elim hT | omega | (simp at *; omega))))
            have zW : wr.heap.size < W.heap.size := by subst hW; first | (simp; done) | (simp; omega)
            clear hW
            have zM9 : w3.heap.size < W.heap.size := cell_lt mW.out.c0
            obtain ⟨n0, n1, n2, n3, n4, nf⟩ := mW.out
            (have hN : W.heap.size ≤ (World.heap W).size := by first | assumption | exact Nat.le_refl _ | (simp; done) | omega | (simp; omega) | (simp at *; omega)); (have kr := fun d os b o (h : b < W.heap.size) => (below_regrown W d os).cell (p := ⟨b, o, none⟩) (Nat.lt_of_lt_of_le h hN)); (refine wp_region_quiet_below (by kernel_rfl) (by kernel_rfl) ?_); (repeat (first | go_big_quiet_step ((first | (go_at_call 15; exact Calls.regrown_of (quiet_below (ready_any _ _ _ _ _ _ _ _ _ (tm_re tW.out)))) | (go_at_call 16; exact Calls.regrown_of (rready_any _ _ _ _ _ _ _)) | (go_at_call 17; exact Calls.regrown_of (quiet_below (left_any _ _ _ _ _ _ _ _ (tm_re tW.out) (by omega)))) | (go_at_call 18; exact Calls.regrown_of (rleft_any _ _ _ _ _ _ (by omega))))) | quiet_step ((first | (go_at_call 15; exact Calls.regrown_of (quiet_below (ready_any _ _ _ _ _ _ _ _ _ (tm_re tW.out)))) | (go_at_call 16; exact Calls.regrown_of (rready_any _ _ _ _ _ _ _)) | (go_at_call 17; exact Calls.regrown_of (quiet_below (left_any _ _ _ _ _ _ _ _ (tm_re tW.out) (by omega)))) | (go_at_call 18; exact Calls.regrown_of (rleft_any _ _ _ _ _ _ (by omega))))))); (refine wpQuiet_nil ?_); (intro w9 hw9); (obtain ⟨⟨dq, osq⟩, hw9⟩ := hw9); (have g9 := below_regrown W dq osq); (rw [← hw9] at g9); (have g9 : Below (W.heap.size) _ w9 := g9.mono hN); (have z9 : W.heap.size ≤ w9.heap.size := Nat.le_trans hN g9.size); (have c9 := fun b o h => g9.cell (p := ⟨b, o, none⟩) h); (have f9 := fun b o h => g9.frozen (p := ⟨b, o, none⟩) h); (clear hw9 kr hN g9)
            go_wp2_with fail
            go_roundw
            case rel => exact ⟨k + 1, row, _, by omega, by go_num, by omega, ⟨by rw [Nat.min_eq_left (by omega), Nat.min_eq_left hrf]; exact (tW.out).chg (Chg.ofBelow (S := fun _ => False) g9) id, (mW.out).chg (Chg.ofBelow (S := fun _ => False) g9) id, ne, HB.out.lt, cW.trans (Chg.ofBelow (S := fun _ => False) g9) (fun _ _ h => h)⟩⟩
            case measure => simp [intOf]; omega
          · have HT : Hid (Tm wr w1.heap.size f a b ((f : Int) + 1) (rst a b f) wh) := by have h := HB.out.t; rw [Nat.min_eq_right (by omega), Nat.min_eq_right (by omega)] at h; exact h
            have dA : decide ((f : Int) + 1 ≤ f ∧ wh ≤ tk nw) = false := by simp; omega
            have dB : decide ((row : Int) ≤ f ∧ wh ≤ tk nw) = false := by simp; omega
            have lA : max ((f : Int) - (f + 1)) 0 = 0 := by omega
            have lB : max ((f : Int) - row) 0 = 0 := by omega
            have gB := HB.out.chg
            go_wp2_with fail
            refine name_region ?_; intro W hW
            have tW : Hid (Tm W w1.heap.size f a b ((f : Int) + 1) (rst a b f) wh) := by subst hW; exact HT.out.chg ((Chg.refl (fun _ => False) _).alloc _) id
            have mW : Hid (Rm W w3.heap.size f a b row wh) := by subst hW; exact ⟨by go_simp, by go_simp, by go_simp, by go_simp, by go_simp, by intro o; go_simp⟩
            have aW : W.cell? ⟨wr.heap.size, 1, none⟩ = some (.int .i64 nw) := by subst hW; go_simp
            have cW : Chg (fun _ => False) w W := by subst hW; exact (by repeat (first | with_reducible exact Chg.refl _ _ | with_reducible assumption | with_reducible refine Chg.drewN ?_ _ | with_reducible refine Chg.drew ?_ | with_reducible refine Chg.alloc ?_ _ | with_reducible refine Chg.setCell ?_ (by first | (left; rfl) | (right; exact Nat.le_refl _) | (right; simp; done) | (right; omega) | (right; simp at *; omega) | (simp at *; omega)) _ | with_reducible refine Chg.trans ?_ (by with_reducible assumption) (by intro i hi hT; first | exact hT | exact False.elim hT | omega | (simp at *; omega))))
            have zW : wr.heap.size < W.heap.size := by subst hW; first | (simp; done) | (simp; omega)
            clear hW
            have zM9 : w3.heap.size < W.heap.size := cell_lt mW.out.c0
            obtain ⟨n0, n1, n2, n3, n4, nf⟩ := mW.out
            (have hN : W.heap.size ≤ (World.heap W).size := by first | assumption | exact Nat.le_refl _ | (simp; done) | omega | (simp; omega) | (simp at *; omega)); (have kr := fun d os b o (h : b < W.heap.size) => (below_regrown W d os).cell (p := ⟨b, o, none⟩) (Nat.lt_of_lt_of_le h hN)); (refine wp_region_quiet_below (by kernel_rfl) (by kernel_rfl) ?_); (repeat (first | go_big_quiet_step ((first | (go_at_call 15; exact Calls.regrown_of (quiet_below (ready_any _ _ _ _ _ _ _ _ _ (tm_re tW.out)))) | (go_at_call 16; exact Calls.regrown_of (rready_any _ _ _ _ _ _ _)) | (go_at_call 17; exact Calls.regrown_of (quiet_below (left_any _ _ _ _ _ _ _ _ (tm_re tW.out) (by omega)))) | (go_at_call 18; exact Calls.regrown_of (rleft_any _ _ _ _ _ _ (by omega))))) | quiet_step ((first | (go_at_call 15; exact Calls.regrown_of (quiet_below (ready_any _ _ _ _ _ _ _ _ _ (tm_re tW.out)))) | (go_at_call 16; exact Calls.regrown_of (rready_any _ _ _ _ _ _ _)) | (go_at_call 17; exact Calls.regrown_of (quiet_below (left_any _ _ _ _ _ _ _ _ (tm_re tW.out) (by omega)))) | (go_at_call 18; exact Calls.regrown_of (rleft_any _ _ _ _ _ _ (by omega))))))); (refine wpQuiet_nil ?_); (intro w9 hw9); (obtain ⟨⟨dq, osq⟩, hw9⟩ := hw9); (have g9 := below_regrown W dq osq); (rw [← hw9] at g9); (have g9 : Below (W.heap.size) _ w9 := g9.mono hN); (have z9 : W.heap.size ≤ w9.heap.size := Nat.le_trans hN g9.size); (have c9 := fun b o h => g9.cell (p := ⟨b, o, none⟩) h); (have f9 := fun b o h => g9.frozen (p := ⟨b, o, none⟩) h); (clear hw9 kr hN g9)
            go_wp2_with fail
            go_roundw
            case rel => exact ⟨k + 1, row, _, by omega, by go_num, by omega, ⟨by rw [Nat.min_eq_right (by omega), Nat.min_eq_right (by omega)]; exact (tW.out).chg (Chg.ofBelow (S := fun _ => False) g9) id, (mW.out).chg (Chg.ofBelow (S := fun _ => False) g9) id, ne, HB.out.lt, cW.trans (Chg.ofBelow (S := fun _ => False) g9) (fun _ _ h => h)⟩⟩
            case measure => simp [intOf]; omega
end Go.Proofs.Ytnkhlnnkjmjfcaa
