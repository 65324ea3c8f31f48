/- Law of sketch: Plays. -/
import Derived.Test.YtmkgmofkfgfdhaaSq
namespace Go.Proofs.Ytmkgmofkfgfdhaa
set_option linter.unusedVariables false
open Go.RowKit

theorem sk_re {w : World} {d : Nat} {os : Array Obj} {b g cap n W : Nat} {R : Nat → Nat} {after adds : Int} {T : Nat → Nat → Int} (h : Sk w b g cap n W R after adds T) : Sk (Go.Sort.grow (redrawn w d) os) b g cap n W R after adds T :=
  h.chg (Chg.ofBelow (S := fun _ => False) (below_regrown w d os)) id id (fun _ _ => id)
theorem rf_re {w : World} {d : Nat} {os : Array Obj} {p n W : Nat} {after adds : Int} {T : Nat → Nat → Int} {B : Nat} {O : Nat → Prop} {m : Nat} {M : Int} (h : RfT w p n W after adds T B O m M) : RfT (Go.Sort.grow (redrawn w d) os) p n W after adds T B O m M :=
  h.chg (Chg.ofBelow (S := fun _ => False) (below_regrown w d os)) id (fun _ _ => id)
theorem RfT.weak {w : World} {p n W : Nat} {after adds : Int} {T : Nat → Nat → Int} {B : Nat} {O O' : Nat → Prop} {m m' : Nat} {M M' : Int} (h : RfT w p n W after adds T B O m M) (hm : m ≤ m') (hM : M ≤ M') (hO : ∀ c, O c → O' c) : RfT w p n W after adds T B O' m' M' := by
  obtain ⟨kv, nv, cs, ns, h1, h2, h3, h4, h5, h6⟩ := h
  exact ⟨kv, nv, cs, ns, h1, h2, by omega, h4, bd_mono h5 hM, fun c hc => hO c (h6 c hc)⟩
theorem RfT.pb {w : World} {p n W : Nat} {after adds : Int} {T : Nat → Nat → Int} {B : Nat} {O : Nat → Prop} {m : Nat} {M : Int} (h : RfT w p n W after adds T B O m M) : B ≤ w.heap.size := by
  obtain ⟨kv, nv, cs, ns, h1, _⟩ := h
  exact h1.pb.2
theorem bump_bd {T : Nat → Nat → Int} {M : Int} (h : ∀ i j, 0 ≤ T i j ∧ T i j ≤ M) (W : Nat) (key : Int) (n i j : Nat) : 0 ≤ bump T W key n i j ∧ bump T W key n i j ≤ M + 1 := by have := h i j; unfold bump; split <;> omega
theorem halve_bd {T : Nat → Nat → Int} {M : Int} (h : ∀ i j, 0 ≤ T i j ∧ T i j ≤ M) (i j : Nat) : 0 ≤ halve T i j ∧ halve T i j ≤ M := by have := h i j; unfold halve; omega

theorem RfT.c3 {w : World} {p n W : Nat} {after adds : Int} {T : Nat → Nat → Int} {B : Nat} {O : Nat → Prop} {m : Nat} {M : Int} (h : RfT w p n W after adds T B O m M) : w.cell? ⟨p, 3, none⟩ = some (.int .i64 adds) := by
  obtain ⟨kv, nv, cs, ns, h1, _⟩ := h
  exact h1.c3

/-- Both stand behind k calls. -/
structure Pl (w0 w : World) (b g cap n W : Nat) (R : Nat → Nat) (after A : Int) (T : Nat → Nat → Int) (p B z : Nat) (k : Nat) : Prop where
  sk : Sk w b g cap n W R after A T
  rf : RfT w p n W after A T B (fun c => c < w.heap.size) (8 * k) (8 * k)
  tb : ∀ i j, 0 ≤ T i j ∧ T i j ≤ k
  ab : 0 ≤ A ∧ A ≤ k
  far : b < p ∧ g < p ∧ (∀ i, i < n → R i < p) ∧ z ≤ b ∧ (∀ i, i < n → z ≤ R i) ∧ p < B
  chg : Chg (fun c => z ≤ c) w0 w
section
variable {w0 w w1 w2 : World} {b g cap n W : Nat} {R : Nat → Nat} {after A : Int} {T : Nat → Nat → Int} {p B z : Nat} {k : Nat}
theorem Pl.keep (h : Pl w0 w b g cap n W R after A T p B z k) (c : Chg (fun _ => False) w w1) : Pl w0 w1 b g cap n W R after A T p B z k :=
  ⟨h.sk.chg c id id (fun _ _ => id), (h.rf.chg c id (fun _ _ => id)).weak (Nat.le_refl _) (Int.le_refl _) (fun x hx => Nat.lt_of_lt_of_le hx c.size), h.tb, h.ab, h.far, h.chg.trans c (fun _ _ h => h.elim)⟩
theorem Pl.next (h : Pl w0 w b g cap n W R after A T p B z k) : Pl w0 w b g cap n W R after A T p B z (k + 1) :=
  ⟨h.sk, h.rf.weak (by omega) (by omega) (fun _ h => h), fun i j => by have := h.tb i j; omega, by have := h.ab; omega, h.far, h.chg⟩
theorem Pl.nsk (h : Pl w0 w b g cap n W R after A T p B z k) : ¬ SkS b n R p ∧ ∀ c, B ≤ c → ¬ SkS b n R c := by
  have f := h.far
  refine ⟨?_, fun c hc => ?_⟩
  · rintro (e | ⟨i, hi, e⟩)
    · omega
    · have := f.2.2.1 i hi; omega
  · rintro (e | ⟨i, hi, e⟩)
    · omega
    · have := f.2.2.1 i hi; omega
theorem Pl.nrf (h : Pl w0 w b g cap n W R after A T p B z k) {c U : Nat} (hc : c < p) : ¬ RfS p U c := by
  have f := h.far
  rintro (e | e) <;> omega
/-- Both have turned alike. -/
theorem Pl.turn {A' : Int} {T' : Nat → Nat → Int} {U : Nat} (h : Pl w0 w b g cap n W R after A T p B z k) (c1 : Chg (SkS b n R) w w1) (s1 : Sk w1 b g cap n W R after A' T') (c2 : Chg (RfS p U) w1 w2) (r2 : RfT w2 p n W after A' T' B (fun c => c < w2.heap.size) (8 * (k + 1)) (8 * (k + 1))) (ht : ∀ i j, 0 ≤ T' i j ∧ T' i j ≤ k + 1) (ha : 0 ≤ A' ∧ A' ≤ k + 1) :
    Pl w0 w2 b g cap n W R after A' T' p B z (k + 1) := by
  have f := h.far
  exact ⟨s1.chg c2 (h.nrf f.1) (h.nrf f.2.1) (fun i hi => h.nrf (f.2.2.1 i hi)), r2, ht, ha, f, (tr_own h.chg c1 f.2.2.2.1 f.2.2.2.2.1).trans c2 (fun i _ e => by rcases e with e | e <;> omega)⟩
end

set_option maxRecDepth 100000 in
set_option maxHeartbeats 4000000 in
theorem sketchPlays_any (n W after : Int) (v : Value) (l : List (Int × Int)) (w : World) (wn : (Lit.int .i64 n).wf = true) (wW : (Lit.int .i64 W).wf = true) (wa : (Lit.int .i64 after).wf = true) (hv : IsL2 .u8 .u64 w v l) :
    Calls Try.prog 3 #[.agg #[.int .i64 n, .int .i64 W, .int .i64 after], v] w fun e w' => e = .returned (.bool true) ∧ Below w.heap.size w w' := by
  obtain ⟨hwf, sa, scap, rfl, hlen, hcells⟩ := hv
  have HWF : Hid (∀ x ∈ l, (0 ≤ x.1 ∧ x.1 ≤ 255) ∧ 0 ≤ x.2 ∧ x.2 ≤ 18446744073709551615) := fun x hx => ⟨wfU8 (hwf x hx).1, wfU64 (hwf x hx).2⟩
  have HC := Lib.hid hcells
  clear hwf hcells
  by_cases h100 : 100 < l.length
  · go_enter Try.func3, Try.ntmps3
    go_wp2_with fail
    refine (awake_any _).mono ?_; rintro e w4 ⟨rfl, g4⟩
    go_wp2_with fail
    go_ret
    exact ⟨rfl, Chg.below (by repeat (first | with_reducible exact Chg.refl _ _ | with_reducible assumption | with_reducible refine Chg.drewN ?_ _ | with_reducible refine Chg.drew ?_ | with_reducible refine Chg.alloc ?_ _ | with_reducible refine Chg.setCell ?_ (by first | (left; rfl) | (right; exact Nat.le_refl _) | (right; simp; done) | (right; omega) | (right; simp at *; omega) | (simp at *; omega)) _ | with_reducible refine Chg.trans ?_ (by with_reducible assumption) (by intro i hi hT; first | exact hT | exact False.elim hT | omega | (simp at *; omega))))⟩
  cases hr : decide (1 ≤ n ∧ n ≤ 8 ∧ 1 ≤ wid W ∧ wid W ≤ 65536 ∧ 1 ≤ after ∧ after ≤ 1099511627776)
  all_goals
    have HD := Lib.hid hr
    clear hr
    go_enter Try.func3, Try.ntmps3
    go_wp2_with fail
    refine (held_any _ _ _ _).mono ?_; rintro e w1 ⟨rfl, b1⟩
    have g1 := Chg.ofBelow (S := fun _ => False) b1
    have z1 : w.heap.size < w1.heap.size := by have := g1.size; simp at this; exact this
    have c1 : ∀ o, w1.cell? ⟨w.heap.size, o, none⟩ = _ := fun o => g1.cell (b := w.heap.size) (by simp) id o
    have f1 : ∀ o, w1.frozen? ⟨w.heap.size, o, none⟩ = _ := fun o => g1.frozen (b := w.heap.size) (by simp) id o
    clear b1
    go_wp2_with fail
    refine name_calls ?_; intro w2 hw2
    have c2 : Chg (fun _ => False) w w2 := by subst hw2; exact (by repeat (first | with_reducible exact Chg.refl _ _ | with_reducible assumption | with_reducible refine Chg.drewN ?_ _ | with_reducible refine Chg.drew ?_ | with_reducible refine Chg.alloc ?_ _ | with_reducible refine Chg.setCell ?_ (by first | (left; rfl) | (right; exact Nat.le_refl _) | (right; simp; done) | (right; omega) | (right; simp at *; omega) | (simp at *; omega)) _ | with_reducible refine Chg.trans ?_ (by with_reducible assumption) (by intro i hi hT; first | exact hT | exact False.elim hT | omega | (simp at *; omega))))
    have z2 : w.heap.size < w2.heap.size := by subst hw2; simp; omega
    have k0 : w2.cell? ⟨w.heap.size, 0, none⟩ = some (.int .i64 n) := by subst hw2; go_simp
    have k1 : w2.cell? ⟨w.heap.size, 1, none⟩ = some (.int .i64 (wid W)) := by subst hw2; go_simp
    have k2 : w2.cell? ⟨w.heap.size, 2, none⟩ = some (.int .i64 after) := by subst hw2; go_simp
    clear hw2 c1 f1
  · have hr' : ¬ (1 ≤ n ∧ n ≤ 8 ∧ 1 ≤ wid W ∧ wid W ≤ 65536 ∧ 1 ≤ after ∧ after ≤ 1099511627776) := of_decide_eq_false HD.out
    have HN := Lib.hid hr'
    clear hr'
    refine (new_no _ _ _ _ HN.out).mono ?_; rintro e w3 ⟨rfl, rfl⟩
    go_wp2_with fail
    refine (right_any _ _ _ _).mono ?_; rintro e w3 ⟨rfl, rfl⟩
    rw [HD.out]
    go_wp2_with fail
    refine (awake_any _).mono ?_; rintro e w4 ⟨rfl, g4⟩
    go_wp2_with fail
    go_ret
    exact ⟨rfl, Chg.below (by repeat (first | with_reducible exact Chg.refl _ _ | with_reducible assumption | with_reducible refine Chg.drewN ?_ _ | with_reducible refine Chg.drew ?_ | with_reducible refine Chg.alloc ?_ _ | with_reducible refine Chg.setCell ?_ (by first | (left; rfl) | (right; exact Nat.le_refl _) | (right; simp; done) | (right; omega) | (right; simp at *; omega) | (simp at *; omega)) _ | with_reducible refine Chg.trans ?_ (by with_reducible assumption) (by intro i hi hT; first | exact hT | exact False.elim hT | omega | (simp at *; omega))))⟩
  · have hr' : 1 ≤ n ∧ n ≤ 8 ∧ 1 ≤ wid W ∧ wid W ≤ 65536 ∧ 1 ≤ after ∧ after ≤ 1099511627776 := of_decide_eq_true HD.out
    have HR := Lib.hid hr'
    clear hr'
    obtain ⟨n', hn'⟩ := Int.eq_ofNat_of_zero_le (show 0 ≤ n by have := HR.out; omega)
    obtain ⟨W', hW'⟩ := Int.eq_ofNat_of_zero_le (show 0 ≤ wid W by have := HR.out; omega)
    rw [hn', hW'] at HD HR
    rw [hn'] at k0
    rw [hW'] at k1
    rw [hn', hW']
    clear hn' hW'
    refine (new_try n' W' after _ (by have := HR.out; omega) (by have := HR.out; omega) (by have := HR.out; omega)).mono ?_; rintro e w4 ⟨rfl, ⟨g, cap, R, hs, hg, hRr⟩, g4⟩
    have j0 : w4.cell? ⟨w.heap.size, 0, none⟩ = some (.int .i64 n') := by rw [g4.cell z2 id]; exact k0
    have j1 : w4.cell? ⟨w.heap.size, 1, none⟩ = some (.int .i64 W') := by rw [g4.cell z2 id]; exact k1
    have j2 : w4.cell? ⟨w.heap.size, 2, none⟩ = some (.int .i64 after) := by rw [g4.cell z2 id]; exact k2
    have f1 : w2.heap.size < w4.heap.size := cell_lt hs.c0
    have f2 : g < w4.heap.size := cell_lt (hs.rows 0 (by have := hs.size; omega))
    have f3 : ∀ i, i < n' → R i < w4.heap.size := fun i hi => cell_lt (hs.cells i hi 0 (by have := hs.size; omega))
    have f4 : ∀ i, i < n' → w2.heap.size ≤ R i := fun i hi => Nat.le_of_lt (hRr i hi)
    have HS := Lib.hid hs
    have G4 := Lib.hid g4
    have F3 := Lib.hid f3
    have F4 := Lib.hid f4
    clear hs g4 f3 f4 hRr k0 k1 k2
    go_wp2_with fail
    refine (right_any _ _ _ _).mono ?_; rintro e w5 ⟨rfl, rfl⟩
    rw [HD.out]
    go_wp2_with fail
    go_loopw [59] (fun i wr => ∃ (k : Nat) (T : Nat → Nat → Int) (A : Int), k ≤ l.length ∧ i = .int .i64 (↑k : Int) ∧ Hid (Pl w2 wr w2.heap.size g cap n' W' R after A T w4.heap.size (w4.heap.size + 1) w2.heap.size k)) (fun i _ => l.length - (intOf i).toNat)
    case atStart => exact ⟨0, fun _ _ => 0, 0, by omega, rfl, HS.out.chg ((Chg.refl (fun _ => False) _).alloc _) id id (fun _ _ => id),
      ⟨.slice none 0 0, .slice none 0 0, [], [], ⟨by go_simp, by go_simp, by go_simp, by go_simp, by go_simp, by go_simp, by intro o; go_simp, World.ownsRow_nil _ _ _ _, World.ownsRow_nil _ _ _ _, by intro c h; simp [Value.ownBlock] at h, by omega, by simp⟩, rfl, by simp, fun _ _ _ _ => rfl, (by intro t h; simp at h), by intro c h; simp [Value.ownBlock] at h⟩,
      fun _ _ => by omega, by omega, ⟨f1, f2, F3.out, Nat.le_refl _, F4.out, by omega⟩, (G4.out.mono (fun _ _ h => h.elim)).alloc _⟩
    case round =>
      obtain ⟨k, T, A, hk1, rfl, HP⟩ := hrel
      by_cases hlt : k < l.length
      rotate_left
      · obtain rfl : k = l.length := by omega
        go_wp2_with fail
        refine (awake_any _).mono ?_; rintro e w6 ⟨rfl, g6⟩
        go_wp2_with fail
        go_ret
        exact ⟨rfl, Chg.below ((c2.trans HP.out.chg (fun c hc h => absurd h (by omega))).trans g6 (fun _ _ h => h))⟩
      · obtain ⟨lb, lo, rfl, hlb, hc⟩ := HC.out (by omega)
        obtain ⟨⟨kd, key⟩, hx⟩ : ∃ x, l[k]? = some x := ⟨_, List.getElem?_eq_getElem hlt⟩
        have kc := hc k _ hx
        have e0 : wr.cell? ⟨lb, lo + k * 2, none⟩ = some (.int .u8 kd) := by rw [HP.out.chg.cell (by omega) (by omega), c2.cell hlb id]; exact kc.1
        have e1 : wr.cell? ⟨lb, lo + k * 2 + 1, none⟩ = some (.int .u64 key) := by rw [HP.out.chg.cell (by omega) (by omega), c2.cell hlb id]; exact kc.2
        have HX := Lib.hid (HWF.out _ (List.mem_of_getElem? hx))
        have hA := HP.out.ab
        have hAB2 : 0 ≤ A ∧ A ≤ 4611686018427387904 := by omega
        have zB := HP.out.rf.pb
        clear kc hc hx
        by_cases q0 : kd.tmod 3 = 0
        · have b0 : (kd.tmod 3 == 0) = true := by simp [q0]
          clear q0
          go_wp2_with fail
          refine name_calls ?_; intro W5 h5
          have HP5 : Hid (Pl w2 W5 w2.heap.size g cap n' W' R after A T w4.heap.size (w4.heap.size + 1) w2.heap.size k) := by subst h5; exact HP.out.keep (by repeat (first | with_reducible exact Chg.refl _ _ | with_reducible assumption | with_reducible refine Chg.drewN ?_ _ | with_reducible refine Chg.drew ?_ | with_reducible refine Chg.alloc ?_ _ | with_reducible refine Chg.setCell ?_ (by first | (left; rfl) | (right; exact Nat.le_refl _) | (right; simp; done) | (right; omega) | (right; simp at *; omega) | (simp at *; omega)) _ | with_reducible refine Chg.trans ?_ (by with_reducible assumption) (by intro i hi hT; first | exact hT | exact False.elim hT | omega | (simp at *; omega))))
          have U5 : Hid (RfT W5 w4.heap.size n' W' after A T (w4.heap.size + 1) (fun c => c < wr.heap.size) (8 * k) (8 * k)) := by subst h5; exact HP.out.rf.chg (S := fun _ => False) (by repeat (first | with_reducible exact Chg.refl _ _ | with_reducible assumption | with_reducible refine Chg.drewN ?_ _ | with_reducible refine Chg.drew ?_ | with_reducible refine Chg.alloc ?_ _ | with_reducible refine Chg.setCell ?_ (by first | (left; rfl) | (right; exact Nat.le_refl _) | (right; simp; done) | (right; omega) | (right; simp at *; omega) | (simp at *; omega)) _ | with_reducible refine Chg.trans ?_ (by with_reducible assumption) (by intro i hi hT; first | exact hT | exact False.elim hT | omega | (simp at *; omega)))) id (fun _ _ => id)
          have x5 : W5.cell? ⟨wr.heap.size, 1, none⟩ = some (.int .u64 key) := by subst h5; go_simp
          have z5 : wr.heap.size < W5.heap.size := by subst h5; simp
          clear h5
          have hAB := HP5.out.ab
          have nsk := HP5.out.nsk
          refine (add_rows _ _ _ _ _ _ _ _ _ key _ HP5.out.sk HX.out.2 (fun i j => by have := HP5.out.tb i j; omega) (by omega)).mono ?_; rintro e w6 ⟨rfl, hs, hc⟩
          have r6 := U5.out.chg hc nsk.1 nsk.2
          have x6 : w6.cell? ⟨wr.heap.size, 1, none⟩ = some (.int .u64 key) := by rw [hc.cell z5 (nsk.2 _ zB)]; exact x5
          have z6 := hc.size
          have HS6 := Lib.hid hs
          have HC6 := Lib.hid hc
          have R6 := Lib.hid r6
          clear hs hc r6 nsk x5
          go_wp2_with fail
          refine (radd_any _ _ _ _ _ _ _ _ _ _ _ key R6.out (by have := HR.out; omega) (by have := HR.out; omega) HX.out.2 (by omega) (by omega) hAB2).mono ?_; rintro e w7 ⟨rfl, hr, hc7⟩
          have x7 : w7.cell? ⟨wr.heap.size, 1, none⟩ = some (.int .u64 key) := by
            rw [hc7.cell (by omega) (by rintro (h | h) <;> omega)]; exact x6
          have z7 := hc7.size
          by_cases he : A + 1 = after
          · have hs := HS6.out
            rw [if_pos he] at hs hr
            have HP7 := Lib.hid (HP5.out.turn HC6.out hs hc7 (hr.weak (by have := HR.out; omega) (by have := HR.out; omega) (fun _ h => h)) (halve_bd (bump_bd HP5.out.tb W' key n')) (by omega))
            clear hs hr hc7 hAB hAB2 he x6
            go_wp2_with fail
            refine name_region ?_; intro V hV
            have HV : Hid (Pl w2 V w2.heap.size g cap n' W' R after 0 (halve (bump T W' key n')) w4.heap.size (w4.heap.size + 1) w2.heap.size (k + 1)) := by subst hV; exact HP7.out
            have xV : V.cell? ⟨wr.heap.size, 1, none⟩ = some (.int .u64 key) := by subst hV; exact x7
            have zV : wr.heap.size < V.heap.size := by subst hV; omega
            clear hV
            have a3 := HV.out.rf.c3
            have zp : w4.heap.size < V.heap.size := cell_lt a3
            have TB1 : Hid (∀ i j, 0 ≤ (halve (bump T W' key n')) i j ∧ (halve (bump T W' key n')) i j ≤ 9223372036854775807) := fun i j => by have := HV.out.tb i j; omega
            have TB0 : Hid (∀ i j, 0 ≤ (halve (bump T W' key n')) i j) := fun i j => (HV.out.tb i j).1
            obtain ⟨y, hy⟩ : ∃ y, y = leastF (halve (bump T W' key n')) W' key n' := ⟨_, rfl⟩
            have HY := Lib.hid hy
            clear hy
            have q1 : ∀ {d os}, Calls Try.prog 17 #[.pointer (some ⟨w2.heap.size, 0, none⟩), .int .u64 key] (Go.Sort.grow (redrawn V d) os) (Quiet (.int .i64 y) (Go.Sort.grow (redrawn V d) os)) := by
              intro d os; rw [HY.out]; exact count_any _ _ _ _ _ _ _ _ _ key _ (sk_re HV.out.sk) HX.out.2 TB1.out
            have q2 : ∀ {d os}, Calls Try.prog 18 #[.pointer (some ⟨w4.heap.size, 0, none⟩), .int .u64 key] (Go.Sort.grow (redrawn V d) os) fun e w' => e = .returned (.int .i64 y) ∧ (Go.Sort.grow (redrawn V d) os) = w' := by
              intro d os; rw [HY.out]; exact rcount_any _ _ _ _ _ _ _ _ _ _ _ key (rf_re HV.out.rf) (by have := HR.out; omega) (by have := HR.out; omega) HX.out.2 (by omega) (by omega) TB0.out
            (have hN : V.heap.size ≤ (World.heap V).size := by first | assumption | exact Nat.le_refl _ | (simp; done) | omega | (simp; omega) | (simp at *; omega)); (have kr := fun d os b o (h : b < V.heap.size) => (below_regrown V d os).cell (p := ⟨b, o, none⟩) (Nat.lt_of_lt_of_le h hN)); (refine wp_region_quiet_below (by kernel_rfl) (by kernel_rfl) ?_); (repeat (first | go_big_quiet_step ((first | (go_at_call 17; exact Calls.regrown_of (quiet_below (q1))) | (go_at_call 18; exact Calls.regrown_of (same_below (q2))) | (go_at_call 19; exact Calls.regrown_of (same_below (adds_any _ _ _ _ _ _ _ _ _ _ (sk_re HV.out.sk)))))) | quiet_step ((first | (go_at_call 17; exact Calls.regrown_of (quiet_below (q1))) | (go_at_call 18; exact Calls.regrown_of (same_below (q2))) | (go_at_call 19; exact Calls.regrown_of (same_below (adds_any _ _ _ _ _ _ _ _ _ _ (sk_re HV.out.sk)))))))); (refine wpQuiet_nil ?_); (intro w9 hw9); (obtain ⟨⟨dq, osq⟩, hw9⟩ := hw9); (have g9 := below_regrown V dq osq); (rw [← hw9] at g9); (have g9 : Below (V.heap.size) _ w9 := g9.mono hN); (have z9 : V.heap.size ≤ w9.heap.size := Nat.le_trans hN g9.size); (have c9 := fun b o h => g9.cell (p := ⟨b, o, none⟩) h); (have f9 := fun b o h => g9.frozen (p := ⟨b, o, none⟩) h); (clear hw9 kr hN g9)
            have HW := Lib.hid (HV.out.keep (Chg.ofBelow g9))
            go_wp2_with fail
            go_roundw
            case rel => exact ⟨k + 1, _, _, by omega, by go_num, HW.out⟩
            case measure => simp [intOf]; omega
          · have hs := HS6.out
            rw [if_neg he] at hs hr
            have HP7 := Lib.hid (HP5.out.turn HC6.out hs hc7 (hr.weak (by have := HR.out; omega) (by have := HR.out; omega) (fun _ h => h)) (bump_bd HP5.out.tb W' key n') (by omega))
            clear hs hr hc7 hAB hAB2 he x6
            go_wp2_with fail
            refine name_region ?_; intro V hV
            have HV : Hid (Pl w2 V w2.heap.size g cap n' W' R after (A + 1) (bump T W' key n') w4.heap.size (w4.heap.size + 1) w2.heap.size (k + 1)) := by subst hV; exact HP7.out
            have xV : V.cell? ⟨wr.heap.size, 1, none⟩ = some (.int .u64 key) := by subst hV; exact x7
            have zV : wr.heap.size < V.heap.size := by subst hV; omega
            clear hV
            have a3 := HV.out.rf.c3
            have zp : w4.heap.size < V.heap.size := cell_lt a3
            have TB1 : Hid (∀ i j, 0 ≤ (bump T W' key n') i j ∧ (bump T W' key n') i j ≤ 9223372036854775807) := fun i j => by have := HV.out.tb i j; omega
            have TB0 : Hid (∀ i j, 0 ≤ (bump T W' key n') i j) := fun i j => (HV.out.tb i j).1
            obtain ⟨y, hy⟩ : ∃ y, y = leastF (bump T W' key n') W' key n' := ⟨_, rfl⟩
            have HY := Lib.hid hy
            clear hy
            have q1 : ∀ {d os}, Calls Try.prog 17 #[.pointer (some ⟨w2.heap.size, 0, none⟩), .int .u64 key] (Go.Sort.grow (redrawn V d) os) (Quiet (.int .i64 y) (Go.Sort.grow (redrawn V d) os)) := by
              intro d os; rw [HY.out]; exact count_any _ _ _ _ _ _ _ _ _ key _ (sk_re HV.out.sk) HX.out.2 TB1.out
            have q2 : ∀ {d os}, Calls Try.prog 18 #[.pointer (some ⟨w4.heap.size, 0, none⟩), .int .u64 key] (Go.Sort.grow (redrawn V d) os) fun e w' => e = .returned (.int .i64 y) ∧ (Go.Sort.grow (redrawn V d) os) = w' := by
              intro d os; rw [HY.out]; exact rcount_any _ _ _ _ _ _ _ _ _ _ _ key (rf_re HV.out.rf) (by have := HR.out; omega) (by have := HR.out; omega) HX.out.2 (by omega) (by omega) TB0.out
            (have hN : V.heap.size ≤ (World.heap V).size := by first | assumption | exact Nat.le_refl _ | (simp; done) | omega | (simp; omega) | (simp at *; omega)); (have kr := fun d os b o (h : b < V.heap.size) => (below_regrown V d os).cell (p := ⟨b, o, none⟩) (Nat.lt_of_lt_of_le h hN)); (refine wp_region_quiet_below (by kernel_rfl) (by kernel_rfl) ?_); (repeat (first | go_big_quiet_step ((first | (go_at_call 17; exact Calls.regrown_of (quiet_below (q1))) | (go_at_call 18; exact Calls.regrown_of (same_below (q2))) | (go_at_call 19; exact Calls.regrown_of (same_below (adds_any _ _ _ _ _ _ _ _ _ _ (sk_re HV.out.sk)))))) | quiet_step ((first | (go_at_call 17; exact Calls.regrown_of (quiet_below (q1))) | (go_at_call 18; exact Calls.regrown_of (same_below (q2))) | (go_at_call 19; exact Calls.regrown_of (same_below (adds_any _ _ _ _ _ _ _ _ _ _ (sk_re HV.out.sk)))))))); (refine wpQuiet_nil ?_); (intro w9 hw9); (obtain ⟨⟨dq, osq⟩, hw9⟩ := hw9); (have g9 := below_regrown V dq osq); (rw [← hw9] at g9); (have g9 : Below (V.heap.size) _ w9 := g9.mono hN); (have z9 : V.heap.size ≤ w9.heap.size := Nat.le_trans hN g9.size); (have c9 := fun b o h => g9.cell (p := ⟨b, o, none⟩) h); (have f9 := fun b o h => g9.frozen (p := ⟨b, o, none⟩) h); (clear hw9 kr hN g9)
            have HW := Lib.hid (HV.out.keep (Chg.ofBelow g9))
            go_wp2_with fail
            go_roundw
            case rel => exact ⟨k + 1, _, _, by omega, by go_num, HW.out⟩
            case measure => simp [intOf]; omega
        by_cases q1 : kd.tmod 3 = 1
        · have b0 : (kd.tmod 3 == 0) = false := by simp [q1]
          have b1 : (kd.tmod 3 == 1) = true := by simp [q1]
          clear q0 q1
          go_wp2_with fail
          refine name_calls ?_; intro W5 h5
          have HP5 : Hid (Pl w2 W5 w2.heap.size g cap n' W' R after A T w4.heap.size (w4.heap.size + 1) w2.heap.size k) := by subst h5; exact HP.out.keep (by repeat (first | with_reducible exact Chg.refl _ _ | with_reducible assumption | with_reducible refine Chg.drewN ?_ _ | with_reducible refine Chg.drew ?_ | with_reducible refine Chg.alloc ?_ _ | with_reducible refine Chg.setCell ?_ (by first | (left; rfl) | (right; exact Nat.le_refl _) | (right; simp; done) | (right; omega) | (right; simp at *; omega) | (simp at *; omega)) _ | with_reducible refine Chg.trans ?_ (by with_reducible assumption) (by intro i hi hT; first | exact hT | exact False.elim hT | omega | (simp at *; omega))))
          have U5 : Hid (RfT W5 w4.heap.size n' W' after A T (w4.heap.size + 1) (fun c => c < wr.heap.size) (8 * k) (8 * k)) := by subst h5; exact HP.out.rf.chg (S := fun _ => False) (by repeat (first | with_reducible exact Chg.refl _ _ | with_reducible assumption | with_reducible refine Chg.drewN ?_ _ | with_reducible refine Chg.drew ?_ | with_reducible refine Chg.alloc ?_ _ | with_reducible refine Chg.setCell ?_ (by first | (left; rfl) | (right; exact Nat.le_refl _) | (right; simp; done) | (right; omega) | (right; simp at *; omega) | (simp at *; omega)) _ | with_reducible refine Chg.trans ?_ (by with_reducible assumption) (by intro i hi hT; first | exact hT | exact False.elim hT | omega | (simp at *; omega)))) id (fun _ _ => id)
          have x5 : W5.cell? ⟨wr.heap.size, 1, none⟩ = some (.int .u64 key) := by subst h5; go_simp
          have z5 : wr.heap.size < W5.heap.size := by subst h5; simp
          clear h5
          have nsk := HP5.out.nsk
          refine (age_any _ _ _ _ _ _ _ _ _ _ HP5.out.sk (fun i j => by have := HP5.out.tb i j; omega)).mono ?_; rintro e w6 ⟨rfl, hs, hc⟩
          have r6 := U5.out.chg hc nsk.1 nsk.2
          have x6 : w6.cell? ⟨wr.heap.size, 1, none⟩ = some (.int .u64 key) := by rw [hc.cell z5 (nsk.2 _ zB)]; exact x5
          have z6 := hc.size
          have HS6 := Lib.hid hs
          have HC6 := Lib.hid hc
          have R6 := Lib.hid r6
          clear hs hc r6 nsk x5
          go_wp2_with fail
          refine (rageT_any _ _ _ _ _ _ _ _ _ _ _ R6.out (by omega) (by omega)).mono ?_; rintro e w7 ⟨rfl, hr, hc7⟩
          have x7 : w7.cell? ⟨wr.heap.size, 1, none⟩ = some (.int .u64 key) := by
            rw [hc7.cell (by omega) (by rintro (h | h) <;> omega)]; exact x6
          have z7 := hc7.size
          have HP7 := Lib.hid (HP5.out.turn HC6.out HS6.out hc7 (hr.weak (by omega) (by omega) (fun _ h => h)) (fun i j => by have := halve_bd HP5.out.tb i j; omega) (by omega))
          clear hr hc7 x6
          go_wp2_with fail
          refine name_region ?_; intro V hV
          have HV : Hid (Pl w2 V w2.heap.size g cap n' W' R after 0 (halve T) w4.heap.size (w4.heap.size + 1) w2.heap.size (k + 1)) := by subst hV; exact HP7.out
          have xV : V.cell? ⟨wr.heap.size, 1, none⟩ = some (.int .u64 key) := by subst hV; exact x7
          have zV : wr.heap.size < V.heap.size := by subst hV; omega
          clear hV
          have a3 := HV.out.rf.c3
          have zp : w4.heap.size < V.heap.size := cell_lt a3
          have TB1 : Hid (∀ i j, 0 ≤ (halve T) i j ∧ (halve T) i j ≤ 9223372036854775807) := fun i j => by have := HV.out.tb i j; omega
          have TB0 : Hid (∀ i j, 0 ≤ (halve T) i j) := fun i j => (HV.out.tb i j).1
          obtain ⟨y, hy⟩ : ∃ y, y = leastF (halve T) W' key n' := ⟨_, rfl⟩
          have HY := Lib.hid hy
          clear hy
          have q1 : ∀ {d os}, Calls Try.prog 17 #[.pointer (some ⟨w2.heap.size, 0, none⟩), .int .u64 key] (Go.Sort.grow (redrawn V d) os) (Quiet (.int .i64 y) (Go.Sort.grow (redrawn V d) os)) := by
            intro d os; rw [HY.out]; exact count_any _ _ _ _ _ _ _ _ _ key _ (sk_re HV.out.sk) HX.out.2 TB1.out
          have q2 : ∀ {d os}, Calls Try.prog 18 #[.pointer (some ⟨w4.heap.size, 0, none⟩), .int .u64 key] (Go.Sort.grow (redrawn V d) os) fun e w' => e = .returned (.int .i64 y) ∧ (Go.Sort.grow (redrawn V d) os) = w' := by
            intro d os; rw [HY.out]; exact rcount_any _ _ _ _ _ _ _ _ _ _ _ key (rf_re HV.out.rf) (by have := HR.out; omega) (by have := HR.out; omega) HX.out.2 (by omega) (by omega) TB0.out
          (have hN : V.heap.size ≤ (World.heap V).size := by first | assumption | exact Nat.le_refl _ | (simp; done) | omega | (simp; omega) | (simp at *; omega)); (have kr := fun d os b o (h : b < V.heap.size) => (below_regrown V d os).cell (p := ⟨b, o, none⟩) (Nat.lt_of_lt_of_le h hN)); (refine wp_region_quiet_below (by kernel_rfl) (by kernel_rfl) ?_); (repeat (first | go_big_quiet_step ((first | (go_at_call 17; exact Calls.regrown_of (quiet_below (q1))) | (go_at_call 18; exact Calls.regrown_of (same_below (q2))) | (go_at_call 19; exact Calls.regrown_of (same_below (adds_any _ _ _ _ _ _ _ _ _ _ (sk_re HV.out.sk)))))) | quiet_step ((first | (go_at_call 17; exact Calls.regrown_of (quiet_below (q1))) | (go_at_call 18; exact Calls.regrown_of (same_below (q2))) | (go_at_call 19; exact Calls.regrown_of (same_below (adds_any _ _ _ _ _ _ _ _ _ _ (sk_re HV.out.sk)))))))); (refine wpQuiet_nil ?_); (intro w9 hw9); (obtain ⟨⟨dq, osq⟩, hw9⟩ := hw9); (have g9 := below_regrown V dq osq); (rw [← hw9] at g9); (have g9 : Below (V.heap.size) _ w9 := g9.mono hN); (have z9 : V.heap.size ≤ w9.heap.size := Nat.le_trans hN g9.size); (have c9 := fun b o h => g9.cell (p := ⟨b, o, none⟩) h); (have f9 := fun b o h => g9.frozen (p := ⟨b, o, none⟩) h); (clear hw9 kr hN g9)
          have HW := Lib.hid (HV.out.keep (Chg.ofBelow g9))
          go_wp2_with fail
          go_roundw
          case rel => exact ⟨k + 1, _, _, by omega, by go_num, HW.out⟩
          case measure => simp [intOf]; omega
        · have b0 : (kd.tmod 3 == 0) = false := by simpa using q0
          have b1 : (kd.tmod 3 == 1) = false := by simpa using q1
          clear q0 q1
          go_wp2_with fail
          refine name_region ?_; intro V hV
          have HV : Hid (Pl w2 V w2.heap.size g cap n' W' R after A (T) w4.heap.size (w4.heap.size + 1) w2.heap.size (k + 1)) := by subst hV; exact (HP.out.keep (by repeat (first | with_reducible exact Chg.refl _ _ | with_reducible assumption | with_reducible refine Chg.drewN ?_ _ | with_reducible refine Chg.drew ?_ | with_reducible refine Chg.alloc ?_ _ | with_reducible refine Chg.setCell ?_ (by first | (left; rfl) | (right; exact Nat.le_refl _) | (right; simp; done) | (right; omega) | (right; simp at *; omega) | (simp at *; omega)) _ | with_reducible refine Chg.trans ?_ (by with_reducible assumption) (by intro i hi hT; first | exact hT | exact False.elim hT | omega | (simp at *; omega))))).next
          have xV : V.cell? ⟨wr.heap.size, 1, none⟩ = some (.int .u64 key) := by subst hV; go_simp
          have zV : wr.heap.size < V.heap.size := by subst hV; simp
          clear hV
          have a3 := HV.out.rf.c3
          have zp : w4.heap.size < V.heap.size := cell_lt a3
          have TB1 : Hid (∀ i j, 0 ≤ (T) i j ∧ (T) i j ≤ 9223372036854775807) := fun i j => by have := HV.out.tb i j; omega
          have TB0 : Hid (∀ i j, 0 ≤ (T) i j) := fun i j => (HV.out.tb i j).1
          obtain ⟨y, hy⟩ : ∃ y, y = leastF (T) W' key n' := ⟨_, rfl⟩
          have HY := Lib.hid hy
          clear hy
          have q1 : ∀ {d os}, Calls Try.prog 17 #[.pointer (some ⟨w2.heap.size, 0, none⟩), .int .u64 key] (Go.Sort.grow (redrawn V d) os) (Quiet (.int .i64 y) (Go.Sort.grow (redrawn V d) os)) := by
            intro d os; rw [HY.out]; exact count_any _ _ _ _ _ _ _ _ _ key _ (sk_re HV.out.sk) HX.out.2 TB1.out
          have q2 : ∀ {d os}, Calls Try.prog 18 #[.pointer (some ⟨w4.heap.size, 0, none⟩), .int .u64 key] (Go.Sort.grow (redrawn V d) os) fun e w' => e = .returned (.int .i64 y) ∧ (Go.Sort.grow (redrawn V d) os) = w' := by
            intro d os; rw [HY.out]; exact rcount_any _ _ _ _ _ _ _ _ _ _ _ key (rf_re HV.out.rf) (by have := HR.out; omega) (by have := HR.out; omega) HX.out.2 (by omega) (by omega) TB0.out
          (have hN : V.heap.size ≤ (World.heap V).size := by first | assumption | exact Nat.le_refl _ | (simp; done) | omega | (simp; omega) | (simp at *; omega)); (have kr := fun d os b o (h : b < V.heap.size) => (below_regrown V d os).cell (p := ⟨b, o, none⟩) (Nat.lt_of_lt_of_le h hN)); (refine wp_region_quiet_below (by kernel_rfl) (by kernel_rfl) ?_); (repeat (first | go_big_quiet_step ((first | (go_at_call 17; exact Calls.regrown_of (quiet_below (q1))) | (go_at_call 18; exact Calls.regrown_of (same_below (q2))) | (go_at_call 19; exact Calls.regrown_of (same_below (adds_any _ _ _ _ _ _ _ _ _ _ (sk_re HV.out.sk)))))) | quiet_step ((first | (go_at_call 17; exact Calls.regrown_of (quiet_below (q1))) | (go_at_call 18; exact Calls.regrown_of (same_below (q2))) | (go_at_call 19; exact Calls.regrown_of (same_below (adds_any _ _ _ _ _ _ _ _ _ _ (sk_re HV.out.sk)))))))); (refine wpQuiet_nil ?_); (intro w9 hw9); (obtain ⟨⟨dq, osq⟩, hw9⟩ := hw9); (have g9 := below_regrown V dq osq); (rw [← hw9] at g9); (have g9 : Below (V.heap.size) _ w9 := g9.mono hN); (have z9 : V.heap.size ≤ w9.heap.size := Nat.le_trans hN g9.size); (have c9 := fun b o h => g9.cell (p := ⟨b, o, none⟩) h); (have f9 := fun b o h => g9.frozen (p := ⟨b, o, none⟩) h); (clear hw9 kr hN g9)
          have HW := Lib.hid (HV.out.keep (Chg.ofBelow g9))
          go_wp2_with fail
          go_roundw
          case rel => exact ⟨k + 1, _, _, by omega, by go_num, HW.out⟩
          case measure => simp [intOf]; omega
end Go.Proofs.Ytmkgmofkfgfdhaa
