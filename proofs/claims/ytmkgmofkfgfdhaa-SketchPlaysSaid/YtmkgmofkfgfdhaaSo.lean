/- Law of sketch: Order. -/
import Derived.Test.YtmkgmofkfgfdhaaSm
namespace Go.Proofs.Ytmkgmofkfgfdhaa
set_option linter.unusedVariables false
open Go.RowKit

/-- The counters behind a list of keys, one after the other. -/
def tab (n W : Nat) (l : List Int) : Nat → Nat → Int := fun i j => if i < n then ((l.filter fun k => mixF k i W == j).length : Int) else 0
theorem tab_nil (n W : Nat) : tab n W [] = fun _ _ => 0 := by funext i j; simp [tab]
theorem bump_tab (n W : Nat) (l : List Int) (key : Int) : bump (tab n W l) W key n = tab n W (l ++ [key]) := by
  funext i j
  unfold bump tab
  by_cases hi : i < n
  · simp only [hi, if_true, List.filter_append, List.length_append]
    by_cases hj : j = mixF key i W
    · simp [hj]
    · have : ¬ mixF key i W = j := fun e => hj e.symm
      simp [hj, this]
  · simp [hi]
theorem tab_perm (n W : Nat) {l l' : List Int} (h : l.Perm l') : tab n W l = tab n W l' := by
  funext i j
  unfold tab
  rw [(h.filter _).length_eq]
theorem tab_bd (n W : Nat) (l : List Int) (h : l.length ≤ 1000) (i j : Nat) : 0 ≤ tab n W l i j ∧ tab n W l i j ≤ 4611686018427387904 := by
  unfold tab
  have := List.length_filter_le (fun k => mixF k i W == j) l
  split <;> omega

theorem turn_perm (l : List Int) (t : Nat) : ((List.range l.length).map fun i => l.getD ((l.length - 1 - i + t) % l.length) 0).Perm l := by
  by_cases h0 : l.length = 0
  · have : l = [] := List.eq_nil_of_length_eq_zero h0
    subst this; simp
  have hp : 0 < l.length := by omega
  have e1 : ((List.range l.length).map fun i => l.getD ((l.length - 1 - i + t) % l.length) 0) = ((List.range l.length).map fun i => l.getD ((i + t) % l.length) 0).reverse := by
    apply List.ext_getElem
    · simp
    · intro i h1 h2
      simp at h1
      simp [List.getElem_reverse]
  rw [e1]
  refine (List.reverse_perm _).trans ?_
  have ht : t % l.length < l.length := Nat.mod_lt _ hp
  have e2 : ((List.range l.length).map fun i => l.getD ((i + t) % l.length) 0) = l.drop (t % l.length) ++ l.take (t % l.length) := by
    apply List.ext_getElem
    · simp; omega
    · intro i h1 h2
      simp at h1
      have em : (i + t) % l.length = if i + t % l.length < l.length then i + t % l.length else i + t % l.length - l.length := by
        rw [Nat.add_mod, Nat.mod_eq_of_lt h1]
        split
        · rename_i h; exact Nat.mod_eq_of_lt h
        · rename_i h
          rw [Nat.mod_eq_sub_mod (by omega)]
          exact Nat.mod_eq_of_lt (by omega)
      simp only [List.getElem_map, List.getElem_range]
      rw [em]
      by_cases hc : i + t % l.length < l.length
      · rw [if_pos hc, List.getElem_append_left (by simp; omega)]
        simp [List.getD, hc, Nat.add_comm]
      · rw [if_neg hc, List.getElem_append_right (by simp; omega)]
        have hq : i + t % l.length - l.length < l.length := by omega
        simp [List.getD, hq]
        congr 1
        omega
  rw [e2]
  exact List.perm_append_comm.trans (by rw [List.take_append_drop])

/-- The keys as the second sketch is told them. -/
def turned (l : List Int) (t : Nat) : List Int := (List.range l.length).map fun i => l.getD ((l.length - 1 - i + t) % l.length) 0
theorem turned_len (l : List Int) (t : Nat) : (turned l t).length = l.length := by simp [turned]
theorem turned_at (l : List Int) (t k : Nat) (h : k < l.length) : (turned l t)[k]? = some (l.getD ((l.length - 1 - k + t) % l.length) 0) := by simp [turned, h]
theorem take_at {l : List Int} {k : Nat} {x : Int} (h : l[k]? = some x) : l.take (k + 1) = l.take k ++ [x] := by
  rw [List.take_add_one, h]; rfl
theorem mem_at {l : List Int} {k : Nat} {x : Int} (h : l[k]? = some x) : x ∈ l := List.mem_of_getElem? h

theorem two_tr {w a b : World} {B b0 n : Nat} {R : Nat → Nat} (h1 : Chg (fun c => B ≤ c) w a) (h2 : Chg (SkS b0 n R) a b) (hb : B ≤ b0) (hR : ∀ i, i < n → B ≤ R i) : Chg (fun c => B ≤ c) w b := tr_own h1 h2 hb hR

set_option maxHeartbeats 2000000 in
theorem sketchOrder_any (n W after : Int) (v : Value) (keys : List Int) (t : Int) (w : World) (wn : (Lit.int .i64 n).wf = true) (wW : (Lit.int .i64 W).wf = true) (wa : (Lit.int .i64 after).wf = true) (hv : IsL1 .u64 w v keys) (ht : 0 ≤ t ∧ t ≤ 255) :
    Calls Try.prog 7 #[.agg #[.int .i64 n, .int .i64 W, .int .i64 after], v, .int .u8 t] w fun e w' => e = .returned (.bool true) ∧ Below w.heap.size w w' := by
  obtain ⟨hwf, sa, scap, rfl, hlen, hcells⟩ := hv
  have HWF : Hid (∀ x ∈ keys, 0 ≤ x ∧ x ≤ 18446744073709551615) := fun x hx => wfU64 (hwf x hx)
  have HC := Lib.hid hcells
  clear hwf hcells
  obtain ⟨t', rfl⟩ := Int.eq_ofNat_of_zero_le ht.1
  by_cases h60 : 60 < keys.length
  · go_enter Try.func7, Try.ntmps7
    go_wp2_with fail
    refine (held_any _ _ _ _).mono ?_; rintro e w1 ⟨rfl, b1⟩
    have g1 := Chg.ofBelow (S := fun _ => False) b1
    have z1 : w.heap.size < w1.heap.size := by have := g1.size; simp at this; exact this
    have c1 : ∀ o, w1.cell? ⟨w.heap.size, o, none⟩ = _ := fun o => g1.cell (b := w.heap.size) (by simp) id o
    have f1 : ∀ o, w1.frozen? ⟨w.heap.size, o, none⟩ = _ := fun o => g1.frozen (b := w.heap.size) (by simp) id o
    clear b1
    go_wp2_with fail
    refine (awake_any _).mono ?_; rintro e w4 ⟨rfl, g4⟩
    go_wp2_with fail
    go_ret
    exact ⟨rfl, Chg.below (by repeat (first | with_reducible exact Chg.refl _ _ | with_reducible assumption | with_reducible refine Chg.drewN ?_ _ | with_reducible refine Chg.drew ?_ | with_reducible refine Chg.alloc ?_ _ | with_reducible refine Chg.setCell ?_ (by first | (left; rfl) | (right; exact Nat.le_refl _) | (right; simp; done) | (right; omega) | (right; simp at *; omega) | (simp at *; omega)) _ | with_reducible refine Chg.trans ?_ (by with_reducible assumption) (by intro i hi hT; first | exact hT | exact False.elim hT | omega | (simp at *; omega))))⟩
  cases hr : decide (1 ≤ n ∧ n ≤ 8 ∧ 1 ≤ wid W ∧ wid W ≤ 65536 ∧ 1 ≤ after ∧ after ≤ 1099511627776)
  · have HD := Lib.hid hr
    clear hr
    go_enter Try.func7, Try.ntmps7
    go_wp2_with fail
    refine (held_any _ _ _ _).mono ?_; rintro e w1 ⟨rfl, b1⟩
    have g1 := Chg.ofBelow (S := fun _ => False) b1
    have z1 : w.heap.size < w1.heap.size := by have := g1.size; simp at this; exact this
    have c1 : ∀ o, w1.cell? ⟨w.heap.size, o, none⟩ = _ := fun o => g1.cell (b := w.heap.size) (by simp) id o
    have f1 : ∀ o, w1.frozen? ⟨w.heap.size, o, none⟩ = _ := fun o => g1.frozen (b := w.heap.size) (by simp) id o
    clear b1
    go_wp2_with fail
    refine name_calls ?_; intro w2 hw2
    have c2 : Chg (fun _ => False) w w2 := by subst hw2; exact (by repeat (first | with_reducible exact Chg.refl _ _ | with_reducible assumption | with_reducible refine Chg.drewN ?_ _ | with_reducible refine Chg.drew ?_ | with_reducible refine Chg.alloc ?_ _ | with_reducible refine Chg.setCell ?_ (by first | (left; rfl) | (right; exact Nat.le_refl _) | (right; simp; done) | (right; omega) | (right; simp at *; omega) | (simp at *; omega)) _ | with_reducible refine Chg.trans ?_ (by with_reducible assumption) (by intro i hi hT; first | exact hT | exact False.elim hT | omega | (simp at *; omega))))
    clear hw2
    refine (right_any _ _ _ _).mono ?_; rintro e w3 ⟨rfl, rfl⟩
    rw [HD.out]
    go_wp2_with fail
    refine (awake_any _).mono ?_; rintro e w4 ⟨rfl, g4⟩
    go_wp2_with fail
    go_ret
    exact ⟨rfl, Chg.below (by repeat (first | with_reducible exact Chg.refl _ _ | with_reducible assumption | with_reducible refine Chg.drewN ?_ _ | with_reducible refine Chg.drew ?_ | with_reducible refine Chg.alloc ?_ _ | with_reducible refine Chg.setCell ?_ (by first | (left; rfl) | (right; exact Nat.le_refl _) | (right; simp; done) | (right; omega) | (right; simp at *; omega) | (simp at *; omega)) _ | with_reducible refine Chg.trans ?_ (by with_reducible assumption) (by intro i hi hT; first | exact hT | exact False.elim hT | omega | (simp at *; omega))))⟩
  · have hr' : 1 ≤ n ∧ n ≤ 8 ∧ 1 ≤ wid W ∧ wid W ≤ 65536 ∧ 1 ≤ after ∧ after ≤ 1099511627776 := of_decide_eq_true hr
    have HD := Lib.hid hr
    have HR := Lib.hid hr'
    clear hr hr'
    by_cases ha60 : after ≤ 60
    all_goals
      go_enter Try.func7, Try.ntmps7
      go_wp2_with fail
      refine (held_any _ _ _ _).mono ?_; rintro e w1 ⟨rfl, b1⟩
      have g1 := Chg.ofBelow (S := fun _ => False) b1
      have z1 : w.heap.size < w1.heap.size := by have := g1.size; simp at this; exact this
      have c1 : ∀ o, w1.cell? ⟨w.heap.size, o, none⟩ = _ := fun o => g1.cell (b := w.heap.size) (by simp) id o
      have f1 : ∀ o, w1.frozen? ⟨w.heap.size, o, none⟩ = _ := fun o => g1.frozen (b := w.heap.size) (by simp) id o
      clear b1
      go_wp2_with fail
      refine name_calls ?_; intro w2 hw2
      have c2 : Chg (fun _ => False) w w2 := by subst hw2; exact (by repeat (first | with_reducible exact Chg.refl _ _ | with_reducible assumption | with_reducible refine Chg.drewN ?_ _ | with_reducible refine Chg.drew ?_ | with_reducible refine Chg.alloc ?_ _ | with_reducible refine Chg.setCell ?_ (by first | (left; rfl) | (right; exact Nat.le_refl _) | (right; simp; done) | (right; omega) | (right; simp at *; omega) | (simp at *; omega)) _ | with_reducible refine Chg.trans ?_ (by with_reducible assumption) (by intro i hi hT; first | exact hT | exact False.elim hT | omega | (simp at *; omega))))
      have z2 : w.heap.size < w2.heap.size := by subst hw2; simp; omega
      have k0 : w2.cell? ⟨w.heap.size, 0, none⟩ = some (.int .i64 n) := by subst hw2; go_simp
      have k1 : w2.cell? ⟨w.heap.size, 1, none⟩ = some (.int .i64 (wid W)) := by subst hw2; go_simp
      have k2 : w2.cell? ⟨w.heap.size, 2, none⟩ = some (.int .i64 after) := by subst hw2; go_simp
      clear hw2 c1 f1
      refine (right_any _ _ _ _).mono ?_; rintro e w3 ⟨rfl, rfl⟩
      rw [HD.out]
    · go_wp2_with fail
      refine (awake_any _).mono ?_; rintro e w4 ⟨rfl, g4⟩
      go_wp2_with fail
      go_ret
      exact ⟨rfl, Chg.below (by repeat (first | with_reducible exact Chg.refl _ _ | with_reducible assumption | with_reducible refine Chg.drewN ?_ _ | with_reducible refine Chg.drew ?_ | with_reducible refine Chg.alloc ?_ _ | with_reducible refine Chg.setCell ?_ (by first | (left; rfl) | (right; exact Nat.le_refl _) | (right; simp; done) | (right; omega) | (right; simp at *; omega) | (simp at *; omega)) _ | with_reducible refine Chg.trans ?_ (by with_reducible assumption) (by intro i hi hT; first | exact hT | exact False.elim hT | omega | (simp at *; omega))))⟩
    · obtain ⟨n', hn'⟩ := Int.eq_ofNat_of_zero_le (show 0 ≤ n by have := HR.out; omega)
      obtain ⟨W', hW'⟩ := Int.eq_ofNat_of_zero_le (show 0 ≤ wid W by have := HR.out; omega)
      rw [hn'] at k0
      rw [hW'] at k1
      have HR2 : Hid (1 ≤ (n' : Int) ∧ (n' : Int) ≤ 8 ∧ 1 ≤ (W' : Int) ∧ (W' : Int) ≤ 65536 ∧ 1 ≤ after ∧ after ≤ 1099511627776) := by have := HR.out; rw [hn', hW'] at this; exact this
      clear hn' hW'
      go_wp2_with fail
      refine (new_try n' W' after _ (by have := HR2.out; omega) (by have := HR2.out; omega) (by have := HR2.out; omega)).mono ?_; rintro e w4 ⟨rfl, ⟨g, cap, R, hs, hg, hRr⟩, g4⟩
      have j0 : w4.cell? ⟨w.heap.size, 0, none⟩ = some (.int .i64 n') := by rw [g4.cell z2 id]; exact k0
      have j1 : w4.cell? ⟨w.heap.size, 1, none⟩ = some (.int .i64 W') := by rw [g4.cell z2 id]; exact k1
      have j2 : w4.cell? ⟨w.heap.size, 2, none⟩ = some (.int .i64 after) := by rw [g4.cell z2 id]; exact k2
      have HS := Lib.hid hs
      have G4 := Lib.hid (c2.trans g4 (fun _ _ h => h))
      clear hs k0 k1 k2
      go_wp2_with fail
      refine (new_try n' W' after _ (by have := HR2.out; omega) (by have := HR2.out; omega) (by have := HR2.out; omega)).mono ?_; rintro e w5 ⟨rfl, ⟨g', cap', R', hs', hg', hRr'⟩, g5⟩
      have hz := HS.out
      have zb : w2.heap.size < w4.heap.size := cell_lt hz.c0
      have zg : g < w4.heap.size := cell_lt (hz.rows 0 (by have := hz.size; omega))
      have zR : ∀ i, i < n' → R i < w4.heap.size := fun i hi => cell_lt (hz.cells i hi 0 (by have := hz.size; omega))
      have hs0 : Sk w5 w2.heap.size g cap n' W' R after ((0 : Nat) : Int) (tab n' W' []) := by rw [tab_nil]; exact hz.chg g5 id id (fun _ _ => id)
      have hs1 : Sk w5 w4.heap.size g' cap' n' W' R' after ((0 : Nat) : Int) (tab n' W' []) := by rw [tab_nil]; exact hs'
      have HA := Lib.hid hs0
      have HB := Lib.hid hs1
      have G5 : Hid (Chg (fun c => w2.heap.size ≤ c) w w5) := (G4.out.trans g5 (fun _ _ h => h)).mono (fun _ _ h => h.elim)
      have AB : Hid (∀ {a b : World} {T : Nat → Nat → Int} {m : Int}, Sk a w2.heap.size g cap n' W' R after m T → Chg (SkS w4.heap.size n' R') a b → Sk b w2.heap.size g cap n' W' R after m T) := fun h1 h2 =>
        h1.chg h2 (by rintro (h | ⟨i, hi, h⟩); omega; have := hRr' i hi; omega) (by rintro (h | ⟨i, hi, h⟩); omega; have := hRr' i hi; omega)
          (fun j hj => by have := zR j hj; rintro (h | ⟨i, hi, h⟩); omega; have := hRr' i hi; omega)
      have BA : Hid (∀ {a b : World} {T : Nat → Nat → Int} {m : Int}, Sk a w4.heap.size g' cap' n' W' R' after m T → Chg (SkS w2.heap.size n' R) a b → Sk b w4.heap.size g' cap' n' W' R' after m T) := fun h1 h2 =>
        h1.chg h2 (by rintro (h | ⟨i, hi, h⟩); omega; have := zR i hi; omega) (by rintro (h | ⟨i, hi, h⟩); omega; have := zR i hi; omega)
          (fun j hj => by have := hRr' j hj; rintro (h | ⟨i, hi, h⟩); omega; have := zR i hi; omega)
      have TA : Hid (∀ {a b : World}, Chg (fun c => w2.heap.size ≤ c) w a → Chg (SkS w2.heap.size n' R) a b → Chg (fun c => w2.heap.size ≤ c) w b) := fun h1 h2 => tr_own h1 h2 (Nat.le_refl _) (fun i hi => by have := hRr i hi; omega)
      have TB : Hid (∀ {a b : World}, Chg (fun c => w2.heap.size ≤ c) w a → Chg (SkS w4.heap.size n' R') a b → Chg (fun c => w2.heap.size ≤ c) w b) := fun h1 h2 => tr_own h1 h2 (by omega) (fun i hi => by have := hRr' i hi; omega)
      clear hz hs0 hs1 hs' HS G4 g4 g5 j0 j1 j2
      go_wp2_with fail
      go_loopw [71] (fun i wr => ∃ k : Nat, k ≤ keys.length ∧ i = .int .i64 (↑k : Int) ∧ Hid (Sk wr w2.heap.size g cap n' W' R after k (tab n' W' (keys.take k))) ∧ Hid (Sk wr w4.heap.size g' cap' n' W' R' after k (tab n' W' ((turned keys t').take k))) ∧ Hid (Chg (fun c => w2.heap.size ≤ c) w wr)) (fun i _ => keys.length - (intOf i).toNat)
      case atStart => exact ⟨0, by omega, rfl, HA.out, HB.out, G5.out⟩
      case round =>
        obtain ⟨k, hk1, rfl, HA, HB, HG⟩ := hrel
        by_cases hlt : k < keys.length
        · obtain ⟨b, off, rfl, hb, hc⟩ := HC.out (by omega)
          obtain ⟨x, hx⟩ : ∃ x, keys[k]? = some x := ⟨_, List.getElem?_eq_getElem hlt⟩
          obtain ⟨m, hm⟩ : ∃ m, m = (keys.length - 1 - k + t') % keys.length := ⟨_, rfl⟩
          have hlt2 : m < keys.length := by rw [hm]; exact Nat.mod_lt _ (by omega)
          obtain ⟨y, hy⟩ : ∃ y, keys[m]? = some y := ⟨_, List.getElem?_eq_getElem hlt2⟩
          have hcx : wr.cell? ⟨b, off + k, none⟩ = some (.int .u64 x) := by rw [HG.out.cell hb (by omega)]; exact hc k _ hx
          have HWX : Hid (0 ≤ x ∧ x ≤ 18446744073709551615) := HWF.out _ (mem_at hx)
          have hta : (turned keys t')[k]? = some y := by rw [turned_at keys t' k hlt, ← hm, List.getD, hy]; rfl
          have hmi : ((keys.length : Int) - 1 - k + t') % (keys.length : Int) = (m : Int) := by
            rw [hm]
            have : ((keys.length : Int) - 1 - k + t') = ((keys.length - 1 - k + t' : Nat) : Int) := by omega
            rw [this]; rfl
          have HY : Hid (0 ≤ y ∧ y ≤ 18446744073709551615) := HWF.out _ (mem_at hy)
          have HCY : Hid (∀ {a : World}, Chg (fun c => w2.heap.size ≤ c) w a → a.cell? ⟨b, off + m, none⟩ = some (.int .u64 y)) := fun h => by rw [h.cell hb (by omega)]; exact hc m _ hy
          have HM := Lib.hid hmi
          have HTA := Lib.hid hta
          have HX := Lib.hid hx
          have TX := Lib.hid (take_at hx)
          have TY := Lib.hid (take_at hta)
          clear hm hta hy hmi hx hc
          go_wp2_with fail
          refine (add_rows _ _ _ _ _ _ _ _ _ x _ HA.out HWX.out (tab_bd _ _ _ (by simp; omega)) (by omega)).mono ?_; rintro e w6 ⟨rfl, hs, hc⟩
          rw [if_neg (by have := HR2.out; omega), bump_tab, ← TX.out] at hs
          have HA2 := Lib.hid hs
          have HB2 := Lib.hid (BA.out HB.out hc)
          have HG2 := Lib.hid (TA.out HG.out hc)
          have hcy6 := HCY.out HG2.out
          have hmi := HM.out
          clear hs hc HA HB HG hcx
          go_wp2_with fail
          refine (add_rows _ _ _ _ _ _ _ _ _ y _ HB2.out HY.out (tab_bd _ _ _ (by simp; omega)) (by omega)).mono ?_; rintro e w7 ⟨rfl, hs, hc⟩
          rw [if_neg (by have := HR2.out; omega), bump_tab, ← TY.out] at hs
          have HB3 := Lib.hid hs
          have HA3 := Lib.hid (AB.out HA2.out hc)
          have HG3 := Lib.hid (TB.out HG2.out hc)
          clear hs hc HA2 HB2 HG2
          go_wp2
          go_roundw
          case rel => exact ⟨k + 1, by omega, by go_num, HA3.out, HB3.out, HG3.out⟩
          case measure => simp [intOf]; omega
        · obtain rfl : k = keys.length := by omega
          have pm : tab n' W' (turned keys t') = tab n' W' keys := tab_perm _ _ (turn_perm keys t')
          have HA4 : Hid (Sk wr w2.heap.size g cap n' W' R after keys.length (tab n' W' keys)) := by have := HA.out; rw [List.take_length] at this; exact this
          have HB4 : Hid (Sk wr w4.heap.size g' cap' n' W' R' after keys.length (tab n' W' keys)) := by have := HB.out; rw [← turned_len keys t', List.take_length, pm, turned_len] at this; exact this
          clear pm HA HB
          go_wp2_with fail
          go_loopw [99] (fun i wo => ∃ k : Nat, k ≤ keys.length ∧ i = .int .i64 (↑k : Int) ∧ ∃ q, wo = wr.drewN q) (fun i _ => keys.length - (intOf i).toNat)
          case atStart => exact ⟨0, by omega, rfl, 0, rfl⟩
          case round =>
            obtain ⟨k, hk1, rfl, q, rfl⟩ := hrel
            by_cases hlt : k < keys.length
            · obtain ⟨b, off, rfl, hb, hc⟩ := HC.out (by omega)
              obtain ⟨x, hx⟩ : ∃ x, keys[k]? = some x := ⟨_, List.getElem?_eq_getElem hlt⟩
              have hcx : wr.cell? ⟨b, off + k, none⟩ = some (.int .u64 x) := by rw [HG.out.cell hb (by omega)]; exact hc k _ hx
              have HWX : Hid (0 ≤ x ∧ x ≤ 18446744073709551615) := HWF.out _ (mem_at hx)
              have TB4 : Hid (∀ i j, 0 ≤ tab n' W' keys i j ∧ tab n' W' keys i j ≤ 9223372036854775807) := fun i j => by have := tab_bd n' W' keys (by omega) i j; omega
              clear hx hc
              go_wp2_with fail
              refine (count_any _ _ _ _ _ _ _ _ _ x _ (HA4.out.drewN _) HWX.out TB4.out).mono ?_; rintro e w6 ⟨rfl, n6, rfl⟩
              go_wp2_with fail
              refine (count_any _ _ _ _ _ _ _ _ _ x _ (HB4.out.drewN _) HWX.out TB4.out).mono ?_; rintro e w7 ⟨rfl, n7, rfl⟩
              go_wp2
              go_roundw
              case rel => exact ⟨k + 1, by omega, by go_num, _, rfl⟩
              case measure => simp [intOf]; omega
            · obtain rfl : k = keys.length := by omega
              go_wp2_with fail
              refine (awake_any _).mono ?_; rintro e w6 ⟨rfl, g6⟩
              go_wp2_with fail
              go_ret
              exact ⟨rfl, Chg.below (((HG.out.mono (fun c hc h => by omega)).drewN _).trans g6 (fun _ _ h => h))⟩
end Go.Proofs.Ytmkgmofkfgfdhaa
