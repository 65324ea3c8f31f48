/- New sketches, and one more. -/
import Derived.Test.YtpapfnfdaklnlaaDoorSw
import Derived.Deep.AppendLies
import Derived.Deep.RegionLaw
namespace Go.Proofs.YtpapfnfdaklnlaaDoor
set_option linter.unusedVariables false
open Go.RowKit

theorem infoRow : (Tryd.prog.info? 52).map (fun i => (i.zero, i.size, i.bytes)) = some (some (.slice none 0 0), 1, 24) := by kernel_rfl
theorem infoInt : (Tryd.prog.info? 2).map (fun i => (i.zero, i.size, i.bytes)) = some (some (.int .i64 0), 1, 8) := by kernel_rfl

def zrow (W : Nat) : Array Value := madeCells #[.int .i64 0] W
theorem zrow_size (W : Nat) : (zrow W).size = W := size_madeCells _ _
theorem zrow_at (W j : Nat) (h : j < W) : (zrow W)[j]? = some (.int .i64 0) := by simp [zrow, madeCells, h, Nat.mod_one]

theorem make_row (W : Nat) (hW : W ≤ 65536) (w : World) :
    (Instr.makeSlice 52 (.int .i64 (W : Int)) (.int .i64 (W : Int))).run Tryd.prog w = .ok (.slice (some ⟨w.heap.size, 0, none⟩) W W) (w.alloc (.cells (zrow W) 2)) := by
  obtain ⟨i0, hi, hz0, hz1, hz2⟩ := info_parts infoInt
  have h := run_make (P := Tryd.prog) w 52 2 i0 _ Tryd.underlying52 hi hz0 .i64 .i64 W W (by omega) (by omega) (by rw [hz2]; omega) (by omega)
  simpa [hz1, zrow, Value.cells] using h

theorem two_new (w : World) (X Y : Obj) : ((w.alloc X).alloc Y).heap[w.heap.size + 1]? = some Y := by simpa using heap_alloc_new (w.alloc X) Y
theorem own_ne {w : World} {B : Nat} {e : TypeId} {sz : Nat} {v : Value} {n : Nat} {xs : List Value} (h : w.ownsRow B e sz v n xs) {b : Nat} (hb : b < B) : some b ≠ v.ownBlock := by
  rcases h.2 with ⟨rfl, _⟩ | ⟨g, cap, cur, rfl, hg, _⟩
  · simp [Value.ownBlock]
  · simp [Value.ownBlock]; omega

/-- What the loop of New knows behind k rows: block b the sketch, v its rows, R the rows' blocks. -/
structure Mk (w0 w : World) (b W k : Nat) (after : Int) (v : Value) (R : Nat → Nat) : Prop where
  c0 : w.cell? ⟨b, 0, none⟩ = some v
  c1 : w.cell? ⟨b, 1, none⟩ = some (.int .i64 after)
  c2 : w.cell? ⟨b, 2, none⟩ = some (.int .i64 0)
  fz : ∀ o, w.frozen? ⟨b, o, none⟩ = false
  own : w.ownsRow (b + 1) 52 1 v k ((List.range k).map fun i => .slice (some ⟨R i, 0, none⟩) W W)
  cells : ∀ i, i < k → ∀ j, j < W → w.cell? ⟨R i, j, none⟩ = some (.int .i64 0)
  rfz : ∀ i, i < k → ∀ o, w.frozen? ⟨R i, o, none⟩ = false
  apart : ∀ i, i < k → b < R i ∧ R i < w.heap.size ∧ v.ownBlock ≠ some (R i)
  rr : ∀ i j, i < k → j < k → i ≠ j → R i ≠ R j
  lo : b < w.heap.size
  same : Chg (fun _ => False) w0 w

theorem own_lt {w : World} {B : Nat} {e : TypeId} {sz : Nat} {v : Value} {n : Nat} {xs : List Value} (h : w.ownsRow B e sz v n xs) {g : Nat} (hg : v.ownBlock = some g) : B ≤ g ∧ g < w.heap.size := by
  rcases h.2 with ⟨rfl, _⟩ | ⟨g', cap, cur, rfl, hb, hc, _⟩
  · simp [Value.ownBlock] at hg
  · simp [Value.ownBlock] at hg
    subst hg
    refine ⟨hb, ?_⟩
    rcases Nat.lt_or_ge g' w.heap.size with h | h
    · exact h
    · rw [Array.getElem?_eq_none h] at hc; cases hc
theorem own_set {w : World} {B : Nat} {e : TypeId} {sz : Nat} {v : Value} {n : Nat} {xs : List Value} (h : w.ownsRow B e sz v n xs) {p : Addr} (hp : some p.block ≠ v.ownBlock) (u : Value) : (w.setCell p u).ownsRow B e sz v n xs := by
  refine ⟨h.1, ?_⟩
  rcases h.2 with h0 | ⟨g, cap, cur, rfl, hb, hc, hr⟩
  · exact .inl h0
  · refine .inr ⟨g, cap, cur, rfl, hb, ?_, hr⟩
    rw [Below.heap_setCell _ _ _ _ (by simp [Value.ownBlock] at hp; omega)]
    exact hc

theorem Mk.step {w0 wr w1 : World} {b W k g cap : Nat} {after : Int} {v : Value} {R : Nat → Nat} (h : Mk w0 wr b W k after v R) (hb : b = w0.heap.size)
    (hg : (((wr.alloc (.cells (zrow W) 2)).alloc (.cells #[.slice (some ⟨wr.heap.size, 0, none⟩) W W] 52)).drew).grownBy w1 v.ownBlock)
    (ho : w1.ownsRow (b + 1) 52 1 (.slice (some ⟨g, 0, none⟩) (k + 1) cap) (k + 1) (((List.range k).map fun i => .slice (some ⟨R i, 0, none⟩) W W) ++ [.slice (some ⟨wr.heap.size, 0, none⟩) W W]))
    (hat : v.ownBlock = some g ∨ g = wr.heap.size + 2) :
    Mk w0 (w1.setCell ⟨b, 0, none⟩ (.slice (some ⟨g, 0, none⟩) (k + 1) cap)) b W (k + 1) after (.slice (some ⟨g, 0, none⟩) (k + 1) cap) (fun i => if i = k then wr.heap.size else R i) := by
  have hne : some b ≠ v.ownBlock := own_ne h.own (by omega)
  have hbl := h.lo
  have old : ∀ c o, c < wr.heap.size → some c ≠ v.ownBlock → w1.cell? ⟨c, o, none⟩ = wr.cell? ⟨c, o, none⟩ := fun c o hc hn => by
    rw [hg.cell_far _ (by simp; omega) hn]
    exact (Chg.alloc (Chg.alloc (Chg.refl (fun _ => False) wr) _) _).drew.cell hc id o
  have oldf : ∀ c o, c < wr.heap.size → some c ≠ v.ownBlock → w1.frozen? ⟨c, o, none⟩ = wr.frozen? ⟨c, o, none⟩ := fun c o hc hn => by
    rw [hg.frozen_far _ (by simp; omega) hn]
    exact (Chg.alloc (Chg.alloc (Chg.refl (fun _ => False) wr) _) _).drew.frozen hc id o
  have hnew : some wr.heap.size ≠ v.ownBlock := fun e => by have := (own_lt h.own e.symm).2; omega
  have hsz : wr.heap.size + 2 ≤ w1.heap.size := by have := hg.size; simp at this; omega
  have hgb : b ≠ g := by have := own_ne ho (b := b) (by omega); simp [Value.ownBlock] at this; exact this
  refine ⟨?_, ?_, ?_, ?_, ?_, ?_, ?_, ?_, ?_, ?_, ?_⟩
  · exact cell_same (by rw [old b 0 hbl hne]; exact h.c0)
  · rw [cell_other (by simp), old b 1 hbl hne]; exact h.c1
  · rw [cell_other (by simp), old b 2 hbl hne]; exact h.c2
  · intro o; rw [World.frozen?_setCell, oldf b o hbl hne]; exact h.fz o
  · refine own_set ?_ (by simp [Value.ownBlock]; omega) _
    have e : ((List.range (k + 1)).map fun i => Value.slice (some ⟨if i = k then wr.heap.size else R i, 0, none⟩) W W) = ((List.range k).map fun i => Value.slice (some ⟨R i, 0, none⟩) W W) ++ [.slice (some ⟨wr.heap.size, 0, none⟩) W W] := by
      rw [List.range_succ, List.map_append]
      congr 1
      · refine List.map_congr_left fun i hi => ?_
        have : i ≠ k := by have := List.mem_range.1 hi; omega
        simp [this]
      · simp
    rw [e]; exact ho
  · intro i hi j hj
    by_cases e : i = k
    · subst e
      simp only [if_true]
      rw [cell_other (by simp; try omega), hg.cell_far _ (by simp; omega) hnew]
      have : ((wr.alloc (.cells (zrow W) 2)).alloc (.cells #[.slice (some ⟨wr.heap.size, 0, none⟩) W W] 52)).cell? ⟨wr.heap.size, j, none⟩ = (wr.alloc (.cells (zrow W) 2)).cell? ⟨wr.heap.size, j, none⟩ :=
        ((Chg.refl (fun _ => False) (wr.alloc (.cells (zrow W) 2))).alloc _).cell (by simp) id j
      show ((wr.alloc (.cells (zrow W) 2)).alloc (.cells #[.slice (some ⟨wr.heap.size, 0, none⟩) W W] 52)).cell? ⟨wr.heap.size, j, none⟩ = _
      rw [this, cell_of_row _ wr.heap.size j (zrow W) _ (0, 0) (heap_alloc_new _ _)]
      exact zrow_at W j hj
    · have hk : i < k := by omega
      have ha := h.apart i hk
      simp only [if_neg e]
      rw [cell_other (by simp; try omega), old _ _ ha.2.1 (Ne.symm ha.2.2)]
      exact h.cells i hk j hj
  · intro i hi o
    by_cases e : i = k
    · subst e
      simp only [if_true]
      rw [World.frozen?_setCell, hg.frozen_far _ (by simp; omega) hnew]
      have : ((wr.alloc (.cells (zrow W) 2)).alloc (.cells #[.slice (some ⟨wr.heap.size, 0, none⟩) W W] 52)).frozen? ⟨wr.heap.size, o, none⟩ = (wr.alloc (.cells (zrow W) 2)).frozen? ⟨wr.heap.size, o, none⟩ :=
        ((Chg.refl (fun _ => False) (wr.alloc (.cells (zrow W) 2))).alloc _).frozen (by simp) id o
      show ((wr.alloc (.cells (zrow W) 2)).alloc (.cells #[.slice (some ⟨wr.heap.size, 0, none⟩) W W] 52)).frozen? ⟨wr.heap.size, o, none⟩ = _
      rw [this]
      simp [go_sem]
    · have hk : i < k := by omega
      have ha := h.apart i hk
      simp only [if_neg e]
      rw [World.frozen?_setCell, oldf _ _ ha.2.1 (Ne.symm ha.2.2)]
      exact h.rfz i hk o
  · intro i hi
    by_cases e : i = k
    · subst e
      simp only [if_true]
      refine ⟨hbl, by simp [World.setCell]; omega, ?_⟩
      simp [Value.ownBlock]
      rcases hat with h1 | h1
      · have := (own_lt h.own h1).2; omega
      · omega
    · have hk : i < k := by omega
      have ha := h.apart i hk
      simp only [if_neg e]
      refine ⟨ha.1, by simp [World.setCell]; omega, ?_⟩
      simp [Value.ownBlock]
      rcases hat with h1 | h1
      · rw [h1] at ha; simp at ha; omega
      · omega
  · intro i j hi hj hij
    by_cases e : i = k <;> by_cases e' : j = k
    · omega
    · have ha := h.apart j (by omega)
      simp only [if_pos e, if_neg e']; omega
    · have ha := h.apart i (by omega)
      simp only [if_neg e, if_pos e']; omega
    · simp only [if_neg e, if_neg e']; exact h.rr i j (by omega) (by omega) hij
  · simp [World.setCell]; omega
  · refine Chg.setCell (Chg.grown (Chg.drew (Chg.alloc (Chg.alloc h.same _) _)) hg fun c hc => ?_) (.inr (by simp [hb])) _
    right
    have := (own_lt h.own hc).1
    omega

set_option maxRecDepth 100000 in
set_option maxHeartbeats 1000000 in
theorem new_try (n W : Nat) (after : Int) (w : World) (hn : 1 ≤ n ∧ n ≤ 8) (hW : 1 ≤ W ∧ W ≤ 65536) (ha : 1 ≤ after ∧ after ≤ 1099511627776) :
    Calls Tryd.prog 6 #[.int .i64 n, .int .i64 W, .int .i64 after] w fun e w' => e = .returned (.tuple #[.pointer (some ⟨w.heap.size, 0, none⟩), .int .i64 0]) ∧ (∃ g cap R, Sk w' w.heap.size g cap n W R after 0 (fun _ _ => 0) ∧ w.heap.size < g ∧ (∀ i, i < n → w.heap.size < R i)) ∧ Chg (fun _ => False) w w' := by
  have a1 : (1 : Int) ≤ n := by omega
  have a2 : (n : Int) ≤ 8 := by omega
  have a3 : (1 : Int) ≤ W := by omega
  have a4 : (W : Int) ≤ 65536 := by omega
  have hmk := make_row W hW.2
  obtain ⟨i0, hi0, hz0, hz1, hz2⟩ := info_parts infoRow
  go_enter Tryd.func6, Tryd.ntmps6
  go_wp2
  go_loopw [35] (fun i wr => ∃ (k : Nat) (v : Value) (R : Nat → Nat), k ≤ n ∧ i = .int .i64 (↑k : Int) ∧ Hid (Mk w wr w.heap.size W k after v R)) (fun i _ => n - (intOf i).toNat)
  case atStart =>
    exact ⟨0, .slice none 0 0, fun _ => 0, by omega, rfl, ⟨by go_simp, by go_simp, by go_simp, by intro o; go_simp, ⟨rfl, .inl ⟨rfl, rfl⟩⟩, by intro i hi; omega, by intro i hi; omega, by intro i hi; omega, by intro i j hi; omega, by simp, (by repeat (first | with_reducible exact Chg.refl _ _ | with_reducible assumption | with_reducible refine Chg.drewN ?_ _ | with_reducible refine Chg.drew ?_ | with_reducible refine Chg.alloc ?_ _ | with_reducible refine Chg.setCell ?_ (by first | (left; rfl) | (left; left; rfl) | (left; right; rfl) | (left; right; left; rfl) | (left; right; right; rfl) | (right; exact Nat.le_refl _) | (right; simp; done) | (right; omega) | (right; simp at *; omega) | (simp at *; omega)) _ | with_reducible refine Chg.trans ?_ (by with_reducible assumption) (by intro i hi hT; first | exact hT | exact False.elim hT | omega | (simp at *; omega))))⟩⟩
  case round =>
    obtain ⟨k, v, R, hk, rfl, HM⟩ := hrel
    by_cases hlt : k < n
    · have c0 := HM.out.c0
      have fz := HM.out.fz
      have lo := HM.out.lo
      have own := HM.out.own
      have hne : some w.heap.size ≠ v.ownBlock := own_ne own (by omega)
      have HO := Lib.hid own
      clear own
      go_wp2_with fail
      go_region_law ((refine step_append_lies _ (by rfl) _ _ _ (by rfl) (w.heap.size + 1) 52 i0 _ 1 24 Tryd.underlying49 hi0 hz0 hz1 hz2 rfl (by omega) v k _ (by rfl) (((HO.out.alloc _).alloc _).drew) ⟨wr.heap.size + 1, 0, none⟩ 1 1 [.slice (some ⟨wr.heap.size, 0, none⟩) W W] (by rfl) (by rfl) (World.news_of_block (cs := #[.slice (some ⟨wr.heap.size, 0, none⟩) W W]) (t := 52) (fr := (0, 0)) (two_new _ _ _)) (by simp [Value.oneCell']) (by omega) (by unfold maxLen; omega) (by omega) (by simp; omega) (wr.heap.size + 2) (by simp) ?_; intro g cap w1 hown1 hgrow hat hlt1; have kc : w1.cell? ⟨w.heap.size, 0, none⟩ = some v := (by rw [hgrow.cell_far _ (by simp; omega) hne]; go_simp); have kf : w1.frozen? ⟨w.heap.size, 0, none⟩ = false := (by rw [hgrow.frozen_far _ (by simp; omega) hne]; go_simp)))
      all_goals
        go_wp2
        go_roundw
        case rel => exact ⟨k + 1, _, _, by omega, by go_num, HM.out.step rfl hgrow hown1 hat⟩
        case measure => simp [intOf]; omega
    · obtain rfl : k = n := by omega
      go_wp2
      go_ret2
      refine ⟨rfl, ?_, HM.out.same⟩
      have hM := HM.out
      obtain ⟨g, cap, hv, hgb, hgl, hro⟩ : ∃ g cap, v = .slice (some ⟨g, 0, none⟩) k cap ∧ w.heap.size + 1 ≤ g ∧ g < wr.heap.size ∧ ∀ i, i < k → wr.cell? ⟨g, i, none⟩ = some (.slice (some ⟨R i, 0, none⟩) W W) := by
        obtain ⟨g, cap, hv, hb, hl⟩ := hM.own.form (by omega)
        refine ⟨g, cap, hv, hb, hl, fun i hi => ?_⟩
        rcases hM.own.2 with ⟨h0, _⟩ | ⟨g', cap', cur, h1, _, hc, _, _, hs, ht⟩
        · rw [hv] at h0; cases h0
        · rw [hv] at h1
          injection h1 with h1 _ h3
          injection h1 with h1
          injection h1 with h1
          subst h1
          rw [cell_of_row _ g i cur _ (0, 0) hc]
          have e := congrArg (fun l => l[i]?) ht
          simp [hi] at e
          simpa using e
      have hgR : ∀ i, i < k → R i ≠ g := fun i hi e => (hM.apart i hi).2.2 (by rw [hv, e]; rfl)
      refine ⟨g, cap, R, ⟨by rw [hM.c0, hv], hM.c1, hM.c2, hM.fz, hro, hM.cells, hM.rfz, by omega, by omega, fun i hi => ⟨by have := (hM.apart i hi).1; omega, hgR i hi⟩, hM.rr⟩, by omega, fun i hi => (hM.apart i hi).1⟩

set_option maxHeartbeats 400000 in
theorem new_no (n W after : Int) (w : World) (h : ¬ (1 ≤ n ∧ n ≤ 8 ∧ 1 ≤ W ∧ W ≤ 65536 ∧ 1 ≤ after ∧ after ≤ 1099511627776)) :
    Calls Tryd.prog 6 #[.int .i64 n, .int .i64 W, .int .i64 after] w fun e w' => e = .returned (.tuple #[.pointer none, .int .i64 1]) ∧ w = w' := by
  by_cases h1 : n < 1
  rotate_left
  by_cases h2 : 8 < n
  rotate_left
  by_cases h3 : W < 1
  rotate_left
  by_cases h4 : 65536 < W
  rotate_left
  by_cases h5 : after < 1
  rotate_left
  have h6 : 1099511627776 < after := by omega
  all_goals
    clear h
    go_enter Tryd.func6, Tryd.ntmps6
    go_wp2
    go_ret2
    exact ⟨rfl, rfl⟩

set_option maxHeartbeats 1000000 in
theorem add_rows (b g cap n W : Nat) (R : Nat → Nat) (after adds : Int) (T : Nat → Nat → Int) (key : Int) (w : World) (h : Sk w b g cap n W R after adds T) (hk : 0 ≤ key ∧ key ≤ 18446744073709551615) (hT : ∀ i j, 0 ≤ T i j ∧ T i j ≤ 4611686018427387904)
    (ha : 0 ≤ adds ∧ adds ≤ 4611686018427387904) :
    Calls Tryd.prog 7 #[.pointer (some ⟨b, 0, none⟩), .int .u64 key] w fun e w' => e = .returned (.tuple #[]) ∧ (if adds + 1 = after then Sk w' b g cap n W R after 0 (halve (bump T W key n)) else Sk w' b g cap n W R after (adds + 1) (bump T W key n)) ∧ Chg (SkS b n R) w w' := by
  have H := Lib.hid h
  have HT := Lib.hid hT
  have c0 := h.c0
  have hn : n ≤ 8 := h.size.2.1
  have hn1 : 1 ≤ n := h.size.1
  have hW : 0 < W ∧ W ≤ 65536 := by have := h.size; omega
  clear h hT
  go_enter Tryd.func7, Tryd.ntmps7
  go_wp2
  go_loopw [10] (fun i wr => ∃ (k : Nat), k ≤ n ∧ i = .int .i64 (↑k : Int) ∧ Hid (Sk wr b g cap n W R after adds (bump T W key k)) ∧ Hid (Chg (SkS b n R) w wr)) (fun i _ => n - (intOf i).toNat)
  case atStart => exact ⟨0, by omega, rfl, H.out.congr (fun _ _ _ _ => by simp [bump]), Chg.refl _ _⟩
  case round =>
    obtain ⟨k, hk1, rfl, HK, HG⟩ := hrel
    by_cases hlt : k < n
    · have c0' := HK.out.c0
      have cr := HK.out.rows k hlt
      have hm := mixF_lt key k W hW.1
      have cv := HK.out.cells k hlt (mixF key k W) hm
      have hbk : bump T W key k k (mixF key k W) = T k (mixF key k W) := by simp [bump]
      rw [hbk] at cv
      clear hbk
      have hv := HT.out k (mixF key k W)
      have hf := HK.out.rfz k hlt
      go_wp2_with fail
      refine (counter_any b g cap n W (R k) k key _ c0' hlt cr hn hW hk).mono ?_; rintro e w1 ⟨rfl, n1, rfl⟩
      go_wp2
      go_roundw
      case rel =>
        refine ⟨k + 1, by omega, by go_num, ((HK.out.drewN n1).set hlt hm _).congr (fun i hi j hj => ?_), (HG.out.drewN n1).setCell (.inl (.inr ⟨k, hlt, rfl⟩)) _⟩
        by_cases e : i = k ∧ j = mixF key k W
        · obtain ⟨rfl, rfl⟩ := e
          simp [bump]
        · rw [if_neg e]
          unfold bump
          by_cases e1 : i < k ∧ j = mixF key i W
          · rw [if_pos e1, if_pos ⟨by omega, e1.2⟩]
          · rw [if_neg e1, if_neg (fun e2 => by
              rcases Nat.lt_or_ge i k with h1 | h1
              · exact e1 ⟨h1, e2.2⟩
              · have : i = k := by omega
                subst this
                exact e ⟨rfl, e2.2⟩)]
      case measure => simp [intOf]; omega
    · obtain rfl : k = n := by omega
      have c1 := HK.out.c1
      have c2 := HK.out.c2
      have fz := HK.out.fz
      have HS : Hid (Sk (wr.setCell ⟨b, 2, none⟩ (.int .i64 (adds + 1))) b g cap k W R after (adds + 1) (bump T W key k)) := HK.out.setAdds _
      have hB : Hid (∀ i j, 0 ≤ bump T W key k i j ∧ bump T W key k i j ≤ 9223372036854775806) := by
        intro i j
        have := HT.out i j
        unfold bump
        split <;> omega
      by_cases he : adds + 1 = after
      · subst he
        go_wp2
        go_quiet (fail)
        go_wp2_with fail
        refine (age_any b g cap k W R (adds + 1) (adds + 1) _ _ (HS.out.drewN _) hB.out).mono ?_; rintro e w1 ⟨rfl, hs, hc⟩
        have HS2 := Lib.hid hs
        clear hs
        go_wp2
        go_end0
        refine ⟨rfl, ?_, (((HG.out.setCell (.inl (.inl rfl)) _).drewN _).trans hc (fun _ _ h => h))⟩
        exact HS2.out
      · have hd : (adds + 1 == after) = false := by simpa using he
        go_wp2
        go_quiet (fail)
        go_wp2_with fail
        go_end0
        refine ⟨rfl, ?_, ((HG.out.setCell (.inl (.inl rfl)) _).drewN _)⟩
        exact HS.out.drewN _
end Go.Proofs.YtpapfnfdaklnlaaDoor
