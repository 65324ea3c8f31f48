/- The walks of package sketch. -/
import Derived.Test.YtpapfnfdaklnlaaDoorTail
import Derived.OpenShut
namespace Go.Proofs.YtpapfnfdaklnlaaDoor
set_option linter.unusedVariables false
open Go.RowKit

/-! The mixing of a key, in the walk's own form. -/
def mx0 (key r : Int) : Int := bits .xor .u64 key (IntKind.u64.wrap ((r + 1) * 11400714819323198485))
def mx1 (x : Int) : Int := IntKind.u64.wrap (bits .xor .u64 x (x / 1073741824) * 13787848793156543929)
def mx2 (x : Int) : Int := IntKind.u64.wrap (bits .xor .u64 x (x / 134217728) * 10723151780598845931)
def mx3 (x : Int) : Int := bits .xor .u64 x (x / 2147483648)
def mixU (key r : Int) : Int := mx3 (mx2 (mx1 (mx0 key r)))
theorem mixU_bd (key r : Int) : 0 ≤ mixU key r ∧ mixU key r ≤ 18446744073709551615 := by
  have h : (Lit.int .u64 (mixU key r)).wf = true := by unfold mixU mx3; exact wf_bits _ _ _ _
  exact bounds_u64 h
/-- The counter of a key in a row of so many. -/
def mixF (key : Int) (r W : Nat) : Nat := (mixU key r).toNat % W
theorem mixF_lt (key : Int) (r W : Nat) (h : 0 < W) : mixF key r W < W := Nat.mod_lt _ h
theorem mixU_eq (key r : Int) : mixU key r = mx3 (mx2 (mx1 (mx0 key r))) := rfl

set_option maxHeartbeats 400000 in
theorem counter_any (b g cap n W : Nat) (Rr r : Nat) (key : Int) (w : World) (c0 : w.cell? ⟨b, 0, none⟩ = some (.slice (some ⟨g, 0, none⟩) n cap)) (hr : r < n) (cr : w.cell? ⟨g, r, none⟩ = some (.slice (some ⟨Rr, 0, none⟩) W W)) (hn : n ≤ 8) (hW : 0 < W ∧ W ≤ 65536) (hk : 0 ≤ key ∧ key ≤ 18446744073709551615) :
    Calls Tryd.prog 15 #[.pointer (some ⟨b, 0, none⟩), .int .i64 r, .int .u64 key] w (Quiet (.pointer (some ⟨Rr, mixF key r W, none⟩)) w) := by
  have hr' : (r : Int) < n := by omega
  have hn' : (n : Int) ≤ 8 := by omega
  have hb := mixU_bd key r
  have hq : (mixU key r % (W : Int)).toNat = mixF key r W := by unfold mixF; rw [Int.toNat_emod hb.1 (by omega)]; simp
  have hq0 : 0 ≤ mixU key r % (W : Int) := Int.emod_nonneg _ (by omega)
  have hq1 : mixU key r % (W : Int) < (W : Int) := Int.emod_lt_of_pos _ (by omega)
  have hW0 : 0 < (W : Int) := by omega
  have hW1 : (W : Int) ≤ 65536 := by omega
  have e0 : bits .xor .u64 key (IntKind.u64.wrap (((r : Int) + 1) * 11400714819323198485)) = mx0 key r := rfl
  have e1 : IntKind.u64.wrap (bits .xor .u64 (mx0 key r) (mx0 key r / 1073741824) * 13787848793156543929) = mx1 (mx0 key r) := rfl
  have e2 : IntKind.u64.wrap (bits .xor .u64 (mx1 (mx0 key r)) (mx1 (mx0 key r) / 134217728) * 10723151780598845931) = mx2 (mx1 (mx0 key r)) := rfl
  have e3 : bits .xor .u64 (mx2 (mx1 (mx0 key r))) (mx2 (mx1 (mx0 key r)) / 2147483648) = mixU key r := rfl
  go_enter Tryd.func15, Tryd.ntmps15
  go_wp2
  go_quiet (fail)
  go_wp2
  go_ret
  exact ⟨rfl, _, rfl⟩

/-- A sketch at block b: its rows' row g, the rows' blocks R, W counters a row, T the counters. -/
structure Sk (w : World) (b g cap n W : Nat) (R : Nat → Nat) (after adds : Int) (T : Nat → Nat → Int) : Prop where
  c0 : w.cell? ⟨b, 0, none⟩ = some (.slice (some ⟨g, 0, none⟩) n cap)
  c1 : w.cell? ⟨b, 1, none⟩ = some (.int .i64 after)
  c2 : w.cell? ⟨b, 2, none⟩ = some (.int .i64 adds)
  fz : ∀ o, w.frozen? ⟨b, o, none⟩ = false
  rows : ∀ i, i < n → w.cell? ⟨g, i, none⟩ = some (.slice (some ⟨R i, 0, none⟩) W W)
  cells : ∀ i, i < n → ∀ j, j < W → w.cell? ⟨R i, j, none⟩ = some (.int .i64 (T i j))
  rfz : ∀ i, i < n → ∀ o, w.frozen? ⟨R i, o, none⟩ = false
  size : 1 ≤ n ∧ n ≤ 8 ∧ 1 ≤ W ∧ W ≤ 65536
  bg : b ≠ g
  br : ∀ i, i < n → R i ≠ b ∧ R i ≠ g
  rr : ∀ i j, i < n → j < n → i ≠ j → R i ≠ R j

/-- The blocks that a sketch's calls write. -/
def SkS (b n : Nat) (R : Nat → Nat) (k : Nat) : Prop := k = b ∨ ∃ i, i < n ∧ k = R i

section
variable {w w' : World} {b g cap n W : Nat} {R : Nat → Nat} {after adds : Int} {T : Nat → Nat → Int}
theorem Sk.chg {S : Nat → Prop} (h : Sk w b g cap n W R after adds T) (c : Chg S w w') (hb : ¬ S b) (hg : ¬ S g) (hr : ∀ i, i < n → ¬ S (R i)) : Sk w' b g cap n W R after adds T := by
  have lb := cell_lt h.c0
  have lg := cell_lt (h.rows 0 (by have := h.size; omega))
  have lr : ∀ i, i < n → R i < w.heap.size := fun i hi => cell_lt (h.cells i hi 0 (by have := h.size; omega))
  exact ⟨(c.cell lb hb 0).trans h.c0, (c.cell lb hb 1).trans h.c1, (c.cell lb hb 2).trans h.c2, fun o => (c.frozen lb hb o).trans (h.fz o), fun i hi => (c.cell lg hg i).trans (h.rows i hi),
    fun i hi j hj => (c.cell (lr i hi) (hr i hi) j).trans (h.cells i hi j hj), fun i hi o => (c.frozen (lr i hi) (hr i hi) o).trans (h.rfz i hi o), h.size, h.bg, h.br, h.rr⟩
theorem Sk.congr {T' : Nat → Nat → Int} (h : Sk w b g cap n W R after adds T) (e : ∀ i, i < n → ∀ j, j < W → T i j = T' i j) : Sk w b g cap n W R after adds T' :=
  ⟨h.1, h.2, h.3, h.4, h.5, fun i hi j hj => by rw [h.cells i hi j hj, e i hi j hj], h.7, h.8, h.9, h.10, h.11⟩
theorem cell_other {p q : Addr} {v : Value} (h : p ≠ q) : (w.setCell p v).cell? q = w.cell? q := by apply World.cell?_setCell_other; exact h
theorem cell_same {p : Addr} {v u : Value} (h : w.cell? p = some u) : (w.setCell p v).cell? p = some v := by apply World.cell?_setCell_same; exact h
theorem Sk.set (h : Sk w b g cap n W R after adds T) {i j : Nat} (hi : i < n) (hj : j < W) (v : Int) :
    Sk (w.setCell ⟨R i, j, none⟩ (.int .i64 v)) b g cap n W R after adds (fun i' j' => if i' = i ∧ j' = j then v else T i' j') := by
  have hb := h.br i hi
  refine ⟨?_, ?_, ?_, ?_, ?_, ?_, ?_, h.8, h.9, h.10, h.11⟩
  · rw [cell_other (fun e => hb.1 (Addr.mk.inj e).1)]; exact h.c0
  · rw [cell_other (fun e => hb.1 (Addr.mk.inj e).1)]; exact h.c1
  · rw [cell_other (fun e => hb.1 (Addr.mk.inj e).1)]; exact h.c2
  · intro o; rw [World.frozen?_setCell]; exact h.fz o
  · intro i' hi'; rw [cell_other (fun e => hb.2 (Addr.mk.inj e).1)]; exact h.rows i' hi'
  · intro i' hi' j' hj'
    by_cases e : i' = i ∧ j' = j
    · obtain ⟨rfl, rfl⟩ := e
      rw [cell_same (h.cells i' hi' j' hj')]
      simp
    · rw [cell_other, h.cells i' hi' j' hj', if_neg e]
      intro e2
      injection e2 with e3 e4
      by_cases e5 : i = i'
      · exact e ⟨e5.symm, e4.symm⟩
      · exact h.rr i i' hi hi' e5 e3
  · intro i' hi' o; rw [World.frozen?_setCell]; exact h.rfz i' hi' o
theorem Sk.setAdds (h : Sk w b g cap n W R after adds T) (v : Int) :
    Sk (w.setCell ⟨b, 2, none⟩ (.int .i64 v)) b g cap n W R after v T := by
  refine ⟨?_, ?_, ?_, ?_, ?_, ?_, ?_, h.8, h.9, h.10, h.11⟩
  · rw [cell_other (by simp)]; exact h.c0
  · rw [cell_other (by simp)]; exact h.c1
  · exact cell_same h.c2
  · intro o; rw [World.frozen?_setCell]; exact h.fz o
  · intro i' hi'; rw [cell_other (by simp [h.bg])]; exact h.rows i' hi'
  · intro i' hi' j' hj'; rw [cell_other (by simp [Ne.symm (h.br i' hi').1])]; exact h.cells i' hi' j' hj'
  · intro i' hi' o; rw [World.frozen?_setCell]; exact h.rfz i' hi' o
theorem Sk.drewN (h : Sk w b g cap n W R after adds T) (k : Nat) : Sk (w.drewN k) b g cap n W R after adds T := ⟨h.1, h.2, h.3, h.4, h.5, h.6, h.7, h.8, h.9, h.10, h.11⟩
end

/-- The least counter of a key, over the first k rows. -/
def leastF (T : Nat → Nat → Int) (W : Nat) (key : Int) : Nat → Int
  | 0 => 0
  | 1 => T 0 (mixF key 0 W)
  | k + 2 => if T (k + 1) (mixF key (k + 1) W) < leastF T W key (k + 1) then T (k + 1) (mixF key (k + 1) W) else leastF T W key (k + 1)

set_option maxHeartbeats 400000 in
theorem count_any (b g cap n W : Nat) (R : Nat → Nat) (after adds : Int) (T : Nat → Nat → Int) (key : Int) (w : World) (h : Sk w b g cap n W R after adds T) (hk : 0 ≤ key ∧ key ≤ 18446744073709551615) (hT : ∀ i j, 0 ≤ T i j ∧ T i j ≤ 9223372036854775807) :
    Calls Tryd.prog 8 #[.pointer (some ⟨b, 0, none⟩), .int .u64 key] w (Quiet (.int .i64 (leastF T W key n)) w) := by
  have H := Lib.hid h
  have HT := Lib.hid hT
  have c0 := h.c0
  have hn : n ≤ 8 := h.size.2.1
  have hn1 : 1 ≤ n := h.size.1
  have hW : 0 < W ∧ W ≤ 65536 := by have := h.size; omega
  clear h hT
  go_enter Tryd.func8, Tryd.ntmps8
  go_wp2
  go_loopw [5, 13] (fun l i wr => ∃ (k : Nat), k ≤ n ∧ i = .int .i64 (↑k : Int) ∧ Hid (l = .int .i64 (leastF T W key k)) ∧ Hid (∃ q, wr = w.drewN q)) (fun _ i _ => n - (intOf i).toNat)
  case atStart => exact ⟨0, by omega, rfl, rfl, 0, rfl⟩
  case round =>
    obtain ⟨k, hk1, rfl, HL, HW⟩ := hrel
    obtain ⟨q, rfl⟩ := HW.out
    obtain rfl := HL.out
    by_cases hlt : k < n
    · have cr := H.out.rows k hlt
      have cv := H.out.cells k hlt (mixF key k W) (mixF_lt _ _ _ hW.1)
      have hv := HT.out k (mixF key k W)
      by_cases h0 : k = 0
      · subst h0
        go_wp2_with fail
        refine (counter_any b g cap n W (R 0) 0 key (w.drewN q) c0 hlt cr hn hW hk).mono ?_; rintro e w1 ⟨rfl, n1, rfl⟩
        go_wp2
        go_roundw
        case rel => exact ⟨1, by omega, by go_num, rfl, _, rfl⟩
        case measure => simp [intOf]; omega
      · obtain ⟨k', rfl⟩ : ∃ k', k = k' + 1 := ⟨k - 1, by omega⟩
        have hkz : (((k' : Int) + 1) == 0) = false := by simp; omega
        by_cases hl : T (k' + 1) (mixF key (k' + 1) W) < leastF T W key (k' + 1)
        all_goals
          have hs : leastF T W key (k' + 2) = if T (k' + 1) (mixF key (k' + 1) W) < leastF T W key (k' + 1) then T (k' + 1) (mixF key (k' + 1) W) else leastF T W key (k' + 1) := rfl
          first
            | rw [if_pos hl] at hs
            | rw [if_neg hl] at hs
          have HS := Lib.hid hs
          clear hs
          go_wp2_with fail
          refine (counter_any b g cap n W (R (k' + 1)) (k' + 1) key (w.drewN q) c0 hlt cr hn hW hk).mono ?_; rintro e w1 ⟨rfl, n1, rfl⟩
          go_wp2
          go_roundw
          case rel => exact ⟨k' + 2, by omega, by go_num, by rw [HS.out]; rfl, _, rfl⟩
          case measure => simp [intOf]; omega
    · obtain rfl : k = n := by omega
      go_wp2
      go_ret
      exact ⟨rfl, _, rfl⟩

/-- The counters behind one more of a key. -/
def bump (T : Nat → Nat → Int) (W : Nat) (key : Int) (n : Nat) : Nat → Nat → Int := fun i j => if i < n ∧ j = mixF key i W then T i j + 1 else T i j
def halve (T : Nat → Nat → Int) : Nat → Nat → Int := fun i j => T i j / 2

set_option maxHeartbeats 1000000 in
theorem age_any (b g cap n W : Nat) (R : Nat → Nat) (after adds : Int) (T : Nat → Nat → Int) (w : World) (h : Sk w b g cap n W R after adds T) (hT : ∀ i j, 0 ≤ T i j ∧ T i j ≤ 9223372036854775806) :
    Calls Tryd.prog 16 #[.pointer (some ⟨b, 0, none⟩)] w fun e w' => e = .returned (.tuple #[]) ∧ Sk w' b g cap n W R after 0 (halve T) ∧ Chg (SkS b n R) w w' := by
  have H := Lib.hid h
  have HT := Lib.hid hT
  have c0 := h.c0
  have hn : n ≤ 8 := h.size.2.1
  have hW : 0 < W ∧ W ≤ 65536 := by have := h.size; omega
  clear h hT
  go_enter Tryd.func16, Tryd.ntmps16
  go_wp2
  go_loopw [10] (fun i wr => ∃ (k : Nat), k ≤ n ∧ i = .int .i64 (↑k : Int) ∧ Hid (Sk wr b g cap n W R after adds (fun i j => if i < k then T i j / 2 else T i j)) ∧ Chg (SkS b n R) w wr) (fun i _ => n - (intOf i).toNat)
  case atStart => exact ⟨0, by omega, rfl, H.out.congr (fun _ _ _ _ => by simp), Chg.refl _ _⟩
  case round =>
    obtain ⟨k, hk1, rfl, HK, gg⟩ := hrel
    by_cases hlt : k < n
    · have cr := HK.out.rows k hlt
      obtain ⟨wo, rfl⟩ : ∃ wo : World, wo = wr := ⟨_, rfl⟩
      go_wp2
      go_loopw [16] (fun i wr => ∃ (m : Nat), m ≤ W ∧ i = .int .i64 (↑m : Int) ∧ Hid (Sk wr b g cap n W R after adds (fun i j => if i < k ∨ i = k ∧ j < m then T i j / 2 else T i j)) ∧ Chg (SkS b n R) w wr) (fun i _ => W - (intOf i).toNat)
      case atStart => exact ⟨0, by omega, rfl, HK.out.congr (fun _ _ _ _ => by simp), gg⟩
      case round =>
        obtain ⟨m, hm1, rfl, HM, gm⟩ := hrel
        by_cases hmt : m < W
        · have cm := HM.out.cells k hlt m hmt
          simp at cm
          have fm := HM.out.rfz k hlt m
          have hb := HT.out k m
          go_wp2
          go_roundw
          case rel => exact ⟨m + 1, by omega, by go_num, (HM.out.set hlt hmt _).congr (fun i hi j hj => by
            by_cases e : i = k ∧ j = m
            · rw [if_pos e, e.1, e.2]; simp
            · rw [if_neg e]; congr 1; simp; omega), gm.setCell (.inl (.inr ⟨k, hlt, rfl⟩)) _⟩
          case measure => simp [intOf]; omega
        · obtain rfl : m = W := by omega
          go_wp2
          go_roundw
          case rel => exact ⟨k + 1, by omega, by go_num, HM.out.congr (fun i hi j hj => by congr 1; simp; omega), gm⟩
          case measure => simp [intOf]; omega
    · obtain rfl : k = n := by omega
      have c2 := HK.out.c2
      have fz := HK.out.fz
      go_wp2
      go_end0
      exact ⟨rfl, (HK.out.setAdds 0).congr (fun i hi j hj => by simp [hi, halve]), gg.setCell (.inl (.inl rfl)) _⟩
end Go.Proofs.YtpapfnfdaklnlaaDoor
