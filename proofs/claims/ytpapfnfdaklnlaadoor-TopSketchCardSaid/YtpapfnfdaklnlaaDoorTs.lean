/- TopSketch: the sketch of all keys tells of each key at least how often it was told. -/
import Derived.Test.YtpapfnfdaklnlaaDoorTi
import Derived.Test.YtpapfnfdaklnlaaDoorSn
namespace Go.Proofs.YtpapfnfdaklnlaaDoor
set_option linter.unusedVariables false
open Go.RowKit

theorem leastF_ge {T : Nat → Nat → Int} {W : Nat} {key t : Int} {n : Nat} (h : ∀ i, i < n → t ≤ T i (mixF key i W)) : ∀ k, 0 < k → k ≤ n → t ≤ leastF T W key k
  | 0, h0, _ => by omega
  | 1, _, hk => h 0 (by omega)
  | k + 2, _, hk => by
    have e := leastF_ge h (k + 1) (by omega) (by omega)
    have e2 := h (k + 1) (by omega)
    simp only [leastF]; split <;> assumption
/-- The sketch's table behind these keys. -/
def tabS (n W : Nat) (ns : List Int) : Nat → Nat → Int := ns.foldl (fun T k => bump T W k n) fun _ _ => 0
theorem tabS_snoc (n W : Nat) (ns : List Int) (k : Int) : tabS n W (ns ++ [k]) = bump (tabS n W ns) W k n := by simp [tabS]
theorem snoc_ind {P : List Int → Prop} (h0 : P []) (h1 : ∀ l x, P l → P (l ++ [x])) (l : List Int) : P l := by
  have : ∀ m : List Int, P m.reverse := by
    intro m
    induction m with
    | nil => exact h0
    | cons x m ih => rw [List.reverse_cons]; exact h1 _ _ ih
  have h := this l.reverse
  rwa [List.reverse_reverse] at h
theorem tabS_bd (n W : Nat) (ns : List Int) : ∀ i j, 0 ≤ tabS n W ns i j ∧ tabS n W ns i j ≤ ns.length := by
  induction ns using snoc_ind with
  | h0 => intro i j; simp [tabS]
  | h1 l x ih =>
    intro i j
    have := ih i j
    rw [tabS_snoc]
    unfold bump
    simp only [List.length_append, List.length_cons, List.length_nil]
    split <;> omega
/-- How often a key stands in a list. -/
def cnt (x : Int) (l : List Int) : Nat := (l.filter fun y => decide (y = x)).length
theorem cnt_snoc (x : Int) (l : List Int) (y : Int) : cnt x (l ++ [y]) = cnt x l + if y = x then 1 else 0 := by
  unfold cnt
  by_cases h : y = x <;> simp [h]
theorem cnt_le (x : Int) (l : List Int) : cnt x l ≤ l.length := List.length_filter_le _ _
theorem tabS_ge (n W : Nat) (x : Int) (ns : List Int) : ∀ i, i < n → (cnt x ns : Int) ≤ tabS n W ns i (mixF x i W) := by
  induction ns using snoc_ind with
  | h0 => intro i _; simp [tabS, cnt]
  | h1 l y ih =>
    intro i hi
    have := ih i hi
    rw [tabS_snoc, cnt_snoc]
    unfold bump
    by_cases h : y = x
    · subst h; simp [hi]; omega
    · simp only [if_neg h]
      split <;> omega
theorem told (n W : Nat) (x : Int) (ns : List Int) (hn : 0 < n) : (cnt x ns : Int) ≤ leastF (tabS n W ns) W x n := leastF_ge (tabS_ge n W x ns) n hn (Nat.le_refl _)

theorem up_own {w w1 w2 : World} {b n : Nat} {R : Nat → Nat} (h : Chg (fun c => w.heap.size ≤ c) w w1) (k : Chg (SkS b n R) w1 w2) (hb : w.heap.size ≤ b) (hR : ∀ i, i < n → w.heap.size ≤ R i) : Chg (fun c => w.heap.size ≤ c) w w2 :=
  h.trans k fun i _ hs => by
    rcases hs with rfl | ⟨j, hj, rfl⟩
    · exact hb
    · exact hR j hj
theorem up_done {w w' : World} (h : Chg (fun c => w.heap.size ≤ c) w w') : Below w.heap.size w w' := ⟨h.os, h.tape, h.output, h.size, fun k hk => h.block k hk (by omega)⟩

set_option maxHeartbeats 8000000 in
theorem topSketch_any (a : Option Addr) (cap : Nat) (xs : List Int) (r d : Int) (w : World) (hwf : ∀ x ∈ xs, 0 ≤ x ∧ x ≤ 18446744073709551615) (hcap : xs.length ≤ cap) (hm : cap ≤ 9223372036854775807) (hr : 0 ≤ r ∧ r ≤ 255) (hd : 0 ≤ d ∧ d ≤ 255)
    (hc : ∀ (i : Nat) x, xs[i]? = some x → ∃ b off, a = some ⟨b, off, none⟩ ∧ b < w.heap.size ∧ ∀ (j : Nat) y, xs[j]? = some y → w.cell? ⟨b, off + j, none⟩ = some (.int .u64 y)) :
    Calls Tryd.prog 3 #[.slice a xs.length cap, .int .u8 r, .int .u8 d] w fun e w' => e = .returned (.bool true) ∧ Below w.heap.size w w' := by
  have HC := Lib.hid hc
  have HW := Lib.hid hwf
  clear hc hwf
  obtain ⟨n, hn⟩ : ∃ n, xs.length = n := ⟨_, rfl⟩
  rw [hn] at hcap ⊢
  have HN := Lib.hid hn
  clear hn
  go_enter Tryd.func3, Tryd.ntmps3
  by_cases h200 : n > 200
  · go_wp2_with fail
    refine (alive_any _).mono ?_; rintro e w4 ⟨rfl, g4⟩
    go_wp2
    go_ret
    exact ⟨rfl, g4⟩
  · go_wp2_with fail
    obtain ⟨m, hm1, hm2⟩ : ∃ m : Nat, 1 + r % 4 = (m : Int) ∧ 1 ≤ m ∧ m ≤ 8 := ⟨(1 + r % 4).toNat, by omega, by omega, by omega⟩
    obtain ⟨W, hW1, hW2⟩ : ∃ W : Nat, wrap64 (16 * 2 ^ (d % 4).toNat) = (W : Int) ∧ 1 ≤ W ∧ W ≤ 65536 := by
      have h4 : d % 4 = 0 ∨ d % 4 = 1 ∨ d % 4 = 2 ∨ d % 4 = 3 := by omega
      rcases h4 with h | h | h | h <;> rw [h]
      · exact ⟨16, by kernel_rfl, by omega, by omega⟩
      · exact ⟨32, by kernel_rfl, by omega, by omega⟩
      · exact ⟨64, by kernel_rfl, by omega, by omega⟩
      · exact ⟨128, by kernel_rfl, by omega, by omega⟩
    rw [hm1, hW1]
    clear hm1 hW1 hr hd
    refine (new_try m W 1000 _ hm2 hW2 (by omega)).mono ?_; rintro e w4 ⟨rfl, ⟨g, gc, R, hs, hg, hR⟩, g4⟩
    have HS := Lib.hid hs
    have G4 := Lib.hid g4
    have HR := Lib.hid (show ∀ i, i < m → w.heap.size ≤ R i from fun i hi => Nat.le_of_lt (hR i hi))
    clear hs g4 hR hg
    go_wp2_with fail
    go_loopw [37] (fun i wr => ∃ k : Nat, k ≤ n ∧ i = .int .i64 (↑k : Int) ∧ Hid (Sk wr w.heap.size g gc m W R 1000 k (tabS m W (xs.take k))) ∧ Hid (Chg (fun c => w.heap.size ≤ c) w wr)) (fun i _ => n - (intOf i).toNat)
    case atStart => exact ⟨0, by omega, rfl, HS.out, G4.out.mono (fun _ _ h => h.elim)⟩
    case round =>
      obtain ⟨k, hk1, rfl, HK, HG⟩ := hrel
      obtain ⟨w1, hw1⟩ : ∃ w1, w1 = wr := ⟨_, rfl⟩
      subst hw1
      by_cases hlt : k < n
      · obtain ⟨x, hx⟩ := some_at (l := xs) (j := k) (by rw [HN.out]; exact hlt)
        obtain ⟨b, off, ra, hb, hcell⟩ := HC.out k x hx
        subst ra
        have HCC := Lib.hid hcell
        have kx : w1.cell? ⟨b, off + k, none⟩ = some (.int .u64 x) := (HG.out.cell hb (by omega) _).trans (hcell k x hx)
        have hwx := HW.out x (List.mem_of_getElem? hx)
        have ht : xs.take (k + 1) = xs.take k ++ [x] := by rw [List.take_add_one, hx]; rfl
        have hlk : (xs.take k).length ≤ 200 := by simp; omega
        have HX := Lib.hid hx
        have HT := Lib.hid ht
        clear hcell hx ht
        go_wp2_with fail
        refine (add_rows _ _ _ _ _ _ _ _ _ x _ HK.out hwx (fun i j => by have := tabS_bd m W (xs.take k) i j; omega) (by omega)).mono ?_; rintro e w5 ⟨rfl, hs, hc5⟩
        rw [if_neg (by omega), ← tabS_snoc, ← HT.out] at hs
        have HS5 := Lib.hid hs
        have HG5 := Lib.hid (up_own HG.out hc5 (Nat.le_refl _) HR.out)
        clear hs hc5 kx
        go_wp2_with fail
        have h5 : ∀ (j : Nat) y, xs[j]? = some y → w5.cell? ⟨b, off + j, none⟩ = some (.int .u64 y) := fun j y hy => (HG5.out.cell hb (by omega) _).trans (HCC.out j y hy)
        have H5 := Lib.hid h5
        clear h5
        go_loopw [11, 50] (fun t j wr => ∃ q : Nat, q ≤ k + 1 ∧ j = .int .i64 (↑q : Int) ∧ Hid (t = .int .i64 (cnt x (xs.take q) : Int)) ∧ Hid (wr = w5)) (fun _ j _ => k + 1 - (intOf j).toNat)
        case atStart => exact ⟨0, by omega, rfl, rfl, rfl⟩
        case round =>
          obtain ⟨q, hq1, rfl, HQ, HWr⟩ := hrel
          obtain rfl := HWr.out
          obtain rfl := HQ.out
          have hcl : cnt x (xs.take q) ≤ 200 := Nat.le_trans (cnt_le _ _) (by simp; omega)
          by_cases hlq : q < k + 1
          · obtain ⟨y, hy⟩ := some_at (l := xs) (j := q) (by rw [HN.out]; omega)
            have ky := H5.out q y hy
            have ht2 : cnt x (xs.take (q + 1)) = cnt x (xs.take q) + if y = x then 1 else 0 := by rw [List.take_add_one, hy]; exact cnt_snoc _ _ _
            have hyb := HW.out y (List.mem_of_getElem? hy)
            clear hy
            by_cases hyx : y = x
            · rw [if_pos hyx] at ht2
              have HT2 := Lib.hid ht2
              clear ht2
              go_wp2_with fail
              go_roundw
              case rel => exact ⟨q + 1, by omega, by go_num, by rw [HT2.out]; rfl, by first | rfl | exact Lib.hid trivial⟩
              case measure => simp [intOf]; omega
            · rw [if_neg hyx] at ht2
              have HT2 := Lib.hid ht2
              clear ht2
              go_wp2_with fail
              go_roundw
              case rel => exact ⟨q + 1, by omega, by go_num, by rw [HT2.out]; rfl, by first | rfl | exact Lib.hid trivial⟩
              case measure => simp [intOf]; omega
          · obtain rfl : q = k + 1 := by omega
            go_wp2_with fail
            refine (count_any _ _ _ _ _ _ _ _ _ x _ HS5.out hwx (fun i j => by have := tabS_bd m W (xs.take (k + 1)) i j; have : (xs.take (k + 1)).length ≤ 201 := (by simp; omega); omega)).mono ?_; rintro e w6 ⟨rfl, n6, rfl⟩
            have hle := told m W x (xs.take (k + 1)) (by omega)
            obtain ⟨ta, hta⟩ : ∃ ta, leastF (tabS m W (xs.take (k + 1))) W x m = ta := ⟨_, rfl⟩
            rw [hta] at hle ⊢
            clear hta
            obtain ⟨tc, htc⟩ : ∃ tc : Nat, cnt x (xs.take (k + 1)) = tc := ⟨_, rfl⟩
            rw [htc] at hle hcl ⊢
            clear htc
            have HS6 := Lib.hid (HS5.out.drewN n6)
            have HG6 := Lib.hid (HG5.out.drewN n6)
            go_wp2_with fail
            go_roundw
            case rel => exact ⟨k + 1, by omega, by go_num, HS6.out, HG6.out⟩
            case measure => simp [intOf]; omega
      · obtain rfl : k = n := by omega
        go_wp2_with fail
        refine (alive_any _).mono ?_; rintro e w6 ⟨rfl, g6⟩
        go_wp2
        go_ret
        exact ⟨rfl, up_done (HG.out.trans (Chg.ofBelow g6) (fun _ _ h => h))⟩
end Go.Proofs.YtpapfnfdaklnlaaDoor
