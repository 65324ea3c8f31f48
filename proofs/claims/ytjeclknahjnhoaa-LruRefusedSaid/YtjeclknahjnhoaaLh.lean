/- The laws' helper awake. -/
import Derived.Test.YtjeclknahjnhoaaLy
namespace Go.Proofs.Ytjeclknahjnhoaa
set_option linter.unusedVariables false
open Go.RowKit

/-- The list alone tells (T, K); it lies above w0's memory, none of it in Z. -/
def U4 (w0 : World) (Z : Nat → Prop) (b : Nat) (most : Int) (N : Nat) (T K : List Pt) (w : World) : Prop := ∃ O, Ls w O b most N T K ∧ (∀ k, O k → w0.heap.size ≤ k) ∧ Chg (fun _ => False) w0 w ∧ (∀ k, Z k → ¬ O k ∧ k < w.heap.size)
section
variable {w0 w w' : World} {Z : Nat → Prop} {b N : Nat} {most : Int} {T K : List Pt}
theorem U4.still (h : U4 w0 Z b most N T K w) (k : Chg (fun _ => False) w w') : U4 w0 Z b most N T K w' := by
  obtain ⟨O, h1, h4, h6, hz⟩ := h
  exact ⟨O, h1.still k, h4, h6.trans k fun _ _ h => h, fun i hi => ⟨(hz i hi).1, Nat.lt_of_lt_of_le (hz i hi).2 k.size⟩⟩
theorem U4.box (h : U4 w0 Z b most N T K w) (k : Chg (fun _ => False) w w') : U4 w0 (fun i => Z i ∨ (w.heap.size ≤ i ∧ i < w'.heap.size)) b most N T K w' := by
  obtain ⟨O, h1, h4, h6, hz⟩ := h
  refine ⟨O, h1.still k, h4, h6.trans k fun _ _ h => h, ?_⟩
  rintro i (hi | hi)
  · exact ⟨(hz i hi).1, Nat.lt_of_lt_of_le (hz i hi).2 k.size⟩
  · exact ⟨fun ho => by have := h1.lt i ho; omega, hi.2⟩
theorem U4.g (h : U4 w0 Z b most N T K w) : Chg (fun _ => False) w0 w := by obtain ⟨O, _, _, h6, _⟩ := h; exact h6
theorem U4.post {M : Nat} {T2 K2 : List Pt} {O : Nat → Prop} (h4 : ∀ k, O k → w0.heap.size ≤ k) (h6 : Chg (fun _ => False) w0 w) (hz : ∀ k, Z k → ¬ O k ∧ k < w.heap.size) (hp : LsPost w O b most M T2 K2 w') : U4 w0 Z b most M T2 K2 w' ∧ Chg (fun i => ¬ Z i) w w' := by
  obtain ⟨k1, k2⟩ := hp
  have hs := h6.size
  refine ⟨⟨GrowO O w w', k1, ?_, h6.trans k2 fun i hi ho => (by have := h4 i ho; omega), ?_⟩, k2.mono fun i _ ho hzi => (hz i hzi).1 ho⟩
  · rintro k (hk | hk)
    · exact h4 k hk
    · omega
  · intro k hk
    obtain ⟨z1, z3⟩ := hz k hk
    exact ⟨fun ho => ho.elim z1 fun ho => by omega, Nat.lt_of_lt_of_le z3 k2.size⟩
end
section
variable (w0 w : World) (Z : Nat → Prop) (b : Nat) (most : Int) (N : Nat) (T K T2 K2 : List Pt) (x n c : Int) (d : Bool)
theorem add_u (h : U4 w0 Z b most N T K w) (hN : N ≤ 998) (hx : (Lit.int .i64 x).wf = true) (hc : addC T K x n = c) (ht : addT T K x n = T2) : Calls Try.prog 25 #[.pointer (some ⟨b, 0, none⟩), .int .i64 x, .int .i64 n] w fun e w' => e = .returned (.int .i64 c) ∧ U4 w0 Z b most (N + 1) T2 K w' ∧ Chg (fun i => ¬ Z i) w w' := by
  subst hc ht
  obtain ⟨O, h1, h4, h6, hz⟩ := h
  refine (add_ls w O b most N T K x n h1 hN hx).mono ?_
  rintro e w' ⟨rfl, hp⟩
  exact ⟨rfl, U4.post h4 h6 hz hp⟩
theorem touch_u (h : U4 w0 Z b most N T K w) (h0 : 0 ≤ most) (hN : N ≤ 998) (hx : (Lit.int .i64 x).wf = true) (hc : hasK (T ++ K) x = d) (ht : touchS most T K x = (T2, K2)) : Calls Try.prog 24 #[.pointer (some ⟨b, 0, none⟩), .int .i64 x] w fun e w' => e = .returned (.bool d) ∧ U4 w0 Z b most (N + 1) T2 K2 w' ∧ Chg (fun i => ¬ Z i) w w' := by
  obtain ⟨O, h1, h4, h6, hz⟩ := h
  refine (touch_ls w O b most N T K x h1 h0 hN hx).mono ?_
  rintro e w' ⟨rfl, hp⟩
  rw [ht] at hp
  exact ⟨by rw [hc], U4.post h4 h6 hz hp⟩
theorem drop_u (h : U4 w0 Z b most N T K w) (hN : N ≤ 998) (hx : (Lit.int .i64 x).wf = true) (hc : hasK (T ++ K) x = d) (ht : dropS T K x = (T2, K2)) : Calls Try.prog 26 #[.pointer (some ⟨b, 0, none⟩), .int .i64 x] w fun e w' => e = .returned (.bool d) ∧ U4 w0 Z b most (N + 1) T2 K2 w' ∧ Chg (fun i => ¬ Z i) w w' := by
  obtain ⟨O, h1, h4, h6, hz⟩ := h
  refine (drop_ls w O b most N T K x h1 hN hx).mono ?_
  rintro e w' ⟨rfl, hp⟩
  rw [ht] at hp
  exact ⟨by rw [hc], U4.post h4 h6 hz hp⟩
theorem kept_u (h : U4 w0 Z b most N T K w) (hx : (Lit.int .i64 x).wf = true) (hc : hasK K x = d) : Calls Try.prog 21 #[.pointer (some ⟨b, 0, none⟩), .int .i64 x] w fun e w' => e = .returned (.bool d) ∧ w = w' := by
  subst hc
  obtain ⟨O, h1, _⟩ := h
  exact kept_ls w O b most N T K x h1 hx
theorem has_u (h : U4 w0 Z b most N T K w) (hx : (Lit.int .i64 x).wf = true) (hc : atK (T ++ K) x = c) (hd : hasK (T ++ K) x = d) : Calls Try.prog 19 #[.pointer (some ⟨b, 0, none⟩), .int .i64 x] w fun e w' => e = .returned (.tuple #[.int .i64 c, .bool d]) ∧ w = w' := by
  subst hc hd
  obtain ⟨O, h1, _⟩ := h
  exact has_ls w O b most N T K x h1 hx
theorem bytes_u (h : U4 w0 Z b most N T K w) (hN : N ≤ 998) (hc : sumP T + sumP K = x) (hd : sumP K = n) : Calls Try.prog 17 #[.pointer (some ⟨b, 0, none⟩)] w fun e w' => e = .returned (.tuple #[.int .i64 x, .int .i64 n]) ∧ U4 w0 Z b most N T K w' ∧ Chg (fun _ => False) w w' := by
  subst hc hd
  obtain ⟨O, h1, h2⟩ := id h
  refine (bytes_ls w O b most N T K h1 hN).mono ?_
  rintro e w' ⟨rfl, k⟩
  exact ⟨rfl, h.still k, k⟩
theorem order_u (ks : List Int) (h : U4 w0 Z b most N T K w) (hN : N ≤ 998) (hk : keysP (T ++ K) = ks) : Calls Try.prog 15 #[.pointer (some ⟨b, 0, none⟩)] w fun e w' => OrdPost w ks e w' ∧ U4 w0 (fun i => Z i ∨ (w.heap.size ≤ i ∧ i < w'.heap.size)) b most N T K w' := by
  subst hk
  obtain ⟨O, h1, h2⟩ := id h
  refine (order_ls w O b most N T K h1 hN).mono ?_
  rintro e w' ⟨a, c, rfl, ho, k⟩
  exact ⟨⟨a, c, rfl, ho, k⟩, h.box k⟩
end
/-- A slice that was made, while memory outside Z turns. -/
def Kp (w0 : World) (Z : Nat → Prop) (a : Option Addr) (c : Nat) (ks : List Int) (w : World) : Prop := IsK w a c ks ∧ ∀ g, (Value.slice a ks.length c).ownBlock = some g → Z g
theorem Kp.keep {w0 w w' : World} {Z : Nat → Prop} {a : Option Addr} {c : Nat} {ks : List Int} (h : Kp w0 Z a c ks w) (k : Chg (fun i => ¬ Z i) w w') : Kp w0 Z a c ks w' := ⟨h.1.keep k fun g hg hn => hn (h.2 g hg), h.2⟩
theorem Kp.wide {w0 w : World} {Z Z' : Nat → Prop} {a : Option Addr} {c : Nat} {ks : List Int} (h : Kp w0 Z a c ks w) (hz : ∀ i, Z i → Z' i) : Kp w0 Z' a c ks w := ⟨h.1, fun g hg => hz g (h.2 g hg)⟩
theorem Kp.new {w0 w w' : World} {Z : Nat → Prop} {a : Option Addr} {c : Nat} {ks : List Int} (ho : w'.ownsRow w.heap.size 2 1 (.slice a ks.length c) ks.length (nums ks)) : Kp w0 (fun i => Z i ∨ (w.heap.size ≤ i ∧ i < w'.heap.size)) a c ks w' :=
  ⟨RdS.row ho (nums_one _), fun g hg => .inr (own_below ho hg)⟩
theorem is_three {w : World} {q : Nat} {x y z : Int} (h0 : w.cell? ⟨q, 0, none⟩ = some (.int .i64 x)) (h1 : w.cell? ⟨q, 1, none⟩ = some (.int .i64 y)) (h2 : w.cell? ⟨q, 2, none⟩ = some (.int .i64 z)) : IsK w (some ⟨q, 0, none⟩) 3 [x, y, z] := by
  refine ⟨rfl, ⟨Nat.le_refl _, by unfold maxLen; show 3 ≤ _; omega⟩, (fun e => nomatch e), nums_one _, fun j u' hj => ?_, fun x hx => by injection hx with hx; exact ⟨_, _, hx.symm⟩⟩
  refine ⟨q, 0, rfl, ?_⟩
  match j, hj with
  | 0, hj => injection hj with hj; subst hj; exact h0
  | 1, hj => injection hj with hj; subst hj; exact h1
  | 2, hj => injection hj with hj; subst hj; exact h2
def rowK (k : Nat) : List Pt := (List.range k).map fun (i : Nat) => ((i : Int) + 1, (6 : Int))
set_option maxHeartbeats 4000000 in
set_option maxRecDepth 100000 in
theorem awake_any (w : World) : Calls Try.prog 10 #[] w fun e w' => e = .returned (.bool true) ∧ Chg (fun _ => False) w w' := by
  go_enter Try.func10, Try.ntmps10
  go_wp2_with fail
  refine (new_ls w 10 rfl).mono ?_
  rintro e w1 ⟨rfl, hL, g1⟩
  obtain ⟨b, hb⟩ : ∃ b, b = w.heap.size := ⟨_, rfl⟩
  rw [← hb] at hL ⊢
  have H1 : Hid (U4 w (fun _ => False) b 10 0 [] [] w1) := ⟨_, hL, fun k hk => by omega, g1, fun k hk => hk.elim⟩
  clear hL g1 hb
  go_wp2_with fail
  refine (new_bad w1 (-1) rfl).mono ?_
  rintro e w1' ⟨rfl, rfl⟩
  go_wp2_with fail
  go_loopw [32] (fun i wr => ∃ k : Nat, k ≤ 3 ∧ i = .int .i64 (↑k : Int) ∧ Hid (U4 w (fun _ => False) b 10 k (rowK k) [] wr)) (fun i _ => 3 - (intOf i).toNat)
  case atStart => exact ⟨0, by omega, rfl, H1⟩
  case round =>
    obtain ⟨k, hk, rfl, HU⟩ := hrel
    by_cases hk3 : k < 3
    · have hc : Hid (addC (rowK k) [] ((k : Int) + 1) 6 = 0) := by
        show _ = _
        have : k = 0 ∨ k = 1 ∨ k = 2 := by omega
        rcases this with rfl | rfl | rfl <;> decide
      have ht : Hid (addT (rowK k) [] ((k : Int) + 1) 6 = rowK (k + 1)) := by
        show _ = _
        have : k = 0 ∨ k = 1 ∨ k = 2 := by omega
        rcases this with rfl | rfl | rfl <;> decide
      go_wp2_with fail
      refine (add_u w wr _ b 10 k (rowK k) [] (rowK (k + 1)) ((k : Int) + 1) 6 0 HU.out (by omega) (WalkArith.wf_i64 (by omega)) hc.out ht.out).mono ?_
      rintro e w2 ⟨rfl, hU, _⟩
      have HU2 := Lib.hid hU
      clear hU
      go_wp2
      go_roundw
      case rel => exact ⟨k + 1, by omega, by go_num, HU2.out⟩
      case measure => simp [intOf]; omega
    · obtain rfl : k = 3 := by omega
      clear hk hk3
      go_wp2_with fail
      refine (touch_u w wr _ b 10 3 (rowK 3) [] [(2, 6), (3, 6)] [(1, 6)] 1 true HU.out (by omega) (by omega) (by decide) (by decide) (by decide)).mono ?_
      rintro e w2 ⟨rfl, hU, _⟩
      have HU2 := Lib.hid hU
      clear hU
      go_wp2_with fail
      refine (order_u w w2 _ b 10 4 [(2, 6), (3, 6)] [(1, 6)] [2, 3, 1] HU2.out (by omega) rfl).mono ?_
      rintro e w3 ⟨⟨a3, c3, rfl, ho3, g3⟩, hU3⟩
      have HX3 := Lib.hid (Kp.new (w0 := w) (Z := fun _ => False) ho3)
      have HU3 := Lib.hid hU3
      clear ho3 g3 hU3
      go_wp2_with fail
      refine (touch_u w w3 _ b 10 4 [(2, 6), (3, 6)] [(1, 6)] [(3, 6), (1, 6)] [(2, 6)] 2 true HU3.out (by omega) (by omega) (by decide) (by decide) (by decide)).mono ?_
      rintro e w4 ⟨rfl, hU, g4⟩
      have HU4 := Lib.hid hU
      have HX4 := Lib.hid (HX3.out.keep g4)
      clear hU g4
      go_wp2_with fail
      refine (order_u w w4 _ b 10 5 [(3, 6), (1, 6)] [(2, 6)] [3, 1, 2] HU4.out (by omega) rfl).mono ?_
      rintro e w5 ⟨⟨a5, c5, rfl, ho5, g5⟩, hU5⟩
      have HY5 := Lib.hid (Kp.new (w0 := w) (Z := fun _ => False) ho5)
      have HU5 := Lib.hid hU5
      have HX5 : Hid (IsK w5 a3 c3 [2, 3, 1]) := HX4.out.1.keep g5 fun _ _ => id
      clear ho5 g5 hU5
      go_wp2_with fail
      refine (bytes_u w w5 _ b 10 5 [(3, 6), (1, 6)] [(2, 6)] 18 6 HU5.out (by omega) rfl rfl).mono ?_
      rintro e w6 ⟨rfl, hU, g6⟩
      have HU6 := Lib.hid hU
      have HX6 : Hid (IsK w6 a3 c3 [2, 3, 1]) := HX5.out.keep g6 fun _ _ => id
      have HY6 : Hid (IsK w6 a5 c5 [3, 1, 2]) := HY5.out.1.keep g6 fun _ _ => id
      clear hU g6
      go_wp2_with fail
      refine (has_u w w6 _ b 10 5 [(3, 6), (1, 6)] [(2, 6)] 3 6 true HU6.out (by decide) (by decide) (by decide)).mono ?_
      rintro e w6' ⟨rfl, rfl⟩
      go_wp2_with fail
      refine name_calls ?_; intro W hW
      have gW : Chg (fun _ => False) w6 W := by subst hW; exact (by repeat (first | with_reducible exact Chg.refl _ _ | with_reducible assumption | with_reducible refine Chg.drewN ?_ _ | with_reducible refine Chg.drew ?_ | with_reducible refine Chg.alloc ?_ _ | with_reducible refine Chg.setCell ?_ (by first | (left; rfl) | (left; left; rfl) | (left; right; rfl) | (left; right; left; rfl) | (left; right; right; rfl) | (right; exact Nat.le_refl _) | (right; simp; done) | (right; omega) | (right; simp at *; omega) | (simp at *; omega)) _ | with_reducible refine Chg.trans ?_ (by with_reducible assumption) (by intro i hi hT; first | exact hT | exact False.elim hT | omega | (simp at *; omega))))
      have r0 : W.cell? ⟨w6.heap.size, 0, none⟩ = some (.int .i64 2) := by subst hW; go_simp
      have r1 : W.cell? ⟨w6.heap.size, 1, none⟩ = some (.int .i64 3) := by subst hW; go_simp
      have r2 : W.cell? ⟨w6.heap.size, 2, none⟩ = some (.int .i64 1) := by subst hW; go_simp
      clear hW
      have HU7 := Lib.hid (HU6.out.still gW)
      have HX7 : Hid (IsK W a3 c3 [2, 3, 1]) := HX6.out.keep gW fun _ _ => id
      have HY7 : Hid (IsK W a5 c5 [3, 1, 2]) := HY6.out.keep gW fun _ _ => id
      have HZ7 := Lib.hid (is_three r0 r1 r2)
      clear gW r0 r1 r2
      refine (same_any W a3 _ c3 3 [2, 3, 1] HX7.out HZ7.out (by decide)).mono ?_
      rintro e w8 ⟨rfl, g8⟩
      have HU8 := Lib.hid (HU7.out.still g8)
      have HY8 : Hid (IsK w8 a5 c5 [3, 1, 2]) := HY7.out.keep g8 fun _ _ => id
      clear g8
      go_wp2_with fail
      refine name_calls ?_; intro W hW
      have gW : Chg (fun _ => False) w8 W := by subst hW; exact (by repeat (first | with_reducible exact Chg.refl _ _ | with_reducible assumption | with_reducible refine Chg.drewN ?_ _ | with_reducible refine Chg.drew ?_ | with_reducible refine Chg.alloc ?_ _ | with_reducible refine Chg.setCell ?_ (by first | (left; rfl) | (left; left; rfl) | (left; right; rfl) | (left; right; left; rfl) | (left; right; right; rfl) | (right; exact Nat.le_refl _) | (right; simp; done) | (right; omega) | (right; simp at *; omega) | (simp at *; omega)) _ | with_reducible refine Chg.trans ?_ (by with_reducible assumption) (by intro i hi hT; first | exact hT | exact False.elim hT | omega | (simp at *; omega))))
      have r0 : W.cell? ⟨w8.heap.size, 0, none⟩ = some (.int .i64 3) := by subst hW; go_simp
      have r1 : W.cell? ⟨w8.heap.size, 1, none⟩ = some (.int .i64 1) := by subst hW; go_simp
      have r2 : W.cell? ⟨w8.heap.size, 2, none⟩ = some (.int .i64 2) := by subst hW; go_simp
      clear hW
      have HU9 := Lib.hid (HU8.out.still gW)
      have HY9 : Hid (IsK W a5 c5 [3, 1, 2]) := HY8.out.keep gW fun _ _ => id
      have HZ9 := Lib.hid (is_three r0 r1 r2)
      clear gW r0 r1 r2
      refine (same_any W a5 _ c5 3 [3, 1, 2] HY9.out HZ9.out (by decide)).mono ?_
      rintro e w10 ⟨rfl, g10⟩
      have HU10 := Lib.hid (HU9.out.still g10)
      clear g10
      go_wp2_with fail
      refine (kept_u w w10 _ b 10 5 [(3, 6), (1, 6)] [(2, 6)] 2 true HU10.out (by decide) (by decide)).mono ?_
      rintro e w10' ⟨rfl, rfl⟩
      go_wp2_with fail
      refine (kept_u w w10 _ b 10 5 [(3, 6), (1, 6)] [(2, 6)] 1 false HU10.out (by decide) (by decide)).mono ?_
      rintro e w10' ⟨rfl, rfl⟩
      go_wp2_with fail
      refine (add_u w w10 _ b 10 5 [(3, 6), (1, 6)] [(2, 6)] [(3, 6), (1, 6)] 3 1 7 HU10.out (by omega) (by decide) (by decide) (by decide)).mono ?_
      rintro e w11 ⟨rfl, hU, _⟩
      have HU11 := Lib.hid hU
      clear hU
      go_wp2_with fail
      refine (add_u w w11 _ b 10 6 [(3, 6), (1, 6)] [(2, 6)] [(3, 6), (1, 6)] 9 0 1 HU11.out (by omega) (by decide) (by decide) (by decide)).mono ?_
      rintro e w12 ⟨rfl, hU, _⟩
      have HU12 := Lib.hid hU
      clear hU
      go_wp2_with fail
      refine (touch_u w w12 _ b 10 7 [(3, 6), (1, 6)] [(2, 6)] [(3, 6), (1, 6)] [(2, 6)] 9 false HU12.out (by omega) (by omega) (by decide) (by decide) (by decide)).mono ?_
      rintro e w13 ⟨rfl, hU, _⟩
      have HU13 := Lib.hid hU
      clear hU
      go_wp2_with fail
      refine (drop_u w w13 _ b 10 8 [(3, 6), (1, 6)] [(2, 6)] [(1, 6)] [(2, 6)] 3 true HU13.out (by omega) (by decide) (by decide) (by decide)).mono ?_
      rintro e w14 ⟨rfl, hU, _⟩
      have HU14 := Lib.hid hU
      clear hU
      go_wp2_with fail
      refine (drop_u w w14 _ b 10 9 [(1, 6)] [(2, 6)] [(1, 6)] [(2, 6)] 3 false HU14.out (by omega) (by decide) (by decide) (by decide)).mono ?_
      rintro e w15 ⟨rfl, hU, _⟩
      have HG := Lib.hid hU.g
      clear hU
      go_wp2
      go_ret
      exact ⟨rfl, HG.out⟩
end Go.Proofs.Ytjeclknahjnhoaa
