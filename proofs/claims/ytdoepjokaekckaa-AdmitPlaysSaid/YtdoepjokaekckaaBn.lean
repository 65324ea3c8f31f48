/- The laws' helper alive; the law Nil. -/
import Derived.Test.YtdoepjokaekckaaBm
import Derived.Laws.Rows
namespace Go.Proofs.Ytdoepjokaekckaa
set_option linter.unusedVariables false
open Go.RowKit

theorem dr1 : (dropsX [] [] []).1 ++ [t1] = [t1] ∧ (dropsX [] [] []).2 = [] := by decide +kernel
theorem dr3 : (dropsX [t1] [] [t1]).1 ++ [t2] = [t2] ∧ (dropsX [t1] [] [t1]).2 = [] := by decide +kernel
theorem to3 : touchX (10 - 10 / 5) [t1] [] 2 = ([t1], []) := by decide +kernel
theorem kt3 : keyT [t1] = [1] := rfl
theorem gx2 : (getX ([t2] ++ []) 2).isSome = true := by decide +kernel
theorem gx1 : (getX ([t2] ++ []) 1).isSome = false := by decide +kernel
theorem offY {w : World} {lab : Nat → Nat} {d : Nat} {room share : Int} {N : Nat} {T K : List Tg} {ns : List Int} {t : Tg} {hs : List Int} {e : Ending} {w' : World} (h : OffPost w lab d room share N T K ns t hs e w') (hY : offB room share T K ns t hs = true) {G T2 K2 : List Tg} (hG : (goesX room share T K t hs).G = G) (hD : (dropsX T K G).1 ++ [t] = T2 ∧ (dropsX T K G).2 = K2) :
    ∃ a c lab', e = .returned (.tuple #[.bool true, .slice a G.length c]) ∧ w'.ownsRow w.heap.size 2 1 (.slice a G.length c) G.length (nums (keyT G)) ∧ (∀ q, (Value.slice a G.length c).ownBlock = some q → lab' q = 0) ∧ Dr w' lab' d room share (N + 3 * G.length + 3) T2 K2 ns ∧ Lab w lab lab' w' := by
  rcases h with ⟨h, _⟩ | ⟨_, h⟩
  · rw [hY] at h; cases h
  · rw [hG, hD.1, hD.2] at h; exact h
theorem offN {w : World} {lab : Nat → Nat} {d : Nat} {room share : Int} {N : Nat} {T K : List Tg} {ns : List Int} {t : Tg} {hs : List Int} {e : Ending} {w' : World} (h : OffPost w lab d room share N T K ns t hs e w') (hY : offB room share T K ns t hs = false) : e = .returned (.tuple #[.bool false, .slice none 0 0]) ∧ Chg (fun _ => False) w w' := by
  rcases h with ⟨_, h⟩ | ⟨h, _⟩
  · exact h
  · rw [hY] at h; cases h
set_option maxHeartbeats 4000000 in
theorem alive_any (w : World) : Calls Try.prog 8 #[] w fun e w' => e = .returned (.bool true) ∧ Chg (fun _ => False) w w' := by
  go_enter Try.func8, Try.ntmps8
  go_wp2_with fail
  refine (new_door w 10 10 (by omega)).mono ?_; rintro e w1 ⟨d, lab, rfl, hd, hl, g1⟩
  have H1 := Lib.hid hd
  have L1 := Lib.hid (And.intro hl g1)
  clear hd hl g1
  go_wp2_with fail
  refine (offer_dr w1 lab d 0 10 10 [] [] [] 1 6 ByteArray.empty 1 none 0 [] H1.out (by simp) (by omega) (by omega) (by decide) (by simp) (isH_nil _ _) (by simp) (by simp)).mono ?_; rintro e w2 hP
  obtain ⟨a2, c2, lab2, rfl, ho2, hf2, hd2, hl2⟩ := offY hP of1 go1 dr1
  have H2 := Lib.hid hd2
  have L2 := Lib.hid hl2
  clear hP ho2 hf2 hd2 hl2
  go_wp2_with fail
  refine (offer_dr w2 lab2 d _ 10 10 [t1] [] [] 2 6 ByteArray.empty 2 none 0 [] H2.out (by decide) (by omega) (by omega) (by decide) (by simp) (isH_nil _ _) (by simp) (by simp)).mono ?_; rintro e w3 hP
  obtain ⟨rfl, g3⟩ := offN hP of2
  have H3 := Lib.hid (H2.out.still g3)
  have L3 : Hid (Lab w1 lab lab2 w3) := L2.out.trans (Lab.still g3)
  clear hP g3
  go_wp2_with fail
  refine (ask_dr w3 lab2 d _ 10 10 [t1] [] [] 2 2 H3.out (by decide) (by omega) (by simp) (by decide)).mono ?_; rintro e w4 ⟨rfl, lab4, hd4, hl4⟩
  rw [to3] at hd4
  have H4 := Lib.hid hd4
  have L4 := Lib.hid (L3.out.trans hl4)
  clear hd4 hl4
  go_wp2_with fail
  refine (offer_dr w4 lab4 d _ 10 10 [t1] [] [2] 2 6 ByteArray.empty 2 none 0 [] H4.out (by decide) (by omega) (by omega) (by decide) (by simp) (isH_nil _ _) (by simp) (by simp)).mono ?_; rintro e w5 hP
  obtain ⟨a5, c5, lab5, rfl, ho5, hf5, hd5, hl5⟩ := offY hP of3 go3 dr3
  rw [kt3] at ho5
  have H5 := Lib.hid hd5
  have L5 := Lib.hid (L4.out.trans hl5)
  have HO5 : Hid (IsK w5 a5 c5 [1]) := RdS.row ho5 (nums_one _)
  clear hP ho5 hf5 hd5 hl5
  go_wp2_with fail
  refine (numbers_any _ a5 (some ⟨w5.heap.size, 0, none⟩) c5 1 [1] [1] (HO5.out.keep (S := fun _ => False) (by repeat (first | with_reducible exact Chg.refl _ _ | with_reducible assumption | with_reducible refine Chg.drewN ?_ _ | with_reducible refine Chg.drew ?_ | with_reducible refine Chg.alloc ?_ _ | with_reducible refine Chg.setCell ?_ (by first | (left; rfl) | (left; left; rfl) | (left; right; rfl) | (left; right; left; rfl) | (left; right; right; rfl) | (right; exact Nat.le_refl _) | (right; simp; done) | (right; omega) | (right; simp at *; omega) | (simp at *; omega)) _ | with_reducible refine Chg.trans ?_ (by with_reducible assumption) (by intro i hi hT; first | exact hT | exact False.elim hT | omega | (simp at *; omega)))) fun _ _ => id) (rd_one (u := .int .i64 1) (by go_simp) rfl)).mono ?_; rintro e w6 ⟨rfl, g6⟩
  rw [show decide (([1] : List Int) = [1]) = true from by decide]
  have g6' : Chg (fun _ => False) w5 w6 := ((Chg.refl (fun _ => False) w5).alloc _).trans g6 fun _ _ h => h
  have H6 := Lib.hid (H5.out.still g6')
  have L6 := Lib.hid (L5.out.trans (Lab.still g6'))
  clear g6 g6'
  go_wp2_with fail
  refine (has_dr w6 lab5 d _ 10 10 [t2] [] [2] 2 H6.out (by decide)).mono ?_; rintro e w7 ⟨rfl, g7⟩
  rw [gx2]
  have H7 := Lib.hid (H6.out.still g7)
  have L7 := Lib.hid (L6.out.trans (Lab.still g7))
  clear g7
  go_wp2_with fail
  refine (has_dr w7 lab5 d _ 10 10 [t2] [] [2] 1 H7.out (by decide)).mono ?_; rintro e w8 ⟨rfl, g8⟩
  rw [gx1]
  have L8 := Lib.hid (L7.out.trans (Lab.still g8))
  clear g8
  go_wp2
  go_ret
  exact ⟨rfl, L1.out.2.trans L8.out.2 fun i hi h => by have := L1.out.1 i hi; omega⟩
set_option maxHeartbeats 1000000 in
set_option maxRecDepth 10000 in
theorem thing_any (w : World) (x n : Int) (s : ByteArray) (nm : Int) : Calls Try.prog 12 #[.agg #[.int .i64 x, .int .i64 n, .string s, .int .u64 nm]] w fun e w' => e = .returned (tv (x, n, s, nm)) ∧ Chg (fun _ => False) w w' := by
  go_enter Try.func12, Try.ntmps12
  go_wp2
  refine bodyPost_ret (v := tv (x, n, s, nm)) ?_ rfl ⟨rfl, (by repeat (first | with_reducible exact Chg.refl _ _ | with_reducible assumption | with_reducible refine Chg.drewN ?_ _ | with_reducible refine Chg.drew ?_ | with_reducible refine Chg.alloc ?_ _ | with_reducible refine Chg.setCell ?_ (by first | (left; rfl) | (left; left; rfl) | (left; right; rfl) | (left; right; left; rfl) | (left; right; right; rfl) | (right; exact Nat.le_refl _) | (right; simp; done) | (right; omega) | (right; simp at *; omega) | (simp at *; omega)) _ | with_reducible refine Chg.trans ?_ (by with_reducible assumption) (by intro i hi hT; first | exact hT | exact False.elim hT | omega | (simp at *; omega))))⟩
  refine results_cell_row rfl _ _ (w.heap.size + 1) 40 _ (0, 0) _ rfl ?_ Try.underlying40 rfl (by kernel_rfl)
  exact heap_alloc2_new w _ _
set_option maxHeartbeats 4000000 in
theorem admitNil_walk (x n : Int) (s : ByteArray) (nm : Int) (a : Option Addr) (l c : Nat) (w : World) : Calls Try.prog 7 #[.agg #[.int .i64 x, .int .i64 n, .string s, .int .u64 nm], .slice a l c] w fun e w' => e = .returned (.bool true) ∧ Chg (fun _ => False) w w' := by
  go_enter Try.func7, Try.ntmps7
  go_upto_region 1 with fail
  refine name_region ?_; intro W hW
  have gW : Chg (fun _ => False) w W := by subst hW; exact (by repeat (first | with_reducible exact Chg.refl _ _ | with_reducible assumption | with_reducible refine Chg.drewN ?_ _ | with_reducible refine Chg.drew ?_ | with_reducible refine Chg.alloc ?_ _ | with_reducible refine Chg.setCell ?_ (by first | (left; rfl) | (left; left; rfl) | (left; right; rfl) | (left; right; left; rfl) | (left; right; right; rfl) | (right; exact Nat.le_refl _) | (right; simp; done) | (right; omega) | (right; simp at *; omega) | (simp at *; omega)) _ | with_reducible refine Chg.trans ?_ (by with_reducible assumption) (by intro i hi hT; first | exact hT | exact False.elim hT | omega | (simp at *; omega))))
  have b0 : W.cell? ⟨w.heap.size, 0, none⟩ = some (.int .i64 x) := by subst hW; go_simp
  have b1 : W.cell? ⟨w.heap.size, 1, none⟩ = some (.int .i64 n) := by subst hW; go_simp
  have b2 : W.cell? ⟨w.heap.size, 2, none⟩ = some (.string s) := by subst hW; go_simp
  have b3 : W.cell? ⟨w.heap.size, 3, none⟩ = some (.int .u64 nm) := by subst hW; go_simp
  clear hW
  go_wp2_with fail
  refine (alive_any W).mono ?_; rintro e w1 ⟨rfl, g1⟩
  have lW := cell_lt b0
  replace b0 := (g1.cell lW id _).trans b0
  replace b1 := (g1.cell lW id _).trans b1
  replace b2 := (g1.cell lW id _).trans b2
  replace b3 := (g1.cell lW id _).trans b3
  have G1 := Lib.hid (gW.trans g1 fun _ _ h => h)
  have l1 := cell_lt b0
  clear gW g1
  go_wp2_with fail
  refine (ask_nil w1 nm x).mono ?_; rintro e w2 ⟨rfl, rfl⟩
  go_wp2_with fail
  refine (thing_any w1 x n s nm).mono ?_; rintro e w2 ⟨rfl, g2⟩
  replace b0 := (g2.cell l1 id _).trans b0
  replace b2 := (g2.cell l1 id _).trans b2
  have G2 := Lib.hid (G1.out.trans g2 fun _ _ h => h)
  have l2 := cell_lt b0
  clear g2 b1 b3
  go_wp2_with fail
  refine (offer_nil w2 (x, n, s, nm) a l c).mono ?_; rintro e w3 ⟨rfl, g3⟩
  replace b0 := (g3.cell l2 id _).trans b0
  replace b2 := (g3.cell l2 id _).trans b2
  have G3 := Lib.hid (G2.out.trans g3 fun _ _ h => h)
  clear g3
  go_wp2_with fail
  refine (bytes_nil w3 s).mono ?_; rintro e w4 ⟨rfl, rfl⟩
  go_wp2_with fail
  refine (things_nil w3).mono ?_; rintro e w4 ⟨rfl, rfl⟩
  go_wp2_with fail
  refine (drop_nil w3 x).mono ?_; rintro e w4 ⟨rfl, rfl⟩
  go_wp2_with fail
  refine (has_nil w3 x).mono ?_; rintro e w4 ⟨rfl, rfl⟩
  go_wp2
  go_ret
  exact ⟨rfl, G3.out⟩
end Go.Proofs.Ytdoepjokaekckaa
