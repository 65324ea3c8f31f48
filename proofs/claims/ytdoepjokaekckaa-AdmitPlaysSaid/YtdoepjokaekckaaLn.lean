/- The reference's list: Add, Drop, Order, IsKept, Bytes, Has; Same. -/
import Derived.Test.YtdoepjokaekckaaLq
namespace Go.Proofs.Ytdoepjokaekckaa
set_option linter.unusedVariables false
open Go.RowKit

theorem findI_nat {l : List Pt} {x : Int} : 0 ≤ findI l x ↔ hasK l x = true := by
  cases h : hasK l x with
  | false => rw [findI_no h]; simp
  | true =>
    obtain ⟨A, n, B, rfl, hA⟩ := hasK_split h
    rw [findI_yes hA]; simp
theorem RfN.still {w w' w'' : World} {r : Nat} {most : Int} {T K T' K' : List Pt} {a1 a2 : Option Addr} {n1 c1 n2 c2 : Nat} (h : RfN w r most T K a1 n1 c1 a2 n2 c2 T' K' w') (k : Chg (fun _ => False) w' w'') : RfN w r most T K a1 n1 c1 a2 n2 c2 T' K' w'' := by
  obtain ⟨b1, d1, b2, d2, h1, h2, h3, h4⟩ := h
  exact ⟨b1, d1, b2, d2, h1.still k, h2, h3, h4.trans k fun _ _ h => h.elim⟩
set_option maxHeartbeats 1000000 in
theorem rdrop_no (w : World) (r : Nat) (x : Int) (ht : Calls Try.prog 64 #[.pointer (some ⟨r, 0, none⟩), .int .i64 x] w fun e w' => e = .returned (.tuple #[.agg #[.int .i64 0, .int .i64 0], .bool false]) ∧ Chg (fun _ => False) w w') :
    Calls Try.prog 43 #[.pointer (some ⟨r, 0, none⟩), .int .i64 x] w fun e w' => e = .returned (.bool false) ∧ Chg (fun _ => False) w w' := by
  have HT := Lib.hid ht
  clear ht
  go_enter Try.func43, Try.ntmps43
  go_wp2_with fail
  refine HT.out.mono ?_
  rintro e w1 ⟨rfl, g1⟩
  have G1 := Lib.hid g1
  clear g1
  go_wp2
  go_ret
  exact ⟨rfl, G1.out.trans (T := fun _ => False) (by repeat (first | with_reducible exact Chg.refl _ _ | with_reducible assumption | with_reducible refine Chg.drewN ?_ _ | with_reducible refine Chg.drew ?_ | with_reducible refine Chg.alloc ?_ _ | with_reducible refine Chg.setCell ?_ (by first | (left; rfl) | (left; left; rfl) | (left; right; rfl) | (left; right; left; rfl) | (left; right; right; rfl) | (right; exact Nat.le_refl _) | (right; simp; done) | (right; omega) | (right; simp at *; omega) | (simp at *; omega)) _ | with_reducible refine Chg.trans ?_ (by with_reducible assumption) (by intro i hi hT; first | exact hT | exact False.elim hT | omega | (simp at *; omega)))) fun _ _ h => h⟩
set_option maxHeartbeats 1000000 in
theorem rdrop_yes (w : World) (r : Nat) (most : Int) (T K T' K' : List Pt) (a1 : Option Addr) (n1 c1 : Nat) (a2 : Option Addr) (n2 c2 : Nat) (x n : Int) (ht : Calls Try.prog 64 #[.pointer (some ⟨r, 0, none⟩), .int .i64 x] w (TakeY w r most T K a1 n1 c1 a2 n2 c2 T' K' x n)) :
    Calls Try.prog 43 #[.pointer (some ⟨r, 0, none⟩), .int .i64 x] w fun e w' => e = .returned (.bool true) ∧ RfN w r most T K a1 n1 c1 a2 n2 c2 T' K' w' := by
  have HT := Lib.hid ht
  clear ht
  go_enter Try.func43, Try.ntmps43
  go_wp2_with fail
  refine HT.out.mono ?_
  rintro e w1 ⟨rfl, g1⟩
  have G1 := Lib.hid g1
  clear g1
  go_wp2
  go_ret
  exact ⟨rfl, G1.out.still (by repeat (first | with_reducible exact Chg.refl _ _ | with_reducible assumption | with_reducible refine Chg.drewN ?_ _ | with_reducible refine Chg.drew ?_ | with_reducible refine Chg.alloc ?_ _ | with_reducible refine Chg.setCell ?_ (by first | (left; rfl) | (left; left; rfl) | (left; right; rfl) | (left; right; left; rfl) | (left; right; right; rfl) | (right; exact Nat.le_refl _) | (right; simp; done) | (right; omega) | (right; simp at *; omega) | (simp at *; omega)) _ | with_reducible refine Chg.trans ?_ (by with_reducible assumption) (by intro i hi hT; first | exact hT | exact False.elim hT | omega | (simp at *; omega))))⟩

set_option maxHeartbeats 1000000 in
theorem radd_few (w : World) (r : Nat) (x n : Int) (h : n < 1 ∨ 1099511627776 < n) :
    Calls Try.prog 36 #[.pointer (some ⟨r, 0, none⟩), .int .i64 x, .int .i64 n] w fun e w' => e = .returned (.int .i64 1) ∧ w = w' := by
  by_cases p1 : n < 1
  · go_enter Try.func36, Try.ntmps36
    go_wp2
    go_ret
    exact ⟨rfl, rfl⟩
  · have q1 : decide (n < 1) = false := by simp; omega
    have q2 : 1099511627776 < n := by omega
    go_enter Try.func36, Try.ntmps36
    go_wp2
    go_ret
    exact ⟨rfl, rfl⟩
set_option maxHeartbeats 1000000 in
theorem radd_there (w : World) (r : Nat) (most : Int) (T K : List Pt) (a1 : Option Addr) (c1 : Nat) (a2 : Option Addr) (c2 : Nat) (x n : Int) (h : RfR w r most T K a1 c1 a2 c2) (hn : 1 ≤ n ∧ n ≤ 1099511627776) (hl : T.length + K.length ≤ 1000) (hh : (hasK T x || hasK K x) = true) :
    Calls Try.prog 36 #[.pointer (some ⟨r, 0, none⟩), .int .i64 x, .int .i64 n] w fun e w' => e = .returned (.int .i64 7) ∧ w = w' := by
  have m1 := h.m1
  have m2 := h.m2
  have H := Lib.hid h
  have q1 : decide (n < 1) = false := by simp; omega
  have q2 : decide (1099511627776 < n) = false := by simp; omega
  cases hT : hasK T x with
  | true =>
    have f1 := findI_nat.2 hT
    obtain ⟨i, hi⟩ : ∃ i, i = findI T x := ⟨_, rfl⟩
    rw [← hi] at f1
    have HI := Lib.hid hi
    clear h hh hT hi
    go_enter Try.func36, Try.ntmps36
    go_wp2_with fail
    refine (find_any w a1 c1 T x H.out.t (by omega)).mono ?_
    rintro e w' ⟨rfl, rfl⟩
    rw [← HI.out]
    go_wp2
    go_ret
    exact ⟨rfl, rfl⟩
  | false =>
    rw [hT] at hh
    have f2 := findI_nat.2 (show hasK K x = true by simpa using hh)
    have F1 : Hid (findI T x = -1) := findI_no hT
    obtain ⟨i, hi⟩ : ∃ i, i = findI K x := ⟨_, rfl⟩
    rw [← hi] at f2
    have HI := Lib.hid hi
    clear h hh hT hi
    go_enter Try.func36, Try.ntmps36
    go_wp2_with fail
    refine (find_any w a1 c1 T x H.out.t (by omega)).mono ?_
    rintro e w' ⟨rfl, rfl⟩
    rw [F1.out]
    go_wp2_with fail
    refine (find_any w a2 c2 K x H.out.k (by omega)).mono ?_
    rintro e w' ⟨rfl, rfl⟩
    rw [← HI.out]
    go_wp2
    go_ret
    exact ⟨rfl, rfl⟩
set_option maxHeartbeats 2000000 in
theorem radd_yes (w : World) (r : Nat) (most : Int) (T K : List Pt) (a1 : Option Addr) (c1 : Nat) (a2 : Option Addr) (c2 : Nat) (x n : Int) (h : RfR w r most T K a1 c1 a2 c2) (hn : 1 ≤ n ∧ n ≤ 1099511627776) (hl : T.length + K.length ≤ 1000) (hT : hasK T x = false) (hK : hasK K x = false) :
    Calls Try.prog 36 #[.pointer (some ⟨r, 0, none⟩), .int .i64 x, .int .i64 n] w fun e w' => e = .returned (.int .i64 0) ∧ RfN w r most T K a1 T.length c1 a2 K.length c2 (T ++ [(x, n)]) K w' := by
  obtain ⟨ie, hie, ez0, ez1, ez2⟩ := info_parts infoThing
  have m1 := h.m1
  have m2 := h.m2
  have fz := h.fz
  have lr : r < w.heap.size := cell_lt m1
  have H := Lib.hid h
  have F1 : Hid (findI T x = -1) := findI_no hT
  have F2 : Hid (findI K x = -1) := findI_no hK
  have q1 : decide (n < 1) = false := by simp; omega
  have q2 : decide (1099511627776 < n) = false := by simp; omega
  clear h hT hK
  go_enter Try.func36, Try.ntmps36
  go_wp2_with fail
  refine (find_any w a1 c1 T x H.out.t (by omega)).mono ?_
  rintro e w' ⟨rfl, rfl⟩
  rw [F1.out]
  go_wp2_with fail
  refine (find_any w a2 c2 K x H.out.k (by omega)).mono ?_
  rintro e w' ⟨rfl, rfl⟩
  rw [F2.out]
  go_wp2_with (first
    | (at_builtin; (refine list_owned rfl _ _ 77 rfl w.heap.size 127 ie _ 2 16 Try.underlying77 hie ez0 ez1 ez2 rfl (by decide) rfl rfl (row_empty (by simp) (by simp) (by unfold maxLen; omega)) (by simp) (RdS.block H.out.t (S := fun _ => False) (by repeat (first | with_reducible exact Chg.refl _ _ | with_reducible assumption | with_reducible refine Chg.drewN ?_ _ | with_reducible refine Chg.drew ?_ | with_reducible refine Chg.alloc ?_ _ | with_reducible refine Chg.setCell ?_ (by first | (left; rfl) | (left; left; rfl) | (left; right; rfl) | (left; right; left; rfl) | (left; right; right; rfl) | (right; exact Nat.le_refl _) | (right; simp; done) | (right; omega) | (right; simp at *; omega) | (simp at *; omega)) _ | with_reducible refine Chg.trans ?_ (by with_reducible assumption) (by intro i hi hT; first | exact hT | exact False.elim hT | omega | (simp at *; omega)))) (fun _ _ h => h)) (by unfold maxLen; omega) (by omega) (by simp) ?_; intro b1 d1 w1 ho1 hg1 hone1; rw [Nat.zero_add, List.nil_append] at ho1; rw [List.nil_append] at hone1; have s1 := hg1.size; simp at s1; have j1 : Chg (fun _ => False) w w1 := Chg.grown (by repeat (first | with_reducible exact Chg.refl _ _ | with_reducible assumption | with_reducible refine Chg.drewN ?_ _ | with_reducible refine Chg.drew ?_ | with_reducible refine Chg.alloc ?_ _ | with_reducible refine Chg.setCell ?_ (by first | (left; rfl) | (left; left; rfl) | (left; right; rfl) | (left; right; left; rfl) | (left; right; right; rfl) | (right; exact Nat.le_refl _) | (right; simp; done) | (right; omega) | (right; simp at *; omega) | (simp at *; omega)) _ | with_reducible refine Chg.trans ?_ (by with_reducible assumption) (by intro i hi hT; first | exact hT | exact False.elim hT | omega | (simp at *; omega)))) hg1 (fun k hk => .inr (by simp [Value.ownBlock] at hk; omega)); have e1 := (j1.cell lr id 1).trans m1; have ef : ∀ o, w1.frozen? ⟨r, o, none⟩ = false := fun o => (j1.frozen lr id o).trans (fz o)))
    | (at_builtin; go_loud (refine list_owned rfl _ _ 77 rfl w.heap.size 127 ie _ 2 16 Try.underlying77 hie ez0 ez1 ez2 rfl (by decide) rfl rfl (ho1.alloc _) hone1 (rd_cells (u := x) (v := n) (by go_simp) (by go_simp)) (by unfold maxLen; omega) (by omega) (by simp; omega) ?_; intro b2 d2 w2 ho2 hg2 hone2; have j2 : Chg (fun _ => False) w w2 := Chg.grown (Chg.alloc j1 _) hg2 (fun k hk => .inr (own_below ho1 hk).1); have u1 := (j2.cell lr id 1).trans m1; have uf : ∀ o, w2.frozen? ⟨r, o, none⟩ = false := fun o => (j2.frozen lr id o).trans (fz o); have zr : r < w2.heap.size := cell_lt u1)))
  go_ret
  have e : flat T ++ flat [(x, n)] = flat (T ++ [(x, n)]) := by rw [flat_append]
  have el : T.length + 1 = (T ++ [(x, n)]).length := by simp
  rw [e, el] at ho2
  have hR := (H.out.still j2).put1 ho2 lr
  have hl3 : (T ++ [(x, n)]).length = T.length + 1 := by simp
  refine ⟨rfl, b2, d2, a2, c2, ?_, fun q hq => .inr (.inr (own_below ho2 hq).1), fun q hq => .inr (.inl hq), (j2.mono (T := fun k => k = r) fun _ _ h => h.elim).setCell (p := ⟨r, 1, none⟩) (.inl rfl) _⟩
  rw [hl3] at hR
  exact hR

end Go.Proofs.Ytdoepjokaekckaa
