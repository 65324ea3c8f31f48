/- Both lists in one world: what each call makes of them; the laws' may and do. (Printed by gendo.py.) -/
import Derived.Test.YtjeclknahjnhoaaLx
import Derived.Test.YtjeclknahjnhoaaOpen
namespace Go.Proofs.Ytjeclknahjnhoaa
set_option linter.unusedVariables false
open Go.RowKit

/-- The list tells (T, K), the reference (T', K'); both lie above w0's memory, none of it in Z. -/
def P4 (w0 : World) (Z : Nat → Prop) (b r : Nat) (most : Int) (N : Nat) (T K T' K' : List Pt) (w : World) : Prop := ∃ O R, Ls w O b most N T K ∧ Rf w R r most T' K' ∧ (∀ k, O k → ¬ R k) ∧ (∀ k, O k → w0.heap.size ≤ k) ∧ (∀ k, R k → w0.heap.size ≤ k) ∧ Chg (fun _ => False) w0 w ∧ (∀ k, Z k → ¬ O k ∧ ¬ R k ∧ k < w.heap.size) ∧ Inv most T K ∧ Inv most T' K' ∧ 0 ≤ most ∧ T'.length + K'.length ≤ N
section
variable {w0 w w' : World} {Z : Nat → Prop} {b r N : Nat} {most : Int} {T K T' K' : List Pt}
theorem P4.still (h : P4 w0 Z b r most N T K T' K' w) (k : Chg (fun _ => False) w w') : P4 w0 Z b r most N T K T' K' w' := by
  obtain ⟨O, R, h1, h2, h3, h4, h5, h6, hz, h7⟩ := h
  exact ⟨O, R, h1.still k, h2.still k, h3, h4, h5, h6.trans k fun _ _ h => h, fun i hi => ⟨(hz i hi).1, (hz i hi).2.1, Nat.lt_of_lt_of_le (hz i hi).2.2 k.size⟩, h7⟩
/-- What somebody else has made is set aside. -/
theorem P4.box (h : P4 w0 Z b r most N T K T' K' w) (k : Chg (fun _ => False) w w') : P4 w0 (fun i => Z i ∨ (w.heap.size ≤ i ∧ i < w'.heap.size)) b r most N T K T' K' w' := by
  obtain ⟨O, R, h1, h2, h3, h4, h5, h6, hz, h7⟩ := h
  refine ⟨O, R, h1.still k, h2.still k, h3, h4, h5, h6.trans k fun _ _ h => h, ?_, h7⟩
  rintro i (hi | hi)
  · exact ⟨(hz i hi).1, (hz i hi).2.1, Nat.lt_of_lt_of_le (hz i hi).2.2 k.size⟩
  · exact ⟨fun ho => by have := h1.lt i ho; omega, fun ho => by have := h2.lt i ho; omega, hi.2⟩
theorem P4.less (h : P4 w0 Z b r most N T K T' K' w) {Z' : Nat → Prop} (hz' : ∀ i, Z' i → Z i) : P4 w0 Z' b r most N T K T' K' w := by
  obtain ⟨O, R, h1, h2, h3, h4, h5, h6, hz, h7⟩ := h
  exact ⟨O, R, h1, h2, h3, h4, h5, h6, fun i hi => hz i (hz' i hi), h7⟩
/-- What is set aside may be written. -/
theorem P4.aside {S : Nat → Prop} (h : P4 w0 Z b r most N T K T' K' w) (k : Chg S w w') (hS : ∀ i, i < w.heap.size → S i → Z i ∧ w0.heap.size ≤ i) : P4 w0 Z b r most N T K T' K' w' := by
  obtain ⟨O, R, h1, h2, h3, h4, h5, h6, hz, h7⟩ := h
  have k' : Chg (fun i => Z i ∧ w0.heap.size ≤ i) w w' := k.mono hS
  exact ⟨O, R, h1.chg k' fun i hi hs => (hz i hs.1).1 hi, h2.chg k' fun i hi hs => (hz i hs.1).2.1 hi, h3, h4, h5, h6.trans k' fun i hi hs => by have := hs.2; omega, fun i hi => ⟨(hz i hi).1, (hz i hi).2.1, Nat.lt_of_lt_of_le (hz i hi).2.2 k.size⟩, h7⟩
theorem P4.g (h : P4 w0 Z b r most N T K T' K' w) : Chg (fun _ => False) w0 w := by obtain ⟨O, R, _, _, _, _, _, h6, _⟩ := h; exact h6
theorem P4.inv (h : P4 w0 Z b r most N T K T' K' w) : Inv most T K ∧ Inv most T' K' ∧ 0 ≤ most := by obtain ⟨O, R, _, _, _, _, _, _, _, h7, h8, h9, _⟩ := h; exact ⟨h7, h8, h9⟩
theorem P4.len (h : P4 w0 Z b r most N T K T' K' w) : T.length + K.length ≤ N ∧ T'.length + K'.length ≤ N := by obtain ⟨O, R, h1, _, _, _, _, _, _, _, _, _, h10⟩ := h; exact ⟨h1.len, h10⟩
theorem P4.mono (h : P4 w0 Z b r most N T K T' K' w) {N' : Nat} (hN : N ≤ N') : P4 w0 Z b r most N' T K T' K' w := by
  obtain ⟨O, R, h1, h2, h3, h4, h5, h6, hz, h7, h8, h9, h10⟩ := h
  exact ⟨O, R, h1.mono hN, h2, h3, h4, h5, h6, hz, h7, h8, h9, by omega⟩
end
theorem addT_len (T K : List Pt) (x n : Int) : (addT T K x n).length ≤ T.length + 1 := by unfold addT; split <;> simp
theorem dropS_len (T K : List Pt) (x : Int) : (dropS T K x).1.length + (dropS T K x).2.length ≤ T.length + K.length := by
  have := (delK_sub T x).length_le
  have := (delK_sub K x).length_le
  unfold dropS; simp only; omega
section
variable (w0 w : World) (Z : Nat → Prop) (b r : Nat) (most : Int) (N : Nat) (T K T' K' : List Pt) (x n : Int)
theorem add_p (h : P4 w0 Z b r most N T K T' K' w) (hN : N ≤ 998) (hx : (Lit.int .i64 x).wf = true) : Calls Try.prog 25 #[.pointer (some ⟨b, 0, none⟩), .int .i64 x, .int .i64 n] w fun e w' => e = .returned (.int .i64 (addC T K x n)) ∧ P4 w0 Z b r most (N + 1) (addT T K x n) K T' K' w' ∧ Chg (fun i => ¬ Z i) w w' := by
  have hi := h.inv
  have hl := h.len
  obtain ⟨O, R, h1, h2, h3, h4, h5, h6, hz, h7, h8, h9, h10⟩ := id h
  refine (add_ls w O b most N T K x n h1 hN hx).mono ?_
  rintro e w' ⟨rfl, hp⟩
  have hs := h6.size
  obtain ⟨k1, k2⟩ := hp
  refine ⟨rfl, ⟨GrowO O w w', R, k1, h2.chg k2 fun i hi ho => h3 i ho hi, ?_, ?_, h5, h6.trans k2 fun i hi ho => (by have := h4 i ho; omega), ?_, inv_add h7 (wfI64 hx) n, h8, h9, by omega⟩, k2.mono fun i _ ho hzi => (hz i hzi).1 ho⟩
  · rintro k (hk | hk) hr
    · exact h3 k hk hr
    · have := h2.lt k hr; omega
  · rintro k (hk | hk)
    · exact h4 k hk
    · omega
  · intro k hk
    obtain ⟨z1, z2, z3⟩ := hz k hk
    exact ⟨fun ho => ho.elim z1 fun ho => by omega, z2, Nat.lt_of_lt_of_le z3 k2.size⟩
theorem touch_p (h : P4 w0 Z b r most N T K T' K' w) (hN : N ≤ 998) (hx : (Lit.int .i64 x).wf = true) : Calls Try.prog 24 #[.pointer (some ⟨b, 0, none⟩), .int .i64 x] w fun e w' => e = .returned (.bool (hasK (T ++ K) x)) ∧ P4 w0 Z b r most (N + 1) (touchS most T K x).1 (touchS most T K x).2 T' K' w' ∧ Chg (fun i => ¬ Z i) w w' := by
  have hi := h.inv
  have hl := h.len
  obtain ⟨O, R, h1, h2, h3, h4, h5, h6, hz, h7, h8, h9, h10⟩ := id h
  refine (touch_ls w O b most N T K x h1 h9 hN hx).mono ?_
  rintro e w' ⟨rfl, hp⟩
  have hs := h6.size
  obtain ⟨k1, k2⟩ := hp
  refine ⟨rfl, ⟨GrowO O w w', R, k1, h2.chg k2 fun i hi ho => h3 i ho hi, ?_, ?_, h5, h6.trans k2 fun i hi ho => (by have := h4 i ho; omega), ?_, inv_touch h7 h9 x, h8, h9, by omega⟩, k2.mono fun i _ ho hzi => (hz i hzi).1 ho⟩
  · rintro k (hk | hk) hr
    · exact h3 k hk hr
    · have := h2.lt k hr; omega
  · rintro k (hk | hk)
    · exact h4 k hk
    · omega
  · intro k hk
    obtain ⟨z1, z2, z3⟩ := hz k hk
    exact ⟨fun ho => ho.elim z1 fun ho => by omega, z2, Nat.lt_of_lt_of_le z3 k2.size⟩
theorem drop_p (h : P4 w0 Z b r most N T K T' K' w) (hN : N ≤ 998) (hx : (Lit.int .i64 x).wf = true) : Calls Try.prog 26 #[.pointer (some ⟨b, 0, none⟩), .int .i64 x] w fun e w' => e = .returned (.bool (hasK (T ++ K) x)) ∧ P4 w0 Z b r most (N + 1) (dropS T K x).1 (dropS T K x).2 T' K' w' ∧ Chg (fun i => ¬ Z i) w w' := by
  have hi := h.inv
  have hl := h.len
  obtain ⟨O, R, h1, h2, h3, h4, h5, h6, hz, h7, h8, h9, h10⟩ := id h
  refine (drop_ls w O b most N T K x h1 hN hx).mono ?_
  rintro e w' ⟨rfl, hp⟩
  have hs := h6.size
  obtain ⟨k1, k2⟩ := hp
  refine ⟨rfl, ⟨GrowO O w w', R, k1, h2.chg k2 fun i hi ho => h3 i ho hi, ?_, ?_, h5, h6.trans k2 fun i hi ho => (by have := h4 i ho; omega), ?_, inv_drop h7 x, h8, h9, by omega⟩, k2.mono fun i _ ho hzi => (hz i hzi).1 ho⟩
  · rintro k (hk | hk) hr
    · exact h3 k hk hr
    · have := h2.lt k hr; omega
  · rintro k (hk | hk)
    · exact h4 k hk
    · omega
  · intro k hk
    obtain ⟨z1, z2, z3⟩ := hz k hk
    exact ⟨fun ho => ho.elim z1 fun ho => by omega, z2, Nat.lt_of_lt_of_le z3 k2.size⟩
theorem radd_p (h : P4 w0 Z b r most N T K T' K' w) (hN : N ≤ 998) (hx : (Lit.int .i64 x).wf = true) : Calls Try.prog 28 #[.pointer (some ⟨r, 0, none⟩), .int .i64 x, .int .i64 n] w fun e w' => e = .returned (.int .i64 (addC T' K' x n)) ∧ P4 w0 Z b r most (N + 1) T K (addT T' K' x n) K' w' ∧ Chg (fun i => ¬ Z i) w w' := by
  have hi := h.inv
  have hl := h.len
  obtain ⟨O, R, h1, h2, h3, h4, h5, h6, hz, h7, h8, h9, h10⟩ := id h
  refine (radd_rf w R r most T' K' x n h2 (by omega)).mono ?_
  rintro e w' ⟨rfl, hp⟩
  have hs := h6.size
  obtain ⟨k1, k2⟩ := hp
  have hr := h2.own
  refine ⟨rfl, ⟨O, GrowO R w w', (h1.chg k2 fun i hi e => h3 i hi (by rw [e]; exact hr)).mono (by omega), k1, ?_, h4, ?_, h6.trans k2 fun i hi e => (by have := h5 r hr; omega), ?_, h7, inv_add h8 (wfI64 hx) n, h9, by have := addT_len T' K' x n; omega⟩, k2.mono fun i _ e hzi => (hz i hzi).2.1 (by rw [e]; exact hr)⟩
  · rintro k hk (hk2 | hk2)
    · exact h3 k hk hk2
    · have := h1.lt k hk; omega
  · rintro k (hk | hk)
    · exact h5 k hk
    · omega
  · intro k hk
    obtain ⟨z1, z2, z3⟩ := hz k hk
    exact ⟨z1, fun ho => ho.elim z2 fun ho => by omega, Nat.lt_of_lt_of_le z3 k2.size⟩
theorem rtouch_p (h : P4 w0 Z b r most N T K T' K' w) (hN : N ≤ 998) : Calls Try.prog 29 #[.pointer (some ⟨r, 0, none⟩), .int .i64 x] w fun e w' => e = .returned (.bool (hasK (T' ++ K') x)) ∧ P4 w0 Z b r most (N + 1) T K (touchS most T' K' x).1 (touchS most T' K' x).2 w' ∧ Chg (fun i => ¬ Z i) w w' := by
  have hi := h.inv
  have hl := h.len
  obtain ⟨O, R, h1, h2, h3, h4, h5, h6, hz, h7, h8, h9, h10⟩ := id h
  refine (rtouch_rf w R r most T' K' x h2 h9 (by omega) h8.nodup h8.bytes).mono ?_
  rintro e w' ⟨rfl, hp⟩
  have hs := h6.size
  obtain ⟨k1, k2⟩ := hp
  have hr := h2.own
  refine ⟨rfl, ⟨O, GrowO R w w', (h1.chg k2 fun i hi e => h3 i hi (by rw [e]; exact hr)).mono (by omega), k1, ?_, h4, ?_, h6.trans k2 fun i hi e => (by have := h5 r hr; omega), ?_, h7, inv_touch h8 h9 x, h9, by have := touch_len most T' K' x; omega⟩, k2.mono fun i _ e hzi => (hz i hzi).2.1 (by rw [e]; exact hr)⟩
  · rintro k hk (hk2 | hk2)
    · exact h3 k hk hk2
    · have := h1.lt k hk; omega
  · rintro k (hk | hk)
    · exact h5 k hk
    · omega
  · intro k hk
    obtain ⟨z1, z2, z3⟩ := hz k hk
    exact ⟨z1, fun ho => ho.elim z2 fun ho => by omega, Nat.lt_of_lt_of_le z3 k2.size⟩
theorem rdrop_p (h : P4 w0 Z b r most N T K T' K' w) (hN : N ≤ 998) : Calls Try.prog 27 #[.pointer (some ⟨r, 0, none⟩), .int .i64 x] w fun e w' => e = .returned (.bool (hasK (T' ++ K') x)) ∧ P4 w0 Z b r most (N + 1) T K (dropS T' K' x).1 (dropS T' K' x).2 w' ∧ Chg (fun i => ¬ Z i) w w' := by
  have hi := h.inv
  have hl := h.len
  obtain ⟨O, R, h1, h2, h3, h4, h5, h6, hz, h7, h8, h9, h10⟩ := id h
  refine (rdrop_rf w R r most T' K' x h2 (by omega) h8.nodup).mono ?_
  rintro e w' ⟨rfl, hp⟩
  have hs := h6.size
  obtain ⟨k1, k2⟩ := hp
  have hr := h2.own
  refine ⟨rfl, ⟨O, GrowO R w w', (h1.chg k2 fun i hi e => h3 i hi (by rw [e]; exact hr)).mono (by omega), k1, ?_, h4, ?_, h6.trans k2 fun i hi e => (by have := h5 r hr; omega), ?_, h7, inv_drop h8 x, h9, by have := dropS_len T' K' x; omega⟩, k2.mono fun i _ e hzi => (hz i hzi).2.1 (by rw [e]; exact hr)⟩
  · rintro k hk (hk2 | hk2)
    · exact h3 k hk hk2
    · have := h1.lt k hk; omega
  · rintro k (hk | hk)
    · exact h5 k hk
    · omega
  · intro k hk
    obtain ⟨z1, z2, z3⟩ := hz k hk
    exact ⟨z1, fun ho => ho.elim z2 fun ho => by omega, Nat.lt_of_lt_of_le z3 k2.size⟩
theorem kept_p (h : P4 w0 Z b r most N T K T' K' w) (hx : (Lit.int .i64 x).wf = true) : Calls Try.prog 21 #[.pointer (some ⟨b, 0, none⟩), .int .i64 x] w fun e w' => e = .returned (.bool (hasK K x)) ∧ w = w' := by
  obtain ⟨O, R, h1, _⟩ := h
  exact kept_ls w O b most N T K x h1 hx
theorem has_p (h : P4 w0 Z b r most N T K T' K' w) (hx : (Lit.int .i64 x).wf = true) : Calls Try.prog 19 #[.pointer (some ⟨b, 0, none⟩), .int .i64 x] w fun e w' => e = .returned (.tuple #[.int .i64 (atK (T ++ K) x), .bool (hasK (T ++ K) x)]) ∧ w = w' := by
  obtain ⟨O, R, h1, _⟩ := h
  exact has_ls w O b most N T K x h1 hx
theorem bytes_p (h : P4 w0 Z b r most N T K T' K' w) (hN : N ≤ 998) : Calls Try.prog 17 #[.pointer (some ⟨b, 0, none⟩)] w fun e w' => e = .returned (.tuple #[.int .i64 (sumP T + sumP K), .int .i64 (sumP K)]) ∧ P4 w0 Z b r most N T K T' K' w' ∧ Chg (fun _ => False) w w' := by
  obtain ⟨O, R, h1, h2⟩ := id h
  refine (bytes_ls w O b most N T K h1 hN).mono ?_
  rintro e w' ⟨rfl, k⟩
  exact ⟨rfl, h.still k, k⟩
theorem order_p (h : P4 w0 Z b r most N T K T' K' w) (hN : N ≤ 998) : Calls Try.prog 15 #[.pointer (some ⟨b, 0, none⟩)] w fun e w' => OrdPost w (keysP (T ++ K)) e w' ∧ P4 w0 Z b r most N T K T' K' w' := by
  obtain ⟨O, R, h1, h2⟩ := id h
  refine (order_ls w O b most N T K h1 hN).mono ?_
  rintro e w' ⟨a, c, rfl, ho, k⟩
  exact ⟨⟨a, c, rfl, ho, k⟩, h.still k⟩
theorem rkept_p (h : P4 w0 Z b r most N T K T' K' w) (hN : N ≤ 998) : Calls Try.prog 22 #[.pointer (some ⟨r, 0, none⟩), .int .i64 x] w fun e w' => e = .returned (.bool (hasK K' x)) ∧ w = w' := by
  have hl := h.len
  obtain ⟨O, R, h1, h2, _⟩ := h
  exact rkept_rf w R r most T' K' x h2 (by omega)
theorem rhas_p (h : P4 w0 Z b r most N T K T' K' w) (hN : N ≤ 998) : Calls Try.prog 20 #[.pointer (some ⟨r, 0, none⟩), .int .i64 x] w fun e w' => e = .returned (.tuple #[.int .i64 (atK (T' ++ K') x), .bool (hasK (T' ++ K') x)]) ∧ P4 w0 Z b r most N T K T' K' w' ∧ Chg (fun _ => False) w w' := by
  have hl := h.len
  obtain ⟨O, R, h1, h2, _⟩ := id h
  refine (rhas_rf w R r most T' K' x h2 (by omega)).mono ?_
  rintro e w' ⟨rfl, k⟩
  exact ⟨rfl, h.still k, k⟩
theorem rbytes_p (h : P4 w0 Z b r most N T K T' K' w) (hN : N ≤ 998) : Calls Try.prog 18 #[.pointer (some ⟨r, 0, none⟩)] w fun e w' => e = .returned (.tuple #[.int .i64 (sumP T' + sumP K'), .int .i64 (sumP K')]) ∧ P4 w0 Z b r most N T K T' K' w' ∧ Chg (fun _ => False) w w' := by
  have hl := h.len
  have hi := h.inv
  obtain ⟨O, R, h1, h2, _⟩ := id h
  refine (rbytes_rf w R r most T' K' h2 (by omega) hi.2.1.bytes).mono ?_
  rintro e w' ⟨rfl, k⟩
  exact ⟨rfl, h.still k, k⟩
theorem rorder_p (h : P4 w0 Z b r most N T K T' K' w) (hN : N ≤ 998) : Calls Try.prog 16 #[.pointer (some ⟨r, 0, none⟩)] w fun e w' => OrdPost w (keysP (T' ++ K')) e w' ∧ P4 w0 Z b r most N T K T' K' w' := by
  have hl := h.len
  obtain ⟨O, R, h1, h2, _⟩ := id h
  refine (rorder_rf w R r most T' K' h2 (by omega)).mono ?_
  rintro e w' ⟨a, c, rfl, ho, k⟩
  exact ⟨⟨a, c, rfl, ho, k⟩, h.still k⟩
end
def doS (most : Int) (T K : List Pt) (kd x n : Int) : List Pt × List Pt := if kd = 1 then (addT T K x n, K) else if kd = 2 then touchS most T K x else if kd = 3 then dropS T K x else (T, K)
theorem may_any (w : World) (n : Int) : Calls Try.prog 12 #[.int .i64 n] w fun e w' => e = .returned (.bool (!badMost n)) ∧ w = w' := by
  by_cases p1 : 0 ≤ n
  · by_cases p2 : n ≤ 1152921504606846976
    · have hb : badMost n = false := by simp [badMost]; omega
      rw [hb]
      go_enter Try.func12, Try.ntmps12
      go_wp2
      go_ret
      exact ⟨rfl, rfl⟩
    · have hb : badMost n = true := by simp [badMost]; omega
      have q2 : decide (n ≤ 1152921504606846976) = false := by simp; omega
      rw [hb]
      go_enter Try.func12, Try.ntmps12
      go_wp2
      go_ret
      exact ⟨rfl, rfl⟩
  · have hb : badMost n = true := by simp [badMost]; omega
    have q1 : decide (0 ≤ n) = false := by simp; omega
    rw [hb]
    go_enter Try.func12, Try.ntmps12
    go_wp2
    go_ret
    exact ⟨rfl, rfl⟩

set_option maxHeartbeats 2000000 in
theorem do_any (w0 w : World) (Z : Nat → Prop) (b r : Nat) (most : Int) (N : Nat) (T K : List Pt) (kd x n : Int) (h : P4 w0 Z b r most N T K T K w) (hN : N ≤ 990) (hx : (Lit.int .i64 x).wf = true) :
    Calls Try.prog 13 #[.pointer (some ⟨b, 0, none⟩), .pointer (some ⟨r, 0, none⟩), .agg #[.int .i64 kd, .int .i64 x, .int .i64 n]] w fun e w' => e = .returned (.bool true) ∧ P4 w0 Z b r most (N + 2) (doS most T K kd x n).1 (doS most T K kd x n).2 (doS most T K kd x n).1 (doS most T K kd x n).2 w' ∧ Chg (fun i => ¬ Z i) w w' := by
  have H := Lib.hid h
  clear h
  by_cases q : kd = 1
  · have e : doS most T K kd x n = (addT T K x n, K) := if_pos q
    rw [e]
    subst q
    clear e
    have q : True := trivial
    clear q
    go_enter Try.func13, Try.ntmps13
    go_wp2_with fail
    refine name_region ?_; intro W hW
    have gW : Chg (fun _ => False) w W := by subst hW; exact (by repeat (first | with_reducible exact Chg.refl _ _ | with_reducible assumption | with_reducible refine Chg.drewN ?_ _ | with_reducible refine Chg.drew ?_ | with_reducible refine Chg.alloc ?_ _ | with_reducible refine Chg.setCell ?_ (by first | (left; rfl) | (left; left; rfl) | (left; right; rfl) | (left; right; left; rfl) | (left; right; right; rfl) | (right; exact Nat.le_refl _) | (right; simp; done) | (right; omega) | (right; simp at *; omega) | (simp at *; omega)) _ | with_reducible refine Chg.trans ?_ (by with_reducible assumption) (by intro i hi hT; first | exact hT | exact False.elim hT | omega | (simp at *; omega))))
    have k1 : W.cell? ⟨w.heap.size, 1, none⟩ = some (.int .i64 x) := by subst hW; go_simp
    have k2 : W.cell? ⟨w.heap.size, 2, none⟩ = some (.int .i64 n) := by subst hW; go_simp
    have z1 : w.heap.size < W.heap.size := by subst hW; simp
    clear hW
    have HW := Lib.hid (H.out.box gW)
    have GW := Lib.hid gW
    clear gW
    obtain ⟨E, hZ⟩ : ∃ q, q = addC T K x n := ⟨_, rfl⟩
    have HZ := Lib.hid hZ
    clear hZ
    go_region_held3 (fun w' => w'.cell? ⟨w.heap.size, 1, none⟩ = some (.int .i64 x) ∧ w'.cell? ⟨w.heap.size, 2, none⟩ = some (.int .i64 n)) (first | go_keep | (constructor <;> assumption) | assumption)
      (first
        | (go_at_call 25; refine (add_p w0 W.drew _ b r most N T K T K x n (HW.out.still (by repeat (first | with_reducible exact Chg.refl _ _ | with_reducible assumption | with_reducible refine Chg.drewN ?_ _ | with_reducible refine Chg.drew ?_ | with_reducible refine Chg.alloc ?_ _ | with_reducible refine Chg.setCell ?_ (by first | (left; rfl) | (left; left; rfl) | (left; right; rfl) | (left; right; left; rfl) | (left; right; right; rfl) | (right; exact Nat.le_refl _) | (right; simp; done) | (right; omega) | (right; simp at *; omega) | (simp at *; omega)) _ | with_reducible refine Chg.trans ?_ (by with_reducible assumption) (by intro i hi hT; first | exact hT | exact False.elim hT | omega | (simp at *; omega))))) (by omega) hx).mono ?_; rintro e w1 ⟨rfl, hP, g1⟩; rw [← HZ.out]; have i1 : w1.cell? ⟨w.heap.size, 1, none⟩ = some (.int .i64 x) := (by rw [g1.cell z1 (fun h => h (.inr ⟨Nat.le_refl _, z1⟩))]; exact k1); have i2 : w1.cell? ⟨w.heap.size, 2, none⟩ = some (.int .i64 n) := (by rw [g1.cell z1 (fun h => h (.inr ⟨Nat.le_refl _, z1⟩))]; exact k2); have HP := Lib.hid hP; have G1 := Lib.hid g1; have z2 : w.heap.size < w1.heap.size := Nat.lt_of_lt_of_le z1 g1.size; clear hP g1)
        | (go_at_call 28; refine (radd_p w0 w1 _ b r most (N + 1) (addT T K x n) K T K x n HP.out (by omega) hx).mono ?_; rintro e w3 ⟨rfl, hP3, g3⟩; rw [← HZ.out]; have j1 : w3.cell? ⟨w.heap.size, 1, none⟩ = some (.int .i64 x) := (by rw [g3.cell z2 (fun h => h (.inr ⟨Nat.le_refl _, z1⟩))]; exact i1); have j2 : w3.cell? ⟨w.heap.size, 2, none⟩ = some (.int .i64 n) := (by rw [g3.cell z2 (fun h => h (.inr ⟨Nat.le_refl _, z1⟩))]; exact i2); have HP3 := Lib.hid hP3; have G3 := Lib.hid g3; clear hP3 g3))
    all_goals go_wp2
    all_goals go_ret
    all_goals exact ⟨by simp, HP3.out.less fun i hi => .inl hi, ((GW.out.mono (T := fun i => ¬ Z i) fun _ _ h => h.elim).trans (Chg.trans (S := fun i => ¬ Z i) (Chg.drew (Chg.refl _ _)) G1.out fun i _ h hz => h (.inl hz)) fun _ _ h => h).trans G3.out fun i _ h hz => h (.inl hz)⟩
  by_cases q2 : kd = 2
  · have e : doS most T K kd x n = touchS most T K x := by rw [doS, if_neg q, if_pos q2]
    rw [e]
    subst q2
    clear e
    clear q
    go_enter Try.func13, Try.ntmps13
    go_wp2_with fail
    refine name_region ?_; intro W hW
    have gW : Chg (fun _ => False) w W := by subst hW; exact (by repeat (first | with_reducible exact Chg.refl _ _ | with_reducible assumption | with_reducible refine Chg.drewN ?_ _ | with_reducible refine Chg.drew ?_ | with_reducible refine Chg.alloc ?_ _ | with_reducible refine Chg.setCell ?_ (by first | (left; rfl) | (left; left; rfl) | (left; right; rfl) | (left; right; left; rfl) | (left; right; right; rfl) | (right; exact Nat.le_refl _) | (right; simp; done) | (right; omega) | (right; simp at *; omega) | (simp at *; omega)) _ | with_reducible refine Chg.trans ?_ (by with_reducible assumption) (by intro i hi hT; first | exact hT | exact False.elim hT | omega | (simp at *; omega))))
    have k1 : W.cell? ⟨w.heap.size, 1, none⟩ = some (.int .i64 x) := by subst hW; go_simp
    have k2 : W.cell? ⟨w.heap.size, 2, none⟩ = some (.int .i64 n) := by subst hW; go_simp
    have z1 : w.heap.size < W.heap.size := by subst hW; simp
    clear hW
    have HW := Lib.hid (H.out.box gW)
    have GW := Lib.hid gW
    clear gW
    obtain ⟨E, hZ⟩ : ∃ q, q = hasK (T ++ K) x := ⟨_, rfl⟩
    have HZ := Lib.hid hZ
    clear hZ
    go_region_held3 (fun w' => w'.cell? ⟨w.heap.size, 1, none⟩ = some (.int .i64 x)) (first | go_keep | (constructor <;> assumption) | assumption)
      (first
        | (go_at_call 24; refine (touch_p w0 W.drew _ b r most N T K T K x (HW.out.still (by repeat (first | with_reducible exact Chg.refl _ _ | with_reducible assumption | with_reducible refine Chg.drewN ?_ _ | with_reducible refine Chg.drew ?_ | with_reducible refine Chg.alloc ?_ _ | with_reducible refine Chg.setCell ?_ (by first | (left; rfl) | (left; left; rfl) | (left; right; rfl) | (left; right; left; rfl) | (left; right; right; rfl) | (right; exact Nat.le_refl _) | (right; simp; done) | (right; omega) | (right; simp at *; omega) | (simp at *; omega)) _ | with_reducible refine Chg.trans ?_ (by with_reducible assumption) (by intro i hi hT; first | exact hT | exact False.elim hT | omega | (simp at *; omega))))) (by omega) hx).mono ?_; rintro e w1 ⟨rfl, hP, g1⟩; rw [← HZ.out]; have i1 : w1.cell? ⟨w.heap.size, 1, none⟩ = some (.int .i64 x) := (by rw [g1.cell z1 (fun h => h (.inr ⟨Nat.le_refl _, z1⟩))]; exact k1); have HP := Lib.hid hP; have G1 := Lib.hid g1; have z2 : w.heap.size < w1.heap.size := Nat.lt_of_lt_of_le z1 g1.size; clear hP g1)
        | (go_at_call 29; refine (rtouch_p w0 w1 _ b r most (N + 1) (touchS most T K x).1 (touchS most T K x).2 T K x HP.out (by omega)).mono ?_; rintro e w3 ⟨rfl, hP3, g3⟩; rw [← HZ.out]; have j1 : w3.cell? ⟨w.heap.size, 1, none⟩ = some (.int .i64 x) := (by rw [g3.cell z2 (fun h => h (.inr ⟨Nat.le_refl _, z1⟩))]; exact i1); have HP3 := Lib.hid hP3; have G3 := Lib.hid g3; clear hP3 g3))
    all_goals go_wp2
    all_goals go_ret
    all_goals exact ⟨by simp, HP3.out.less fun i hi => .inl hi, ((GW.out.mono (T := fun i => ¬ Z i) fun _ _ h => h.elim).trans (Chg.trans (S := fun i => ¬ Z i) (Chg.drew (Chg.refl _ _)) G1.out fun i _ h hz => h (.inl hz)) fun _ _ h => h).trans G3.out fun i _ h hz => h (.inl hz)⟩
  by_cases q3 : kd = 3
  · have e : doS most T K kd x n = dropS T K x := by rw [doS, if_neg q, if_neg q2, if_pos q3]
    rw [e]
    subst q3
    clear e q2
    clear q
    go_enter Try.func13, Try.ntmps13
    go_wp2_with fail
    refine name_region ?_; intro W hW
    have gW : Chg (fun _ => False) w W := by subst hW; exact (by repeat (first | with_reducible exact Chg.refl _ _ | with_reducible assumption | with_reducible refine Chg.drewN ?_ _ | with_reducible refine Chg.drew ?_ | with_reducible refine Chg.alloc ?_ _ | with_reducible refine Chg.setCell ?_ (by first | (left; rfl) | (left; left; rfl) | (left; right; rfl) | (left; right; left; rfl) | (left; right; right; rfl) | (right; exact Nat.le_refl _) | (right; simp; done) | (right; omega) | (right; simp at *; omega) | (simp at *; omega)) _ | with_reducible refine Chg.trans ?_ (by with_reducible assumption) (by intro i hi hT; first | exact hT | exact False.elim hT | omega | (simp at *; omega))))
    have k1 : W.cell? ⟨w.heap.size, 1, none⟩ = some (.int .i64 x) := by subst hW; go_simp
    have k2 : W.cell? ⟨w.heap.size, 2, none⟩ = some (.int .i64 n) := by subst hW; go_simp
    have z1 : w.heap.size < W.heap.size := by subst hW; simp
    clear hW
    have HW := Lib.hid (H.out.box gW)
    have GW := Lib.hid gW
    clear gW
    obtain ⟨E, hZ⟩ : ∃ q, q = hasK (T ++ K) x := ⟨_, rfl⟩
    have HZ := Lib.hid hZ
    clear hZ
    go_region_held3 (fun w' => w'.cell? ⟨w.heap.size, 1, none⟩ = some (.int .i64 x)) (first | go_keep | (constructor <;> assumption) | assumption)
      (first
        | (go_at_call 26; refine (drop_p w0 W.drew _ b r most N T K T K x (HW.out.still (by repeat (first | with_reducible exact Chg.refl _ _ | with_reducible assumption | with_reducible refine Chg.drewN ?_ _ | with_reducible refine Chg.drew ?_ | with_reducible refine Chg.alloc ?_ _ | with_reducible refine Chg.setCell ?_ (by first | (left; rfl) | (left; left; rfl) | (left; right; rfl) | (left; right; left; rfl) | (left; right; right; rfl) | (right; exact Nat.le_refl _) | (right; simp; done) | (right; omega) | (right; simp at *; omega) | (simp at *; omega)) _ | with_reducible refine Chg.trans ?_ (by with_reducible assumption) (by intro i hi hT; first | exact hT | exact False.elim hT | omega | (simp at *; omega))))) (by omega) hx).mono ?_; rintro e w1 ⟨rfl, hP, g1⟩; rw [← HZ.out]; have i1 : w1.cell? ⟨w.heap.size, 1, none⟩ = some (.int .i64 x) := (by rw [g1.cell z1 (fun h => h (.inr ⟨Nat.le_refl _, z1⟩))]; exact k1); have HP := Lib.hid hP; have G1 := Lib.hid g1; have z2 : w.heap.size < w1.heap.size := Nat.lt_of_lt_of_le z1 g1.size; clear hP g1)
        | (go_at_call 27; refine (rdrop_p w0 w1 _ b r most (N + 1) (dropS T K x).1 (dropS T K x).2 T K x HP.out (by omega)).mono ?_; rintro e w3 ⟨rfl, hP3, g3⟩; rw [← HZ.out]; have j1 : w3.cell? ⟨w.heap.size, 1, none⟩ = some (.int .i64 x) := (by rw [g3.cell z2 (fun h => h (.inr ⟨Nat.le_refl _, z1⟩))]; exact i1); have HP3 := Lib.hid hP3; have G3 := Lib.hid g3; clear hP3 g3))
    all_goals go_wp2
    all_goals go_ret
    all_goals exact ⟨by simp, HP3.out.less fun i hi => .inl hi, ((GW.out.mono (T := fun i => ¬ Z i) fun _ _ h => h.elim).trans (Chg.trans (S := fun i => ¬ Z i) (Chg.drew (Chg.refl _ _)) G1.out fun i _ h hz => h (.inl hz)) fun _ _ h => h).trans G3.out fun i _ h hz => h (.inl hz)⟩
  have e : doS most T K kd x n = (T, K) := by rw [doS, if_neg q, if_neg q2, if_neg q3]
  rw [e]
  have b1 : (kd == 1) = false := by simpa using q
  have b2 : (kd == 2) = false := by simpa using q2
  have b3 : (kd == 3) = false := by simpa using q3
  clear e q q2 q3
  go_enter Try.func13, Try.ntmps13
  go_wp2
  go_ret
  exact ⟨rfl, (H.out.still (by repeat (first | with_reducible exact Chg.refl _ _ | with_reducible assumption | with_reducible refine Chg.drewN ?_ _ | with_reducible refine Chg.drew ?_ | with_reducible refine Chg.alloc ?_ _ | with_reducible refine Chg.setCell ?_ (by first | (left; rfl) | (left; left; rfl) | (left; right; rfl) | (left; right; left; rfl) | (left; right; right; rfl) | (right; exact Nat.le_refl _) | (right; simp; done) | (right; omega) | (right; simp at *; omega) | (simp at *; omega)) _ | with_reducible refine Chg.trans ?_ (by with_reducible assumption) (by intro i hi hT; first | exact hT | exact False.elim hT | omega | (simp at *; omega))))).mono (by omega), (by repeat (first | with_reducible exact Chg.refl _ _ | with_reducible assumption | with_reducible refine Chg.drewN ?_ _ | with_reducible refine Chg.drew ?_ | with_reducible refine Chg.alloc ?_ _ | with_reducible refine Chg.setCell ?_ (by first | (left; rfl) | (left; left; rfl) | (left; right; rfl) | (left; right; left; rfl) | (left; right; right; rfl) | (right; exact Nat.le_refl _) | (right; simp; done) | (right; omega) | (right; simp at *; omega) | (simp at *; omega)) _ | with_reducible refine Chg.trans ?_ (by with_reducible assumption) (by intro i hi hT; first | exact hT | exact False.elim hT | omega | (simp at *; omega))))⟩
end Go.Proofs.Ytjeclknahjnhoaa
