/- The list's call Add. (Printed by genadd.py.) -/
import Derived.Test.YtdoepjokaekckaaLt
import Derived.Carry
namespace Go.Proofs.Ytdoepjokaekckaa
set_option linter.unusedVariables false
open Go.RowKit

theorem LsX.fresh {W w3 w4 : World} {b N m p : Nat} {most x n : Int} {T K : List Th} (h : LsR W b most (.map (some m)) N T K) (g3 : Chg (fun _ => False) W w3) (g4 : Chg (fun k => k = m) w3 w4) (hp : p = W.heap.size) (nd : Nd w3 false (p, x, n) none none)
    (hm : PtM w4 m (N + 1) (fun z => if z = x then some p else look (T ++ K) z)) (hx : hasK (prs (T ++ K)) x = false) (hn : 1 ≤ n ∧ n ≤ 1099511627776) (_ : N ≤ 998) : LsX w4 b most (.map (some m)) (N + 1) T K (p, x, n) false := by
  have hmb : m ≠ b := h.mp.not rfl h.c0
  have hml : m < W.heap.size := h.lt m (.inr (.inl rfl))
  have g : Chg (fun k => k = m) W w4 := (g3.mono (T := fun k => k = m) fun _ _ h => h.elim).trans g4 fun _ _ h => h
  have lb := cell_lt h.c0
  have hT : ∀ u ∈ T, ¬ u.1 = m := fun u hu e => h.mp.not rfl (Lk.lt (nxt := none) h.tr.lk u hu).2 e.symm
  have hK : ∀ u ∈ K, ¬ u.1 = m := fun u hu e => h.mp.not rfl (Lk.lt (nxt := none) h.kr.lk u hu).2 e.symm
  have hl : ∀ u ∈ T ++ K, u.1 ≠ p := fun u hu e => by have := h.lt u.1 (.inr (.inr ⟨u, hu, rfl⟩)); omega
  refine ⟨(g.cell lb (fun e => hmb e.symm) _).trans h.c0, (g.cell lb (fun e => hmb e.symm) _).trans h.c1, .inr ⟨m, rfl, hm.congr fun z => (look_cons (p, x, n) (T ++ K) z).symm⟩, h.tr.chg g (fun e => hmb e.symm) hT, h.kr.chg g (fun e => hmb e.symm) hK, ⟨_, _, nd.chg g4 (by show ¬ p = m; omega)⟩, h.sep, ⟨by show p ≠ b; omega, hl⟩, by have := h.len; omega, ?_, ?_⟩
  · rw [prs_cons]
    simp only [keysP, List.map_cons, List.nodup_cons]
    exact ⟨hasK_not.1 hx, h.keys⟩
  · intro u hu
    rw [prs_cons] at hu
    rcases List.mem_cons.1 hu with rfl | hu
    · exact hn
    · exact h.bytes u hu
def AddPost (w : World) (b : Nat) (most : Int) (v : Value) (N : Nat) (T K : List Th) (x n : Int) (e : Ending) (w' : World) : Prop := e = .returned (.int .i64 0) ∧ ∃ m p, LsR w' b most (.map (some m)) (N + 1) (T ++ [(p, x, n)]) K ∧ w.heap.size ≤ p ∧ (v = .map (some m) ∨ w.heap.size ≤ m) ∧ Chg (ownL b v T K) w w'

set_option maxHeartbeats 1000000 in
theorem add_few (w : World) (b : Nat) (x n : Int) (h : n < 1 ∨ 1099511627776 < n) :
    Calls Try.prog 32 #[.pointer (some ⟨b, 0, none⟩), .int .i64 x, .int .i64 n] w fun e w' => e = .returned (.int .i64 1) ∧ w = w' := by
  by_cases p1 : n < 1
  · go_enter Try.func32, Try.ntmps32
    go_wp2
    go_ret
    exact ⟨rfl, rfl⟩
  · have q1 : decide (n < 1) = false := by simp; omega
    have q2 : 1099511627776 < n := by omega
    go_enter Try.func32, Try.ntmps32
    go_wp2
    go_ret
    exact ⟨rfl, rfl⟩
set_option maxHeartbeats 1000000 in
theorem add_there (w : World) (b : Nat) (most : Int) (v : Value) (N : Nat) (T K : List Th) (x n : Int) (h : LsR w b most v N T K) (hn : 1 ≤ n ∧ n ≤ 1099511627776) (hx : (Lit.int .i64 x).wf = true) (hh : (look (T ++ K) x).isSome = true) :
    Calls Try.prog 32 #[.pointer (some ⟨b, 0, none⟩), .int .i64 x, .int .i64 n] w fun e w' => e = .returned (.int .i64 7) ∧ w = w' := by
  have c1 := h.c1
  have HM := Lib.hid h.mp
  have q1 : decide (n < 1) = false := by simp; omega
  have q2 : decide (1099511627776 < n) = false := by simp; omega
  clear h
  go_enter Try.func32, Try.ntmps32
  go_wp2_with (at_lookup; go_loud (refine list_look rfl _ _ rfl v N (look (T ++ K)) rfl HM.out x rfl hx ?_))
  go_ret
  exact ⟨rfl, rfl⟩

set_option maxHeartbeats 2000000 in
theorem add_map (w : World) (b m : Nat) (most : Int) (N : Nat) (T K : List Th) (x n : Int) (h : LsR w b most (.map (some m)) N T K) (hnn : 1 ≤ n ∧ n ≤ 1099511627776) (hx : (Lit.int .i64 x).wf = true) (hh : (look (T ++ K) x).isSome = false) (hN : N ≤ 998) :
    Calls Try.prog 32 #[.pointer (some ⟨b, 0, none⟩), .int .i64 x, .int .i64 n] w (AddPost w b most (.map (some m)) N T K x n) := by
  have HNO : Hid (hasK (prs (T ++ K)) x = false) := by rw [look_has] at hh; exact hh
  have hN2 := Lib.hid hN
  have c1 := h.c1
  have cf := h.tr.fz
  have H2 := Lib.hid h
  have HM := Lib.hid h.mp
  have q1 : decide (n < 1) = false := by simp; omega
  have q2 : decide (1099511627776 < n) = false := by simp; omega
  have G2 : Hid (Chg (ownL b (.map (some m)) T K) w w) := Chg.refl _ _
  have HV : Hid (Value.map (some m) = .map (some m) ∨ w.heap.size ≤ m) := .inl rfl
  have lb : b < w.heap.size := cell_lt h.c0
  clear h
  have qT : ∀ (w : World) (r : Option Nat), (binOp .eql 103 (.map r) (.map none)).run Try.prog w = .ok (.bool r.isNone) w := fun w r => run_eql_map_nil w _ _ _ r Try.underlying103
  go_enter Try.func32, Try.ntmps32
  go_upto_region 8 with (at_lookup; go_loud (refine list_look rfl _ _ rfl (.map (some m)) N (look (T ++ K)) rfl HM.out x rfl hx ?_))
  generalize hW2 : w = W2 at *
  clear hW2
  go_upto_region 9 with fail
  refine name_region ?_; intro W3 hW3
  have gW3 : Chg (fun _ => False) W2 W3 := by subst hW3; exact (by repeat (first | with_reducible exact Chg.refl _ _ | with_reducible assumption | with_reducible refine Chg.drewN ?_ _ | with_reducible refine Chg.drew ?_ | with_reducible refine Chg.alloc ?_ _ | with_reducible refine Chg.setCell ?_ (by first | (left; rfl) | (left; left; rfl) | (left; right; rfl) | (left; right; left; rfl) | (left; right; right; rfl) | (right; exact Nat.le_refl _) | (right; simp; done) | (right; omega) | (right; simp at *; omega) | (simp at *; omega)) _ | with_reducible refine Chg.trans ?_ (by with_reducible assumption) (by intro i hi hT; first | exact hT | exact False.elim hT | omega | (simp at *; omega))))
  have n0 : W3.cell? ⟨W2.heap.size, 0, none⟩ = some (.int .i64 x) := by subst hW3; go_simp
  have n1 : W3.cell? ⟨W2.heap.size, 1, none⟩ = some (.int .i64 n) := by subst hW3; go_simp
  have n2 : W3.cell? ⟨W2.heap.size, 2, none⟩ = some (.bool false) := by subst hW3; go_simp
  have n3 : W3.cell? ⟨W2.heap.size, 3, none⟩ = some (.pointer none) := by subst hW3; go_simp
  have n4 : W3.cell? ⟨W2.heap.size, 4, none⟩ = some (.pointer none) := by subst hW3; go_simp
  have nf : ∀ o, W3.frozen? ⟨W2.heap.size, o, none⟩ = false := by subst hW3; intro o; go_simp
  have j1 : W3.cell? ⟨b, 1, none⟩ = some (.map (some m)) := by subst hW3; go_simp
  clear hW3
  obtain ⟨p, hp⟩ : ∃ p, p = W2.heap.size := ⟨_, rfl⟩
  rw [← hp] at n0 n1 n2 n3 n4 nf ⊢
  have HP := Lib.hid hp
  have HG3 := Lib.hid gW3
  have HND : Hid (Nd W3 false (p, x, n) none none) := ⟨n0, n1, n2, n3, n4, nf⟩
  have HMP : Hid (PtM W3 m N (look (T ++ K))) := by
    rcases H2.out.mp with ⟨e1, _⟩ | ⟨m', e1, h'⟩
    · cases e1
    · injection e1 with e1; injection e1 with e1; subst e1; exact h'.chg gW3 id
  clear hp gW3 n0 n1 n2 n3 n4 nf
  go_wp2_with (at_mapUpdate; go_loud (refine list_pput rfl _ _ _ rfl m N (look (T ++ K)) rfl HMP.out (by omega) x rfl p rfl hx ?_; intro w4 hm4 hg4))
  have HX := Lib.hid (LsX.fresh H2.out HG3.out hg4 HP.out HND.out hm4 HNO.out hnn hN2.out)
  have HG4 := Lib.hid hg4
  clear hm4 hg4 j1
  go_wp2_with fail
  refine (pushT w4 b most (.map (some m)) (N + 1) T K (p, x, n) HX.out (by omega)).mono ?_
  rintro e w5 ⟨rfl, hR, g5⟩
  have HR := Lib.hid hR
  have HG5 := Lib.hid g5
  clear hR g5
  go_wp2
  go_ret
  refine ⟨rfl, m, p, HR.out, by have := HP.out; have := G2.out.size; omega, by first | exact HV.out | exact .inl rfl, ?_⟩
  refine ((G2.out.trans (HG3.out.mono (T := fun _ => False) fun _ _ h => h) fun _ _ h => h.elim).trans HG4.out fun i hi hS => ?_).trans HG5.out fun i hi hS => ?_
  · first
      | (refine .inr (.inl ?_); rw [hS]; done)
      | (rcases HV.out with e | e
         · exact .inr (.inl (by rw [hS]; exact e))
         · omega)
  · rcases hS with e | ⟨u, hu, e⟩
    · exact .inl e
    · rcases List.mem_cons.1 hu with rfl | hu
      · have := HP.out; have := G2.out.size; simp only at e; omega
      · exact .inr (.inr ⟨u, hu, e⟩)

set_option maxHeartbeats 2000000 in
theorem add_nil (w : World) (b : Nat) (most : Int) (N : Nat) (T K : List Th) (x n : Int) (h : LsR w b most (.map none) N T K) (hnn : 1 ≤ n ∧ n ≤ 1099511627776) (hx : (Lit.int .i64 x).wf = true) (hh : (look (T ++ K) x).isSome = false) (hN : N ≤ 998) :
    Calls Try.prog 32 #[.pointer (some ⟨b, 0, none⟩), .int .i64 x, .int .i64 n] w (AddPost w b most (.map none) N T K x n) := by
  have HNO : Hid (hasK (prs (T ++ K)) x = false) := by rw [look_has] at hh; exact hh
  have hN2 := Lib.hid hN
  have c1 := h.c1
  have cf := h.tr.fz
  have H := Lib.hid h
  have HM := Lib.hid h.mp
  have lb : b < w.heap.size := cell_lt h.c0
  have q1 : decide (n < 1) = false := by simp; omega
  have q2 : decide (1099511627776 < n) = false := by simp; omega
  clear h
  have hmm := @run_makeMap Try.prog
  have qT : ∀ (w : World) (r : Option Nat), (binOp .eql 103 (.map r) (.map none)).run Try.prog w = .ok (.bool r.isNone) w := fun w r => run_eql_map_nil w _ _ _ r Try.underlying103
  go_enter Try.func32, Try.ntmps32
  go_upto_region 8 with (at_lookup; go_loud (refine list_look rfl _ _ rfl (.map none) N (look (T ++ K)) rfl HM.out x rfl hx ?_))
  refine name_region ?_; intro W2 hW2
  have k1 : W2.cell? ⟨b, 1, none⟩ = some (.map (some w.heap.size)) := by subst hW2; go_simp
  have kf : ∀ o, W2.frozen? ⟨b, o, none⟩ = false := by subst hW2; intro o; go_simp
  have k0 : W2.cell? ⟨b, 0, none⟩ = some (.int .i64 most) := by have := H.out.c0; subst hW2; go_simp
  have kp : Hid (PtM W2 w.heap.size 0 (fun _ => none)) := by subst hW2; have h0 := ptM_made (w.setCell ⟨b, 1, none⟩ (.map (some w.heap.size))); simp at h0; exact h0
  have G2' : Chg (fun k => k = b) w W2 := by subst hW2; exact (by repeat (first | with_reducible exact Chg.refl _ _ | with_reducible assumption | with_reducible refine Chg.drewN ?_ _ | with_reducible refine Chg.drew ?_ | with_reducible refine Chg.alloc ?_ _ | with_reducible refine Chg.setCell ?_ (by first | (left; rfl) | (left; left; rfl) | (left; right; rfl) | (left; right; left; rfl) | (left; right; right; rfl) | (right; exact Nat.le_refl _) | (right; simp; done) | (right; omega) | (right; simp at *; omega) | (simp at *; omega)) _ | with_reducible refine Chg.trans ?_ (by with_reducible assumption) (by intro i hi hT; first | exact hT | exact False.elim hT | omega | (simp at *; omega))))
  have kt : ∀ o, 2 ≤ o → W2.cell? ⟨b, o, none⟩ = w.cell? ⟨b, o, none⟩ := by subst hW2; intro o ho; rw [(Chg.alloc (S := fun _ => False) (Chg.refl _ _) _).cell (by simpa using lb) id o, cell_other (by intro e; injection e with _ e; omega)]
  clear hW2
  obtain ⟨m, hm⟩ : ∃ m, m = w.heap.size := ⟨_, rfl⟩
  rw [← hm] at k1 kp
  have H2 : Hid (LsR W2 b most (.map (some m)) N T K) := by
    have h := H.out
    have hM : ∀ z, look (T ++ K) z = none := by
      rcases h.mp with ⟨_, h1⟩ | ⟨m', h1, _⟩
      · exact h1
      · cases h1
    exact ⟨k0, k1, .inr ⟨m, rfl, (kp.out.mono (Nat.zero_le _)).congr fun z => (hM z).symm⟩, ⟨(kt 2 (by omega)).trans h.tr.front, (kt 3 (by omega)).trans h.tr.back, (kt 4 (by omega)).trans h.tr.bytes, kf, Lk.chg G2' h.tr.lk h.tr.apart, h.tr.apart, h.tr.one⟩,
      ⟨(kt 5 (by omega)).trans h.kr.front, (kt 6 (by omega)).trans h.kr.back, (kt 7 (by omega)).trans h.kr.bytes, kf, Lk.chg G2' h.kr.lk h.kr.apart, h.kr.apart, h.kr.one⟩, h.sep, h.len, h.keys, h.bytes⟩
  have G2 : Hid (Chg (ownL b (.map none) T K) w W2) := G2'.mono fun _ _ h => .inl h
  have HV : Hid (Value.map none = .map (some m) ∨ w.heap.size ≤ m) := .inr (by omega)
  have lb2 : b < W2.heap.size := cell_lt k0
  clear lb c1 cf k0 kt kp G2' hm
  go_upto_region 9 with fail
  refine name_region ?_; intro W3 hW3
  have gW3 : Chg (fun _ => False) W2 W3 := by subst hW3; exact (by repeat (first | with_reducible exact Chg.refl _ _ | with_reducible assumption | with_reducible refine Chg.drewN ?_ _ | with_reducible refine Chg.drew ?_ | with_reducible refine Chg.alloc ?_ _ | with_reducible refine Chg.setCell ?_ (by first | (left; rfl) | (left; left; rfl) | (left; right; rfl) | (left; right; left; rfl) | (left; right; right; rfl) | (right; exact Nat.le_refl _) | (right; simp; done) | (right; omega) | (right; simp at *; omega) | (simp at *; omega)) _ | with_reducible refine Chg.trans ?_ (by with_reducible assumption) (by intro i hi hT; first | exact hT | exact False.elim hT | omega | (simp at *; omega))))
  have n0 : W3.cell? ⟨W2.heap.size, 0, none⟩ = some (.int .i64 x) := by subst hW3; go_simp
  have n1 : W3.cell? ⟨W2.heap.size, 1, none⟩ = some (.int .i64 n) := by subst hW3; go_simp
  have n2 : W3.cell? ⟨W2.heap.size, 2, none⟩ = some (.bool false) := by subst hW3; go_simp
  have n3 : W3.cell? ⟨W2.heap.size, 3, none⟩ = some (.pointer none) := by subst hW3; go_simp
  have n4 : W3.cell? ⟨W2.heap.size, 4, none⟩ = some (.pointer none) := by subst hW3; go_simp
  have nf : ∀ o, W3.frozen? ⟨W2.heap.size, o, none⟩ = false := by subst hW3; intro o; go_simp
  have j1 : W3.cell? ⟨b, 1, none⟩ = some (.map (some m)) := by subst hW3; go_simp
  clear hW3
  obtain ⟨p, hp⟩ : ∃ p, p = W2.heap.size := ⟨_, rfl⟩
  rw [← hp] at n0 n1 n2 n3 n4 nf ⊢
  have HP := Lib.hid hp
  have HG3 := Lib.hid gW3
  have HND : Hid (Nd W3 false (p, x, n) none none) := ⟨n0, n1, n2, n3, n4, nf⟩
  have HMP : Hid (PtM W3 m N (look (T ++ K))) := by
    rcases H2.out.mp with ⟨e1, _⟩ | ⟨m', e1, h'⟩
    · cases e1
    · injection e1 with e1; injection e1 with e1; subst e1; exact h'.chg gW3 id
  clear hp gW3 n0 n1 n2 n3 n4 nf
  go_wp2_with (at_mapUpdate; go_loud (refine list_pput rfl _ _ _ rfl m N (look (T ++ K)) rfl HMP.out (by omega) x rfl p rfl hx ?_; intro w4 hm4 hg4))
  have HX := Lib.hid (LsX.fresh H2.out HG3.out hg4 HP.out HND.out hm4 HNO.out hnn hN2.out)
  have HG4 := Lib.hid hg4
  clear hm4 hg4 j1
  go_wp2_with fail
  refine (pushT w4 b most (.map (some m)) (N + 1) T K (p, x, n) HX.out (by omega)).mono ?_
  rintro e w5 ⟨rfl, hR, g5⟩
  have HR := Lib.hid hR
  have HG5 := Lib.hid g5
  clear hR g5
  go_wp2
  go_ret
  refine ⟨rfl, m, p, HR.out, by have := HP.out; have := G2.out.size; omega, by first | exact HV.out | exact .inl rfl, ?_⟩
  refine ((G2.out.trans (HG3.out.mono (T := fun _ => False) fun _ _ h => h) fun _ _ h => h.elim).trans HG4.out fun i hi hS => ?_).trans HG5.out fun i hi hS => ?_
  · first
      | (refine .inr (.inl ?_); rw [hS]; done)
      | (rcases HV.out with e | e
         · exact .inr (.inl (by rw [hS]; exact e))
         · omega)
  · rcases hS with e | ⟨u, hu, e⟩
    · exact .inl e
    · rcases List.mem_cons.1 hu with rfl | hu
      · have := HP.out; have := G2.out.size; simp only at e; omega
      · exact .inr (.inr ⟨u, hu, e⟩)
end Go.Proofs.Ytdoepjokaekckaa
