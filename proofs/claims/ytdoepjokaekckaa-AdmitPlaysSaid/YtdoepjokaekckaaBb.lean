/- The book's calls set, Add, Less. (Printed by genset.py.) -/
import Derived.Test.YtdoepjokaekckaaBa
namespace Go.Proofs.Ytdoepjokaekckaa
set_option linter.unusedVariables false
open Go.RowKit Go.Sort

def putF (F : List UInt8 → Int) (s : List UInt8) (n : Int) : List UInt8 → Int := fun y => if y = s then n else F y
/-- The book, its blocks among those of v's map or new. -/
def BkPost (w : World) (b : Nat) (room share all : Int) (v : Value) (N : Nat) (F : List UInt8 → Int) (w' : World) : Prop := ∃ m, Bk w' b room share all (.map (some m)) N F ∧ (v = .map (some m) ∨ w.heap.size ≤ m) ∧ Chg (ownB b v) w w'

set_option maxHeartbeats 2000000 in
theorem set_map (w : World) (b m N : Nat) (room share all : Int) (F : List UInt8 → Int) (s : ByteArray) (n : Int) (h : Bk w b room share all (.map (some m)) N F) (hs : s.size ≤ maxLen) (hb : 0 ≤ all ∧ all ≤ 2251799813685248 ∧ 0 ≤ F s.data.toList ∧ F s.data.toList ≤ 2251799813685248 ∧ 0 ≤ n ∧ n ≤ 2251799813685248) (hN : N ≤ 10000000) :
    Calls Try.prog 53 #[.pointer (some ⟨b, 0, none⟩), .string s, .int .i64 n] w fun e w' => e = .returned (.tuple #[]) ∧ BkPost w b room share (all + (n - F s.data.toList)) (.map (some m)) (N + 1) (putF F s.data.toList n) w' := by
  have hw : (Lit.int .i64 n).wf = true := WalkArith.wf_i64 (by omega)
  have hmm := @run_makeMap Try.prog
  have qT : ∀ (w : World) (r : Option Nat), (binOp .eql 49 (.map r) (.map none)).run Try.prog w = .ok (.bool r.isNone) w := fun w r => run_eql_map_nil w _ _ _ r Try.underlying49
  have H2 := Lib.hid h
  have c3 := h.c3
  have G2 : Hid (Chg (ownB b (.map (some m))) w w) := Chg.refl _ _
  have HV : Hid (Value.map (some m) = .map (some m) ∨ w.heap.size ≤ m) := .inl rfl
  clear h
  go_enter Try.func53, Try.ntmps53
  go_upto_region 2 with fail
  clear c3 hmm qT
  have k0 := H2.out.c0
  have k1 := H2.out.c1
  have k2 := H2.out.c2
  have k3 := H2.out.c3
  have kf := H2.out.fz
  have lb2 : b < w.heap.size := cell_lt k0
  obtain ⟨f, hf⟩ : ∃ f, f = F s.data.toList := ⟨_, rfl⟩
  rw [← hf] at hb
  have HF := Lib.hid hf
  have hlk : ∀ d os, (Instr.lookup 49 (.map (some m)) (.string s) false).run Try.prog (grow (redrawn w d) os) = .ok (.int .i64 f) (grow (redrawn w d) os) := fun d os => by
    rw [hf]; exact (H2.out.mp.chg (Chg.ofBelow (S := fun _ => False) (below_regrown w d os)) fun _ _ => id).get hs
  have e1 : IntKind.i64.wrap (n - f) = n - f := IntWalk.i64_in _ (by omega)
  have e2 : IntKind.i64.wrap (all + (n - f)) = all + (n - f) := IntWalk.i64_in _ (by omega)
  clear hf
  (have hN : w.heap.size ≤ (World.heap w).size := by first | assumption | exact Nat.le_refl _ | (simp; done) | omega | (simp; omega) | (simp at *; omega)); (have kr := fun d os b o (h : b < w.heap.size) => (below_regrown w d os).cell (p := ⟨b, o, none⟩) (Nat.lt_of_lt_of_le h hN)); (refine wp_region_below_tail 14 (by kernel_rfl) (by kernel_rfl) ?_); (simp only [List.take_succ_cons, List.take_zero, List.drop_succ_cons, List.drop_zero]); (repeat (first | go_big_quiet_step ((first | fail)) | quiet_step ((first | fail)))); (refine wpQuiet_nil ?_); (intro w9 hw9); (obtain ⟨⟨dq, osq⟩, hw9⟩ := hw9); (have g9 := below_regrown w dq osq); (rw [← hw9] at g9); (have g9 : Below (w.heap.size) _ w9 := g9.mono hN); (have z9 : w.heap.size ≤ w9.heap.size := Nat.le_trans hN g9.size); (have c9 := fun b o h => g9.cell (p := ⟨b, o, none⟩) h); (have f9 := fun b o h => g9.frozen (p := ⟨b, o, none⟩) h); (clear hw9 kr hN g9)
  clear hlk
  have z0 : w9.cell? ⟨b, 0, none⟩ = some (.int .i64 room) := (c9 b 0 lb2).trans k0
  have z1 : w9.cell? ⟨b, 1, none⟩ = some (.int .i64 share) := (c9 b 1 lb2).trans k1
  have z2 : w9.cell? ⟨b, 2, none⟩ = some (.int .i64 all) := (c9 b 2 lb2).trans k2
  have z3 : w9.cell? ⟨b, 3, none⟩ = some (.map (some m)) := (c9 b 3 lb2).trans k3
  have zf : ∀ o, w9.frozen? ⟨b, o, none⟩ = false := fun o => (f9 b o lb2).trans (kf o)
  have gg9 : Chg (fun _ => False) w w9 := ⟨g9.os, g9.tape, g9.output, z9, fun k hk _ => g9.block k hk⟩
  have HNM : Hid (NmM w9 m N F) := by
    rcases H2.out.mp with ⟨e1, _⟩ | ⟨m', e1, h'⟩
    · cases e1
    · injection e1 with e1; injection e1 with e1; subst e1; exact h'.chg gg9 id
  have HG9 := Lib.hid gg9
  have HMB : Hid (m ≠ b) := H2.out.mp.not rfl k0
  clear k0 k1 k2 k3 kf c9 f9 g9 gg9 lb2
  go_upto_region 3 with fail
  refine name_region ?_; intro W3 hW3
  have y0 : W3.cell? ⟨b, 0, none⟩ = some (.int .i64 room) := by subst hW3; go_simp
  have y1 : W3.cell? ⟨b, 1, none⟩ = some (.int .i64 share) := by subst hW3; go_simp
  have y2 : W3.cell? ⟨b, 2, none⟩ = some (.int .i64 (all + (n - f))) := by subst hW3; go_simp
  have y3 : W3.cell? ⟨b, 3, none⟩ = some (.map (some m)) := by subst hW3; go_simp
  have yf : ∀ o, W3.frozen? ⟨b, o, none⟩ = false := by subst hW3; intro o; go_simp
  have gW3 : Chg (fun k => k = b) w9 W3 := by subst hW3; exact (by repeat (first | with_reducible exact Chg.refl _ _ | with_reducible assumption | with_reducible refine Chg.drewN ?_ _ | with_reducible refine Chg.drew ?_ | with_reducible refine Chg.alloc ?_ _ | with_reducible refine Chg.setCell ?_ (by first | (left; rfl) | (left; left; rfl) | (left; right; rfl) | (left; right; left; rfl) | (left; right; right; rfl) | (right; exact Nat.le_refl _) | (right; simp; done) | (right; omega) | (right; simp at *; omega) | (simp at *; omega)) _ | with_reducible refine Chg.trans ?_ (by with_reducible assumption) (by intro i hi hT; first | exact hT | exact False.elim hT | omega | (simp at *; omega))))
  clear hW3 z0 z1 z2 z3 zf
  have HNM3 : Hid (NmM W3 m N F) := HNM.out.chg gW3 HMB.out
  have HG3 := Lib.hid gW3
  have HY := Lib.hid (And.intro y0 (And.intro y1 (And.intro y2 yf)))
  have hbm : ¬ b = m := fun e => HMB.out e.symm
  have lb3 : b < W3.heap.size := cell_lt y3
  clear gW3
  clear e1 e2
  by_cases hn0 : n = 0
  · subst hn0
    go_wp2_with (first
      | (at_mapUpdate; go_loud (refine list_nput rfl _ _ _ rfl m N F rfl HNM3.out (by omega) s rfl hs _ rfl hw ?_; intro w4 hm4 hg4; have HM4 := Lib.hid hm4; have HG4 := Lib.hid hg4; have x3 : w4.cell? ⟨b, 3, none⟩ = some (.map (some m)) := (by rw [hg4.cell lb3 hbm]; exact y3); clear hm4 hg4))
      | (at_delete; go_loud (refine list_ndel rfl _ _ rfl m (N + 1) _ rfl HM4.out s rfl hs ?_; intro w5 hm5 hg5; have HM5 := Lib.hid hm5; have HG5 := Lib.hid hg5; clear hm5 hg5)))
    go_end0
    have lb4 : b < w4.heap.size := cell_lt x3
    have g45 : Chg (fun k => k = m) W3 w5 := HG4.out.trans HG5.out fun _ _ h => h
    refine ⟨rfl, m, ⟨(g45.cell lb3 hbm 0).trans HY.out.1, (g45.cell lb3 hbm 1).trans HY.out.2.1, (g45.cell lb3 hbm 2).trans (by have h9 := HY.out.2.2.1; rw [HF.out] at h9; simpa using h9), (g45.cell lb3 hbm 3).trans y3, fun o => (g45.frozen lb3 hbm o).trans (HY.out.2.2.2 o), .inr ⟨m, rfl, HM5.out.congr fun y => ?_⟩⟩, (show Value.map (some m) = .map (some m) ∨ w.heap.size ≤ m from .inl rfl), ?_⟩
    · unfold putF; by_cases e : y = s.data.toList <;> simp [e]
    · refine ((G2.out.trans HG9.out fun _ _ h => h.elim).trans HG3.out fun _ _ h => .inl h).trans g45 fun i hi h => ?_
      rcases (show Value.map (some m) = .map (some m) ∨ w.heap.size ≤ m from .inl rfl) with e | e
      · exact .inr (by subst h; first | exact e | rfl)
      · omega
  · have q : (n == 0) = false := by simpa using hn0
    have HN0 := Lib.hid hn0
    clear hn0
    go_wp2_with (at_mapUpdate; go_loud (refine list_nput rfl _ _ _ rfl m N F rfl HNM3.out (by omega) s rfl hs _ rfl hw ?_; intro w4 hm4 hg4; have HM4 := Lib.hid hm4; have HG4 := Lib.hid hg4; clear hm4 hg4))
    go_end0
    have g45 := HG4.out
    refine ⟨rfl, m, ⟨(g45.cell lb3 hbm 0).trans HY.out.1, (g45.cell lb3 hbm 1).trans HY.out.2.1, (g45.cell lb3 hbm 2).trans (by have h9 := HY.out.2.2.1; rw [HF.out] at h9; simpa using h9), (g45.cell lb3 hbm 3).trans y3, fun o => (g45.frozen lb3 hbm o).trans (HY.out.2.2.2 o), .inr ⟨m, rfl, HM4.out⟩⟩, (show Value.map (some m) = .map (some m) ∨ w.heap.size ≤ m from .inl rfl), ?_⟩
    refine ((G2.out.trans HG9.out fun _ _ h => h.elim).trans HG3.out fun _ _ h => .inl h).trans g45 fun i hi h => ?_
    rcases (show Value.map (some m) = .map (some m) ∨ w.heap.size ≤ m from .inl rfl) with e | e
    · exact .inr (by subst h; first | exact e | rfl)
    · omega

set_option maxHeartbeats 2000000 in
theorem set_nil (w : World) (b N : Nat) (room share all : Int) (F : List UInt8 → Int) (s : ByteArray) (n : Int) (h : Bk w b room share all (.map none) N F) (hs : s.size ≤ maxLen) (hb : 0 ≤ all ∧ all ≤ 2251799813685248 ∧ 0 ≤ F s.data.toList ∧ F s.data.toList ≤ 2251799813685248 ∧ 0 ≤ n ∧ n ≤ 2251799813685248) (hN : N ≤ 10000000) :
    Calls Try.prog 53 #[.pointer (some ⟨b, 0, none⟩), .string s, .int .i64 n] w fun e w' => e = .returned (.tuple #[]) ∧ BkPost w b room share (all + (n - F s.data.toList)) (.map none) (N + 1) (putF F s.data.toList n) w' := by
  have hw : (Lit.int .i64 n).wf = true := WalkArith.wf_i64 (by omega)
  have hmm := @run_makeMap Try.prog
  have qT : ∀ (w : World) (r : Option Nat), (binOp .eql 49 (.map r) (.map none)).run Try.prog w = .ok (.bool r.isNone) w := fun w r => run_eql_map_nil w _ _ _ r Try.underlying49
  have H := Lib.hid h
  have c0 := h.c0
  have c1 := h.c1
  have c2 := h.c2
  have c3 := h.c3
  have cf := h.fz
  have lb : b < w.heap.size := cell_lt c3
  clear h
  go_enter Try.func53, Try.ntmps53
  go_upto_region 2 with fail
  refine name_region ?_; intro W2 hW2
  have k0 : W2.cell? ⟨b, 0, none⟩ = some (.int .i64 room) := by subst hW2; go_simp
  have k1 : W2.cell? ⟨b, 1, none⟩ = some (.int .i64 share) := by subst hW2; go_simp
  have k2 : W2.cell? ⟨b, 2, none⟩ = some (.int .i64 all) := by subst hW2; go_simp
  have k3 : W2.cell? ⟨b, 3, none⟩ = some (.map (some w.heap.size)) := by subst hW2; go_simp
  have kf : ∀ o, W2.frozen? ⟨b, o, none⟩ = false := by subst hW2; intro o; go_simp
  have kp : Hid (NmM W2 w.heap.size 0 (fun _ => 0)) := by subst hW2; have h0 := nmM_made (w.setCell ⟨b, 3, none⟩ (.map (some w.heap.size))); simp at h0; exact h0
  have G2' : Chg (fun k => k = b) w W2 := by subst hW2; exact (by repeat (first | with_reducible exact Chg.refl _ _ | with_reducible assumption | with_reducible refine Chg.drewN ?_ _ | with_reducible refine Chg.drew ?_ | with_reducible refine Chg.alloc ?_ _ | with_reducible refine Chg.setCell ?_ (by first | (left; rfl) | (left; left; rfl) | (left; right; rfl) | (left; right; left; rfl) | (left; right; right; rfl) | (right; exact Nat.le_refl _) | (right; simp; done) | (right; omega) | (right; simp at *; omega) | (simp at *; omega)) _ | with_reducible refine Chg.trans ?_ (by with_reducible assumption) (by intro i hi hT; first | exact hT | exact False.elim hT | omega | (simp at *; omega))))
  clear hW2 hmm qT c0 c1 c2 c3 cf
  obtain ⟨m, hm⟩ : ∃ m, m = w.heap.size := ⟨_, rfl⟩
  rw [← hm] at k3 kp
  have HMW := Lib.hid hm
  have H2 : Hid (Bk W2 b room share all (.map (some m)) N F) := by
    have hM : ∀ z, F z = 0 := by
      rcases H.out.mp with ⟨_, h1⟩ | ⟨m', h1, _⟩
      · exact h1
      · cases h1
    exact ⟨k0, k1, k2, k3, kf, .inr ⟨m, rfl, (kp.out.mono (Nat.zero_le _)).congr fun z => (hM z).symm⟩⟩
  have G2 : Hid (Chg (ownB b (.map none)) w W2) := G2'.mono fun _ _ h => .inl h
  have HV : Hid (Value.map none = .map (some m) ∨ w.heap.size ≤ m) := .inr (by omega)
  clear k0 k1 k2 k3 kf kp G2' hm
  have k0 := H2.out.c0
  have k1 := H2.out.c1
  have k2 := H2.out.c2
  have k3 := H2.out.c3
  have kf := H2.out.fz
  have lb2 : b < W2.heap.size := cell_lt k0
  obtain ⟨f, hf⟩ : ∃ f, f = F s.data.toList := ⟨_, rfl⟩
  rw [← hf] at hb
  have HF := Lib.hid hf
  have hlk : ∀ d os, (Instr.lookup 49 (.map (some m)) (.string s) false).run Try.prog (grow (redrawn W2 d) os) = .ok (.int .i64 f) (grow (redrawn W2 d) os) := fun d os => by
    rw [hf]; exact (H2.out.mp.chg (Chg.ofBelow (S := fun _ => False) (below_regrown W2 d os)) fun _ _ => id).get hs
  have e1 : IntKind.i64.wrap (n - f) = n - f := IntWalk.i64_in _ (by omega)
  have e2 : IntKind.i64.wrap (all + (n - f)) = all + (n - f) := IntWalk.i64_in _ (by omega)
  clear hf
  (have hN : W2.heap.size ≤ (World.heap W2).size := by first | assumption | exact Nat.le_refl _ | (simp; done) | omega | (simp; omega) | (simp at *; omega)); (have kr := fun d os b o (h : b < W2.heap.size) => (below_regrown W2 d os).cell (p := ⟨b, o, none⟩) (Nat.lt_of_lt_of_le h hN)); (refine wp_region_below_tail 14 (by kernel_rfl) (by kernel_rfl) ?_); (simp only [List.take_succ_cons, List.take_zero, List.drop_succ_cons, List.drop_zero]); (repeat (first | go_big_quiet_step ((first | fail)) | quiet_step ((first | fail)))); (refine wpQuiet_nil ?_); (intro w9 hw9); (obtain ⟨⟨dq, osq⟩, hw9⟩ := hw9); (have g9 := below_regrown W2 dq osq); (rw [← hw9] at g9); (have g9 : Below (W2.heap.size) _ w9 := g9.mono hN); (have z9 : W2.heap.size ≤ w9.heap.size := Nat.le_trans hN g9.size); (have c9 := fun b o h => g9.cell (p := ⟨b, o, none⟩) h); (have f9 := fun b o h => g9.frozen (p := ⟨b, o, none⟩) h); (clear hw9 kr hN g9)
  clear hlk
  have z0 : w9.cell? ⟨b, 0, none⟩ = some (.int .i64 room) := (c9 b 0 lb2).trans k0
  have z1 : w9.cell? ⟨b, 1, none⟩ = some (.int .i64 share) := (c9 b 1 lb2).trans k1
  have z2 : w9.cell? ⟨b, 2, none⟩ = some (.int .i64 all) := (c9 b 2 lb2).trans k2
  have z3 : w9.cell? ⟨b, 3, none⟩ = some (.map (some m)) := (c9 b 3 lb2).trans k3
  have zf : ∀ o, w9.frozen? ⟨b, o, none⟩ = false := fun o => (f9 b o lb2).trans (kf o)
  have gg9 : Chg (fun _ => False) W2 w9 := ⟨g9.os, g9.tape, g9.output, z9, fun k hk _ => g9.block k hk⟩
  have HNM : Hid (NmM w9 m N F) := by
    rcases H2.out.mp with ⟨e1, _⟩ | ⟨m', e1, h'⟩
    · cases e1
    · injection e1 with e1; injection e1 with e1; subst e1; exact h'.chg gg9 id
  have HG9 := Lib.hid gg9
  have HMB : Hid (m ≠ b) := H2.out.mp.not rfl k0
  clear k0 k1 k2 k3 kf c9 f9 g9 gg9 lb2
  go_upto_region 3 with fail
  refine name_region ?_; intro W3 hW3
  have y0 : W3.cell? ⟨b, 0, none⟩ = some (.int .i64 room) := by subst hW3; go_simp
  have y1 : W3.cell? ⟨b, 1, none⟩ = some (.int .i64 share) := by subst hW3; go_simp
  have y2 : W3.cell? ⟨b, 2, none⟩ = some (.int .i64 (all + (n - f))) := by subst hW3; go_simp
  have y3 : W3.cell? ⟨b, 3, none⟩ = some (.map (some m)) := by subst hW3; go_simp
  have yf : ∀ o, W3.frozen? ⟨b, o, none⟩ = false := by subst hW3; intro o; go_simp
  have gW3 : Chg (fun k => k = b) w9 W3 := by subst hW3; exact (by repeat (first | with_reducible exact Chg.refl _ _ | with_reducible assumption | with_reducible refine Chg.drewN ?_ _ | with_reducible refine Chg.drew ?_ | with_reducible refine Chg.alloc ?_ _ | with_reducible refine Chg.setCell ?_ (by first | (left; rfl) | (left; left; rfl) | (left; right; rfl) | (left; right; left; rfl) | (left; right; right; rfl) | (right; exact Nat.le_refl _) | (right; simp; done) | (right; omega) | (right; simp at *; omega) | (simp at *; omega)) _ | with_reducible refine Chg.trans ?_ (by with_reducible assumption) (by intro i hi hT; first | exact hT | exact False.elim hT | omega | (simp at *; omega))))
  clear hW3 z0 z1 z2 z3 zf
  have HNM3 : Hid (NmM W3 m N F) := HNM.out.chg gW3 HMB.out
  have HG3 := Lib.hid gW3
  have HY := Lib.hid (And.intro y0 (And.intro y1 (And.intro y2 yf)))
  have hbm : ¬ b = m := fun e => HMB.out e.symm
  have lb3 : b < W3.heap.size := cell_lt y3
  clear gW3
  clear e1 e2
  by_cases hn0 : n = 0
  · subst hn0
    go_wp2_with (first
      | (at_mapUpdate; go_loud (refine list_nput rfl _ _ _ rfl m N F rfl HNM3.out (by omega) s rfl hs _ rfl hw ?_; intro w4 hm4 hg4; have HM4 := Lib.hid hm4; have HG4 := Lib.hid hg4; have x3 : w4.cell? ⟨b, 3, none⟩ = some (.map (some m)) := (by rw [hg4.cell lb3 hbm]; exact y3); clear hm4 hg4))
      | (at_delete; go_loud (refine list_ndel rfl _ _ rfl m (N + 1) _ rfl HM4.out s rfl hs ?_; intro w5 hm5 hg5; have HM5 := Lib.hid hm5; have HG5 := Lib.hid hg5; clear hm5 hg5)))
    go_end0
    have lb4 : b < w4.heap.size := cell_lt x3
    have g45 : Chg (fun k => k = m) W3 w5 := HG4.out.trans HG5.out fun _ _ h => h
    refine ⟨rfl, m, ⟨(g45.cell lb3 hbm 0).trans HY.out.1, (g45.cell lb3 hbm 1).trans HY.out.2.1, (g45.cell lb3 hbm 2).trans (by have h9 := HY.out.2.2.1; rw [HF.out] at h9; simpa using h9), (g45.cell lb3 hbm 3).trans y3, fun o => (g45.frozen lb3 hbm o).trans (HY.out.2.2.2 o), .inr ⟨m, rfl, HM5.out.congr fun y => ?_⟩⟩, HV.out, ?_⟩
    · unfold putF; by_cases e : y = s.data.toList <;> simp [e]
    · refine ((G2.out.trans HG9.out fun _ _ h => h.elim).trans HG3.out fun _ _ h => .inl h).trans g45 fun i hi h => ?_
      rcases HV.out with e | e
      · exact .inr (by subst h; first | exact e | rfl)
      · omega
  · have q : (n == 0) = false := by simpa using hn0
    have HN0 := Lib.hid hn0
    clear hn0
    go_wp2_with (at_mapUpdate; go_loud (refine list_nput rfl _ _ _ rfl m N F rfl HNM3.out (by omega) s rfl hs _ rfl hw ?_; intro w4 hm4 hg4; have HM4 := Lib.hid hm4; have HG4 := Lib.hid hg4; clear hm4 hg4))
    go_end0
    have g45 := HG4.out
    refine ⟨rfl, m, ⟨(g45.cell lb3 hbm 0).trans HY.out.1, (g45.cell lb3 hbm 1).trans HY.out.2.1, (g45.cell lb3 hbm 2).trans (by have h9 := HY.out.2.2.1; rw [HF.out] at h9; simpa using h9), (g45.cell lb3 hbm 3).trans y3, fun o => (g45.frozen lb3 hbm o).trans (HY.out.2.2.2 o), .inr ⟨m, rfl, HM4.out⟩⟩, HV.out, ?_⟩
    refine ((G2.out.trans HG9.out fun _ _ h => h.elim).trans HG3.out fun _ _ h => .inl h).trans g45 fun i hi h => ?_
    rcases HV.out with e | e
    · exact .inr (by subst h; first | exact e | rfl)
    · omega

theorem set_any (w : World) (b N : Nat) (room share all : Int) (v : Value) (F : List UInt8 → Int) (s : ByteArray) (n : Int) (h : Bk w b room share all v N F) (hs : s.size ≤ maxLen) (hb : 0 ≤ all ∧ all ≤ 2251799813685248 ∧ 0 ≤ F s.data.toList ∧ F s.data.toList ≤ 2251799813685248 ∧ 0 ≤ n ∧ n ≤ 2251799813685248) (hN : N ≤ 10000000) :
    Calls Try.prog 53 #[.pointer (some ⟨b, 0, none⟩), .string s, .int .i64 n] w fun e w' => e = .returned (.tuple #[]) ∧ BkPost w b room share (all + (n - F s.data.toList)) v (N + 1) (putF F s.data.toList n) w' := by
  rcases h.mp with ⟨e1, _⟩ | ⟨m, e1, _⟩
  · subst e1; exact set_nil w b N room share all F s n h hs hb hN
  · subst e1; exact set_map w b m N room share all F s n h hs hb hN

set_option maxHeartbeats 1000000 in
theorem less_any (w : World) (b N : Nat) (room share all : Int) (v : Value) (F : List UInt8 → Int) (s : ByteArray) (n : Int) (h : Bk w b room share all v N F) (hs : s.size ≤ 200) (hb : 0 ≤ all ∧ all ≤ 1125899906842624 ∧ n ≤ F s.data.toList ∧ F s.data.toList ≤ 1125899906842624 ∧ 0 ≤ n) (hN : N ≤ 10000000) :
    Calls Try.prog 41 #[.pointer (some ⟨b, 0, none⟩), .string s, .int .i64 n] w fun e w' => e = .returned (.int .i64 0) ∧ BkPost w b room share (all - n) v (N + 1) (putF F s.data.toList (F s.data.toList - n)) w' := by
  have c3 := h.c3
  have H := Lib.hid h
  have HM := Lib.hid h.mp
  have hs2 : s.size ≤ maxLen := by unfold maxLen; omega
  have HB := Lib.hid hb
  obtain ⟨f, hf⟩ : ∃ f, f = F s.data.toList := ⟨_, rfl⟩
  rw [← hf] at hb
  have q : decide (f < n) = false := by simp; omega
  have hb1 : 0 ≤ f - n ∧ f - n ≤ 1125899906842624 := by omega
  have HF := Lib.hid hf
  clear h hf
  go_enter Try.func41, Try.ntmps41
  go_wp2_with fail
  refine (asks_yes w b s n hs (by omega)).mono ?_
  rintro e w' ⟨rfl, rfl⟩
  go_wp2_with (at_lookup; go_loud (refine list_nget rfl _ _ rfl v N F rfl HM.out s rfl hs2 ?_; rw [← HF.out]))
  refine (set_any w b N room share all v F s (f - n) H.out hs2 (by have := HB.out; rw [← HF.out] at this ⊢; omega) hN).mono ?_
  rintro e w1 ⟨rfl, hP⟩
  rw [← HF.out] at hP
  have HP := Lib.hid hP
  clear hP
  go_wp2
  go_ret
  have e : all + (f - n - f) = all - n := by omega
  have hP := HP.out
  rw [e] at hP
  rw [← HF.out]
  exact ⟨rfl, hP⟩
end Go.Proofs.Ytdoepjokaekckaa
