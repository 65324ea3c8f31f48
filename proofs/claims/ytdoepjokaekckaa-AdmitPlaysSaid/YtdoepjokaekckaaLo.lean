/- The reference's list: Touch. (Printed by gentouchr.py.) -/
import Derived.Test.YtdoepjokaekckaaLg
import Derived.Deep.CutBlock
namespace Go.Proofs.Ytdoepjokaekckaa
set_option linter.unusedVariables false
open Go.RowKit

def MidR (w : World) (r : Nat) (most : Int) (T0 K0 : List Pt) (a1 : Option Addr) (n1 c1 : Nat) (a2 : Option Addr) (n2 c2 N : Nat) (F : List Pt × List Pt) (wx : World) : Prop := ∃ T K, RfN w r most T0 K0 a1 n1 c1 a2 n2 c2 T K wx ∧ spill most T K = F ∧ T.length + K.length ≤ N ∧ ∀ t ∈ T ++ K, 1 ≤ t.2 ∧ t.2 ≤ 1099511627776
def lenC (w : World) (r : Nat) : Nat := match w.cell? ⟨r, 2, none⟩ with | some (.slice _ n _) => n | _ => 0
theorem lenC_of {w : World} {r : Nat} {most : Int} {T K : List Pt} {a1 : Option Addr} {c1 : Nat} {a2 : Option Addr} {c2 : Nat} (h : RfR w r most T K a1 c1 a2 c2) : lenC w r = K.length := by
  rw [lenC, h.m2]
theorem without_head (w : World) (a : Option Addr) (c : Nat) (T : List Pt) (t : Pt) (h : IsP w a c (t :: T)) (hl : (t :: T).length ≤ 1000) :
    Calls Try.prog 66 #[.slice a (t :: T).length c, .int .i64 0] w fun e w' => (∃ a' c', e = .returned (.slice a' T.length c') ∧ w'.ownsRow w.heap.size 127 2 (.slice a' T.length c') T.length (flat T)) ∧ Chg (fun _ => False) w w' :=
  without_of w a c (t :: T) T [] T t rfl rfl h hl
/-- A step from a reference that stands to one that has a new slice. -/
def Stp (W : World) (r : Nat) (most : Int) (T K : List Pt) (a1 : Option Addr) (n1 c1 : Nat) (a2 : Option Addr) (n2 c2 : Nat) (wx : World) : Prop := RfN W r most [] [] a1 n1 c1 a2 n2 c2 T K wx
theorem RfN.step {w w1 w2 : World} {r : Nat} {most : Int} {T K T1 K1 T2 K2 : List Pt} {a1 a2 b1 b2 : Option Addr} {n1 c1 n2 c2 d1 d2 : Nat} (h : RfR w1 r most T1 K1 b1 d1 b2 d2)
    (h1 : ∀ g, (Value.slice b1 T1.length d1).ownBlock = some g → (Value.slice a1 n1 c1).ownBlock = some g ∨ (Value.slice a2 n2 c2).ownBlock = some g ∨ w.heap.size ≤ g) (h2 : ∀ g, (Value.slice b2 K1.length d2).ownBlock = some g → (Value.slice a1 n1 c1).ownBlock = some g ∨ (Value.slice a2 n2 c2).ownBlock = some g ∨ w.heap.size ≤ g) (g : Chg (fun k => k = r) w w1)
    (k : Stp w1 r most T2 K2 b1 T1.length d1 b2 K1.length d2 w2) : RfN w r most T K a1 n1 c1 a2 n2 c2 T2 K2 w2 := by
  obtain ⟨e1, f1, e2, f2, hR, k1, k2, k3⟩ := k
  have hs := g.size
  refine ⟨e1, f1, e2, f2, hR, fun q hq => ?_, fun q hq => ?_, g.trans k3 fun _ _ h => h⟩
  · rcases k1 q hq with h | h | h
    · exact h1 q h
    · exact h2 q h
    · exact .inr (.inr (by omega))
  · rcases k2 q hq with h | h | h
    · exact h1 q h
    · exact h2 q h
    · exact .inr (.inr (by omega))

set_option maxHeartbeats 1000000 in
theorem rtouch_no (w : World) (r : Nat) (x : Int) (ht : Calls Try.prog 64 #[.pointer (some ⟨r, 0, none⟩), .int .i64 x] w fun e w' => e = .returned (.tuple #[.agg #[.int .i64 0, .int .i64 0], .bool false]) ∧ Chg (fun _ => False) w w') :
    Calls Try.prog 40 #[.pointer (some ⟨r, 0, none⟩), .int .i64 x] w fun e w' => e = .returned (.bool false) ∧ Chg (fun _ => False) w w' := by
  have HT := Lib.hid ht
  clear ht
  go_enter Try.func40, Try.ntmps40
  go_wp2_with fail
  refine HT.out.mono ?_
  rintro e w1 ⟨rfl, g1⟩
  have G1 := Lib.hid g1
  clear g1
  go_wp2
  go_ret
  exact ⟨rfl, G1.out.trans (T := fun _ => False) (by repeat (first | with_reducible exact Chg.refl _ _ | with_reducible assumption | with_reducible refine Chg.drewN ?_ _ | with_reducible refine Chg.drew ?_ | with_reducible refine Chg.alloc ?_ _ | with_reducible refine Chg.setCell ?_ (by first | (left; rfl) | (left; left; rfl) | (left; right; rfl) | (left; right; left; rfl) | (left; right; right; rfl) | (right; exact Nat.le_refl _) | (right; simp; done) | (right; omega) | (right; simp at *; omega) | (simp at *; omega)) _ | with_reducible refine Chg.trans ?_ (by with_reducible assumption) (by intro i hi hT; first | exact hT | exact False.elim hT | omega | (simp at *; omega)))) fun _ _ h => h⟩

set_option maxHeartbeats 4000000 in
set_option maxRecDepth 100000 in
theorem rtouch_yes (w : World) (r : Nat) (most : Int) (T0 K0 T K : List Pt) (a1 : Option Addr) (n1 c1 : Nat) (a2 : Option Addr) (n2 c2 : Nat) (x n : Int) (h0 : 0 ≤ most) (hl : T.length + K.length + 1 ≤ 1000) (hb : ∀ t ∈ T ++ (K ++ [(x, n)]), 1 ≤ t.2 ∧ t.2 ≤ 1099511627776) (ht : Calls Try.prog 64 #[.pointer (some ⟨r, 0, none⟩), .int .i64 x] w (TakeY w r most T0 K0 a1 n1 c1 a2 n2 c2 T K x n)) :
    Calls Try.prog 40 #[.pointer (some ⟨r, 0, none⟩), .int .i64 x] w fun e w' => e = .returned (.bool true) ∧ RfN w r most T0 K0 a1 n1 c1 a2 n2 c2 (spill most T (K ++ [(x, n)])).1 (spill most T (K ++ [(x, n)])).2 w' := by
  obtain ⟨ie, hie, ez0, ez1, ez2⟩ := info_parts infoThing
  obtain ⟨F, hF⟩ : ∃ F, F = spill most T (K ++ [(x, n)]) := ⟨_, rfl⟩
  rw [← hF]
  have HF := Lib.hid hF
  have HB := Lib.hid hb
  have HT := Lib.hid ht
  clear ht hF hb
  go_enter Try.func40, Try.ntmps40
  go_wp2_with fail
  refine HT.out.mono ?_
  rintro e w1 ⟨rfl, b1, d1, b2, d2, hR, k1, k2, k3⟩
  have HR1 := Lib.hid hR
  have HK := Lib.hid (And.intro k1 (And.intro k2 k3))
  have lr1 : r < w1.heap.size := cell_lt hR.m0
  clear hR k1 k2 k3
  go_upto_region 4 with fail
  refine name_region ?_; intro W hW
  have gW : Chg (fun _ => False) w1 W := by subst hW; exact (by repeat (first | with_reducible exact Chg.refl _ _ | with_reducible assumption | with_reducible refine Chg.drewN ?_ _ | with_reducible refine Chg.drew ?_ | with_reducible refine Chg.alloc ?_ _ | with_reducible refine Chg.setCell ?_ (by first | (left; rfl) | (left; left; rfl) | (left; right; rfl) | (left; right; left; rfl) | (left; right; right; rfl) | (right; exact Nat.le_refl _) | (right; simp; done) | (right; omega) | (right; simp at *; omega) | (simp at *; omega)) _ | with_reducible refine Chg.trans ?_ (by with_reducible assumption) (by intro i hi hT; first | exact hT | exact False.elim hT | omega | (simp at *; omega))))
  have t0 : W.cell? ⟨w1.heap.size, 0, none⟩ = some (.int .i64 x) := by subst hW; go_simp
  have t1 : W.cell? ⟨w1.heap.size, 1, none⟩ = some (.int .i64 n) := by subst hW; go_simp
  clear hW
  have HR := Lib.hid (HR1.out.still gW)
  have m2 := HR.out.m2
  have mf := HR.out.fz
  have lr : r < W.heap.size := cell_lt m2
  have lt : w1.heap.size < W.heap.size := cell_lt t0
  have HG := Lib.hid gW
  clear gW
  go_cut [24] (fun _ wx => Hid (Stp W r most T (K ++ [(x, n)]) b1 T.length d1 b2 K.length d2 wx))
  case first =>
    go_region_law (first
        | (refine step_owned (by rfl) _ _ 77 (by rfl) W.heap.size 127 ie _ 2 16 Try.underlying77 hie ez0 ez1 ez2 rfl (by decide) (by rfl) (by rfl) ho1 hone1 (rd_cells (u := x) (v := n) (by first | assumption | go_simp) (by first | assumption | go_simp)) (by unfold maxLen; omega) (by omega) (by first | omega | (simp; omega)) ?_; intro X2 D2 V2 ho2 hg2 hone2; have j2 : Chg (fun _ => False) W V2 := Chg.grown (by first | exact j1 | exact Chg.alloc j1 _) hg2 (fun k hk => .inr (own_below ho1 hk).1); have u2 := (j2.cell lr id 2).trans m2; have uf : ∀ o, V2.frozen? ⟨r, o, none⟩ = false := fun o => (j2.frozen lr id o).trans (mf o); have w0 := (j2.cell lt id 0).trans t0)
        | (refine step_owned (by rfl) _ _ 77 (by rfl) W.heap.size 127 ie _ 2 16 Try.underlying77 hie ez0 ez1 ez2 rfl (by decide) (by rfl) (by rfl) (ho1.alloc _) hone1 (rd_cells (u := x) (v := n) (by first | assumption | go_simp) (by first | assumption | go_simp)) (by unfold maxLen; omega) (by omega) (by first | omega | (simp; omega)) ?_; intro X2 D2 V2 ho2 hg2 hone2; have j2 : Chg (fun _ => False) W V2 := Chg.grown (by first | exact j1 | exact Chg.alloc j1 _) hg2 (fun k hk => .inr (own_below ho1 hk).1); have u2 := (j2.cell lr id 2).trans m2; have uf : ∀ o, V2.frozen? ⟨r, o, none⟩ = false := fun o => (j2.frozen lr id o).trans (mf o); have w0 := (j2.cell lt id 0).trans t0)
        | (refine step_owned (by rfl) _ _ 77 (by rfl) W.heap.size 127 ie _ 2 16 Try.underlying77 hie ez0 ez1 ez2 rfl (by decide) (by rfl) (by rfl) (own_drew (row_empty (w := W.alloc (.cells #[.int .i64 x, .int .i64 n] 127)) (by simp) (by simp <;> omega) (by unfold maxLen; omega))) (by simp) (RdS.block HR.out.k (S := fun _ => False) (by repeat (first | with_reducible exact Chg.refl _ _ | with_reducible assumption | with_reducible refine Chg.drewN ?_ _ | with_reducible refine Chg.drew ?_ | with_reducible refine Chg.alloc ?_ _ | with_reducible refine Chg.setCell ?_ (by first | (left; rfl) | (left; left; rfl) | (left; right; rfl) | (left; right; left; rfl) | (left; right; right; rfl) | (right; exact Nat.le_refl _) | (right; simp; done) | (right; omega) | (right; simp at *; omega) | (simp at *; omega)) _ | with_reducible refine Chg.trans ?_ (by with_reducible assumption) (by intro i hi hT; first | exact hT | exact False.elim hT | omega | (simp at *; omega)))) (fun _ _ h => h)) (by unfold maxLen; omega) (by omega) (by simp <;> omega) ?_; intro X1 D1 V1 ho1 hg1 hone1; rw [Nat.zero_add, List.nil_append] at ho1; rw [List.nil_append] at hone1; have s1 := hg1.size; simp at s1; have j1 : Chg (fun _ => False) W V1 := Chg.grown (by repeat (first | with_reducible exact Chg.refl _ _ | with_reducible assumption | with_reducible refine Chg.drewN ?_ _ | with_reducible refine Chg.drew ?_ | with_reducible refine Chg.alloc ?_ _ | with_reducible refine Chg.setCell ?_ (by first | (left; rfl) | (left; left; rfl) | (left; right; rfl) | (left; right; left; rfl) | (left; right; right; rfl) | (right; exact Nat.le_refl _) | (right; simp; done) | (right; omega) | (right; simp at *; omega) | (simp at *; omega)) _ | with_reducible refine Chg.trans ?_ (by with_reducible assumption) (by intro i hi hT; first | exact hT | exact False.elim hT | omega | (simp at *; omega)))) hg1 (fun k hk => .inr (by simp [Value.ownBlock] at hk; omega)); have z0 := (j1.cell lt id 0).trans t0; have z1 := (j1.cell lt id 1).trans t1; have y0 : V1.cell? ⟨W.heap.size, 0, none⟩ = some (.int .i64 (x)) := Eq.trans (hg1.cell_far ⟨W.heap.size, 0, none⟩ (by simp <;> omega) (by simp [Value.ownBlock] <;> omega)) (by go_simp); have y1 : V1.cell? ⟨W.heap.size, 1, none⟩ = some (.int .i64 (n)) := Eq.trans (hg1.cell_far ⟨W.heap.size, 1, none⟩ (by simp <;> omega) (by simp [Value.ownBlock] <;> omega)) (by go_simp))
        | (refine step_owned (by rfl) _ _ 77 (by rfl) W.heap.size 127 ie _ 2 16 Try.underlying77 hie ez0 ez1 ez2 rfl (by decide) (by rfl) (by rfl) (own_drew (World.ownsRow.alloc (row_empty (w := W) (by simp) (by simp <;> omega) (by unfold maxLen; omega)) _)) (by simp) (RdS.block HR.out.k (S := fun _ => False) (by repeat (first | with_reducible exact Chg.refl _ _ | with_reducible assumption | with_reducible refine Chg.drewN ?_ _ | with_reducible refine Chg.drew ?_ | with_reducible refine Chg.alloc ?_ _ | with_reducible refine Chg.setCell ?_ (by first | (left; rfl) | (left; left; rfl) | (left; right; rfl) | (left; right; left; rfl) | (left; right; right; rfl) | (right; exact Nat.le_refl _) | (right; simp; done) | (right; omega) | (right; simp at *; omega) | (simp at *; omega)) _ | with_reducible refine Chg.trans ?_ (by with_reducible assumption) (by intro i hi hT; first | exact hT | exact False.elim hT | omega | (simp at *; omega)))) (fun _ _ h => h)) (by unfold maxLen; omega) (by omega) (by simp <;> omega) ?_; intro X1 D1 V1 ho1 hg1 hone1; rw [Nat.zero_add, List.nil_append] at ho1; rw [List.nil_append] at hone1; have s1 := hg1.size; simp at s1; have j1 : Chg (fun _ => False) W V1 := Chg.grown (by repeat (first | with_reducible exact Chg.refl _ _ | with_reducible assumption | with_reducible refine Chg.drewN ?_ _ | with_reducible refine Chg.drew ?_ | with_reducible refine Chg.alloc ?_ _ | with_reducible refine Chg.setCell ?_ (by first | (left; rfl) | (left; left; rfl) | (left; right; rfl) | (left; right; left; rfl) | (left; right; right; rfl) | (right; exact Nat.le_refl _) | (right; simp; done) | (right; omega) | (right; simp at *; omega) | (simp at *; omega)) _ | with_reducible refine Chg.trans ?_ (by with_reducible assumption) (by intro i hi hT; first | exact hT | exact False.elim hT | omega | (simp at *; omega)))) hg1 (fun k hk => .inr (by simp [Value.ownBlock] at hk; omega)); have z0 := (j1.cell lt id 0).trans t0; have z1 := (j1.cell lt id 1).trans t1; have y0 : V1.cell? ⟨W.heap.size + 1, 0, none⟩ = some (.int .i64 (x)) := Eq.trans (hg1.cell_far ⟨W.heap.size + 1, 0, none⟩ (by simp <;> omega) (by simp [Value.ownBlock] <;> omega)) (by go_simp); have y1 : V1.cell? ⟨W.heap.size + 1, 1, none⟩ = some (.int .i64 (n)) := Eq.trans (hg1.cell_far ⟨W.heap.size + 1, 1, none⟩ (by simp <;> omega) (by simp [Value.ownBlock] <;> omega)) (by go_simp))
        | (refine step_owned (by rfl) _ _ 77 (by rfl) W.heap.size 127 ie _ 2 16 Try.underlying77 hie ez0 ez1 ez2 rfl (by decide) (by rfl) (by rfl) (own_drew (row_empty (w := W) (by simp) (by simp <;> omega) (by unfold maxLen; omega))) (by simp) (RdS.block HR.out.k (S := fun _ => False) (by repeat (first | with_reducible exact Chg.refl _ _ | with_reducible assumption | with_reducible refine Chg.drewN ?_ _ | with_reducible refine Chg.drew ?_ | with_reducible refine Chg.alloc ?_ _ | with_reducible refine Chg.setCell ?_ (by first | (left; rfl) | (left; left; rfl) | (left; right; rfl) | (left; right; left; rfl) | (left; right; right; rfl) | (right; exact Nat.le_refl _) | (right; simp; done) | (right; omega) | (right; simp at *; omega) | (simp at *; omega)) _ | with_reducible refine Chg.trans ?_ (by with_reducible assumption) (by intro i hi hT; first | exact hT | exact False.elim hT | omega | (simp at *; omega)))) (fun _ _ h => h)) (by unfold maxLen; omega) (by omega) (by simp <;> omega) ?_; intro X1 D1 V1 ho1 hg1 hone1; rw [Nat.zero_add, List.nil_append] at ho1; rw [List.nil_append] at hone1; have s1 := hg1.size; simp at s1; have j1 : Chg (fun _ => False) W V1 := Chg.grown (by repeat (first | with_reducible exact Chg.refl _ _ | with_reducible assumption | with_reducible refine Chg.drewN ?_ _ | with_reducible refine Chg.drew ?_ | with_reducible refine Chg.alloc ?_ _ | with_reducible refine Chg.setCell ?_ (by first | (left; rfl) | (left; left; rfl) | (left; right; rfl) | (left; right; left; rfl) | (left; right; right; rfl) | (right; exact Nat.le_refl _) | (right; simp; done) | (right; omega) | (right; simp at *; omega) | (simp at *; omega)) _ | with_reducible refine Chg.trans ?_ (by with_reducible assumption) (by intro i hi hT; first | exact hT | exact False.elim hT | omega | (simp at *; omega)))) hg1 (fun k hk => .inr (by simp [Value.ownBlock] at hk; omega)); have z0 := (j1.cell lt id 0).trans t0; have z1 := (j1.cell lt id 1).trans t1))
    all_goals go_wp2
    all_goals go_meet
    all_goals
      have e : flat K ++ flat [(x, n)] = flat (K ++ [(x, n)]) := by rw [flat_append]
      have el : K.length + 1 = (K ++ [(x, n)]).length := by simp
      rw [e, el] at ho2
      have hR2 := (HR.out.still j2).put2 ho2 lr
      have hfin : Stp W r most T (K ++ [(x, n)]) b1 T.length d1 b2 K.length d2 (V2.setCell ⟨r, 2, none⟩ (.slice X2 (K ++ [(x, n)]).length D2)) := ⟨b1, d1, X2, D2, hR2, fun q hq => .inl hq, fun q hq => .inr (.inr (own_below ho2 hq).1), (j2.mono (T := fun k => k = r) fun _ _ h => h.elim).setCell (p := ⟨r, 2, none⟩) (.inl rfl) _⟩
      rw [← el] at hfin
      exact hfin
  case rest =>
    have HM : Hid (MidR w r most T0 K0 a1 n1 c1 a2 n2 c2 (T.length + K.length + 1) F wc) := by
      refine ⟨T, K ++ [(x, n)], RfN.step HR1.out HK.out.1 HK.out.2.1 HK.out.2.2 ?_, HF.out.symm, by simp; omega, HB.out⟩
      obtain ⟨e1, f1, e2, f2, hR3, q1, q2, q3⟩ := hcut.out
      have hs := HG.out.size
      exact ⟨e1, f1, e2, f2, hR3, fun g hg => by
        rcases q1 g hg with h | h | h
        · exact .inl h
        · exact .inr (.inl h)
        · exact .inr (.inr (by omega)), fun g hg => by
        rcases q2 g hg with h | h | h
        · exact .inl h
        · exact .inr (.inl h)
        · exact .inr (.inr (by omega)), (HG.out.mono (T := fun k => k = r) fun _ _ h => h.elim).trans q3 fun _ _ h => h⟩
    clear hcut m2 mf t0 t1 lr lt lr1
    go_wp2_with fail
    go_loopw [27] (fun _ wr => Hid (MidR w r most T0 K0 a1 n1 c1 a2 n2 c2 (T.length + K.length + 1) F wr)) (fun _ wr => lenC wr r)
    case atStart => exact HM
    case round =>
      obtain ⟨T1, K1, ⟨e1, f1, e2, f2, hR, k1, k2, k3⟩, hS, hl1, hb1⟩ := hrel.out
      have HR := Lib.hid hR
      have m0 := hR.m0
      have m1 := hR.m1
      have m2 := hR.m2
      have mf := hR.fz
      have lr : r < wr.heap.size := cell_lt m2
      have HK1 := Lib.hid (And.intro k1 (And.intro k2 k3))
      have HB1 := Lib.hid hb1
      have HS := Lib.hid hS
      have s1 := sum_nonneg (l := K1) fun t ht => (hb1 t (by simp [ht])).1
      obtain ⟨q, hq⟩ : ∃ q, q = sumP K1 := ⟨_, rfl⟩
      rw [← hq] at s1
      have HC : Hid (∀ m, Calls Try.prog 65 #[.slice e2 K1.length f2] (wr.drewN m) fun e w' => e = .returned (.int .i64 q) ∧ wr.drewN m = w') := fun m => by rw [hq]; exact sum_any _ e2 f2 K1 (HR.out.still (by repeat (first | with_reducible exact Chg.refl _ _ | with_reducible assumption | with_reducible refine Chg.drewN ?_ _ | with_reducible refine Chg.drew ?_ | with_reducible refine Chg.alloc ?_ _ | with_reducible refine Chg.setCell ?_ (by first | (left; rfl) | (left; left; rfl) | (left; right; rfl) | (left; right; left; rfl) | (left; right; right; rfl) | (right; exact Nat.le_refl _) | (right; simp; done) | (right; omega) | (right; simp at *; omega) | (simp at *; omega)) _ | with_reducible refine Chg.trans ?_ (by with_reducible assumption) (by intro i hi hT; first | exact hT | exact False.elim hT | omega | (simp at *; omega))))).k (by omega) fun t ht => HB1.out t (by simp [ht])
      have HQ := Lib.hid hq
      by_cases hlt : most < q
      · obtain ⟨⟨y, p⟩, K2, rfl⟩ : ∃ t K2, K1 = t :: K2 := by
          cases K1 with
          | nil => simp [sumP] at hq; omega
          | cons t K2 => exact ⟨t, K2, rfl⟩
        obtain ⟨g, o, hg, u0, u1⟩ := HR.out.k.at (j := 0) (t := (y, p)) rfl
        obtain rfl := hg
        simp only [Nat.zero_mul, Nat.add_zero] at u0 u1
        have lg : g < wr.heap.size := cell_lt u0
        have HL1 := Lib.hid hl1
        obtain ⟨L, hL⟩ : ∃ L, L = ((y, p) :: K2).length := ⟨_, rfl⟩
        have hL1 : 0 < L := by rw [hL]; simp
        have hL2 : L ≤ 1000 := by omega
        have hT1 : T1.length ≤ 999 := by rw [← hL] at hl1; omega
        rw [← hL] at m2
        have HL := Lib.hid hL
        rw [← hL] at HC
        clear hR k1 k2 k3 hS hb1 hq hrel hL hl1
        go_wp2_with fail
        go_quiet ((first | (go_at_call 65; first | with_reducible exact quiet_add (HC.out _) | with_reducible exact quiet_same (HC.out _))))
        go_upto_region 6 with fail
        refine name_region ?_; intro W2 hW2
        have gW2 : Chg (fun _ => False) wr W2 := by subst hW2; exact (by repeat (first | with_reducible exact Chg.refl _ _ | with_reducible assumption | with_reducible refine Chg.drewN ?_ _ | with_reducible refine Chg.drew ?_ | with_reducible refine Chg.alloc ?_ _ | with_reducible refine Chg.setCell ?_ (by first | (left; rfl) | (left; left; rfl) | (left; right; rfl) | (left; right; left; rfl) | (left; right; right; rfl) | (right; exact Nat.le_refl _) | (right; simp; done) | (right; omega) | (right; simp at *; omega) | (simp at *; omega)) _ | with_reducible refine Chg.trans ?_ (by with_reducible assumption) (by intro i hi hT; first | exact hT | exact False.elim hT | omega | (simp at *; omega))))
        have HR2 := Lib.hid (HR.out.still gW2)
        have i1 : W2.cell? ⟨r, 1, none⟩ = some (.slice e1 T1.length f1) := by subst hW2; go_simp
        have i2 : W2.cell? ⟨r, 2, none⟩ = some (.slice (some ⟨g, o, none⟩) L f2) := by subst hW2; go_simp
        have j0 : W2.cell? ⟨g, o, none⟩ = some (.int .i64 y) := by subst hW2; go_simp
        have j1' : W2.cell? ⟨g, o + 1, none⟩ = some (.int .i64 p) := by subst hW2; go_simp
        have lr3 : r < W2.heap.size := cell_lt i1
        have lg3 : g < W2.heap.size := cell_lt j0
        have mf3 := HR2.out.fz
        have HG2 := Lib.hid gW2
        clear hW2 gW2 u0 u1 m0 m1 m2 mf lr lg
        go_cut [51] (fun _ wx => Hid (Stp W2 r most (T1 ++ [(y, p)]) ((y, p) :: K2) e1 T1.length f1 (some ⟨g, o, none⟩) L f2 wx))
        case first =>
          go_region_law (first
        | (refine step_owned (by rfl) _ _ 77 (by rfl) W2.heap.size 127 ie _ 2 16 Try.underlying77 hie ez0 ez1 ez2 rfl (by decide) (by rfl) (by rfl) ho1 hone1 (rd_cells (u := y) (v := p) (by first | assumption | go_simp) (by first | assumption | go_simp)) (by unfold maxLen; omega) (by omega) (by first | omega | (simp; omega)) ?_; intro X2 D2 V2 ho2 hg2 hone2; have j2 : Chg (fun _ => False) W2 V2 := Chg.grown (by first | exact j1 | exact Chg.alloc j1 _) hg2 (fun k hk => .inr (own_below ho1 hk).1); have u2 := (j2.cell lr3 id 1).trans i1; have uf : ∀ o, V2.frozen? ⟨r, o, none⟩ = false := fun o => (j2.frozen lr3 id o).trans (mf3 o))
        | (refine step_owned (by rfl) _ _ 77 (by rfl) W2.heap.size 127 ie _ 2 16 Try.underlying77 hie ez0 ez1 ez2 rfl (by decide) (by rfl) (by rfl) (ho1.alloc _) hone1 (rd_cells (u := y) (v := p) (by first | assumption | go_simp) (by first | assumption | go_simp)) (by unfold maxLen; omega) (by omega) (by first | omega | (simp; omega)) ?_; intro X2 D2 V2 ho2 hg2 hone2; have j2 : Chg (fun _ => False) W2 V2 := Chg.grown (by first | exact j1 | exact Chg.alloc j1 _) hg2 (fun k hk => .inr (own_below ho1 hk).1); have u2 := (j2.cell lr3 id 1).trans i1; have uf : ∀ o, V2.frozen? ⟨r, o, none⟩ = false := fun o => (j2.frozen lr3 id o).trans (mf3 o))
        | (refine step_owned (by rfl) _ _ 77 (by rfl) W2.heap.size 127 ie _ 2 16 Try.underlying77 hie ez0 ez1 ez2 rfl (by decide) (by rfl) (by rfl) (own_drew (row_empty (w := W2.alloc (.cells #[.int .i64 y, .int .i64 p] 127)) (by simp) (by simp <;> omega) (by unfold maxLen; omega))) (by simp) (RdS.block HR2.out.t (S := fun _ => False) (by repeat (first | with_reducible exact Chg.refl _ _ | with_reducible assumption | with_reducible refine Chg.drewN ?_ _ | with_reducible refine Chg.drew ?_ | with_reducible refine Chg.alloc ?_ _ | with_reducible refine Chg.setCell ?_ (by first | (left; rfl) | (left; left; rfl) | (left; right; rfl) | (left; right; left; rfl) | (left; right; right; rfl) | (right; exact Nat.le_refl _) | (right; simp; done) | (right; omega) | (right; simp at *; omega) | (simp at *; omega)) _ | with_reducible refine Chg.trans ?_ (by with_reducible assumption) (by intro i hi hT; first | exact hT | exact False.elim hT | omega | (simp at *; omega)))) (fun _ _ h => h)) (by unfold maxLen; omega) (by omega) (by simp <;> omega) ?_; intro X1 D1 V1 ho1 hg1 hone1; rw [Nat.zero_add, List.nil_append] at ho1; rw [List.nil_append] at hone1; have s1 := hg1.size; simp at s1; have j1 : Chg (fun _ => False) W2 V1 := Chg.grown (by repeat (first | with_reducible exact Chg.refl _ _ | with_reducible assumption | with_reducible refine Chg.drewN ?_ _ | with_reducible refine Chg.drew ?_ | with_reducible refine Chg.alloc ?_ _ | with_reducible refine Chg.setCell ?_ (by first | (left; rfl) | (left; left; rfl) | (left; right; rfl) | (left; right; left; rfl) | (left; right; right; rfl) | (right; exact Nat.le_refl _) | (right; simp; done) | (right; omega) | (right; simp at *; omega) | (simp at *; omega)) _ | with_reducible refine Chg.trans ?_ (by with_reducible assumption) (by intro i hi hT; first | exact hT | exact False.elim hT | omega | (simp at *; omega)))) hg1 (fun k hk => .inr (by simp [Value.ownBlock] at hk; omega)); have z0 := (j1.cell lg3 id o).trans j0; have z1 := (j1.cell lg3 id (o + 1)).trans j1'; have z2 := (j1.cell lr3 id 2).trans i2; have y0 : V1.cell? ⟨W2.heap.size, 0, none⟩ = some (.int .i64 (y)) := Eq.trans (hg1.cell_far ⟨W2.heap.size, 0, none⟩ (by simp <;> omega) (by simp [Value.ownBlock] <;> omega)) (by go_simp); have y1 : V1.cell? ⟨W2.heap.size, 1, none⟩ = some (.int .i64 (p)) := Eq.trans (hg1.cell_far ⟨W2.heap.size, 1, none⟩ (by simp <;> omega) (by simp [Value.ownBlock] <;> omega)) (by go_simp))
        | (refine step_owned (by rfl) _ _ 77 (by rfl) W2.heap.size 127 ie _ 2 16 Try.underlying77 hie ez0 ez1 ez2 rfl (by decide) (by rfl) (by rfl) (own_drew (World.ownsRow.alloc (row_empty (w := W2) (by simp) (by simp <;> omega) (by unfold maxLen; omega)) _)) (by simp) (RdS.block HR2.out.t (S := fun _ => False) (by repeat (first | with_reducible exact Chg.refl _ _ | with_reducible assumption | with_reducible refine Chg.drewN ?_ _ | with_reducible refine Chg.drew ?_ | with_reducible refine Chg.alloc ?_ _ | with_reducible refine Chg.setCell ?_ (by first | (left; rfl) | (left; left; rfl) | (left; right; rfl) | (left; right; left; rfl) | (left; right; right; rfl) | (right; exact Nat.le_refl _) | (right; simp; done) | (right; omega) | (right; simp at *; omega) | (simp at *; omega)) _ | with_reducible refine Chg.trans ?_ (by with_reducible assumption) (by intro i hi hT; first | exact hT | exact False.elim hT | omega | (simp at *; omega)))) (fun _ _ h => h)) (by unfold maxLen; omega) (by omega) (by simp <;> omega) ?_; intro X1 D1 V1 ho1 hg1 hone1; rw [Nat.zero_add, List.nil_append] at ho1; rw [List.nil_append] at hone1; have s1 := hg1.size; simp at s1; have j1 : Chg (fun _ => False) W2 V1 := Chg.grown (by repeat (first | with_reducible exact Chg.refl _ _ | with_reducible assumption | with_reducible refine Chg.drewN ?_ _ | with_reducible refine Chg.drew ?_ | with_reducible refine Chg.alloc ?_ _ | with_reducible refine Chg.setCell ?_ (by first | (left; rfl) | (left; left; rfl) | (left; right; rfl) | (left; right; left; rfl) | (left; right; right; rfl) | (right; exact Nat.le_refl _) | (right; simp; done) | (right; omega) | (right; simp at *; omega) | (simp at *; omega)) _ | with_reducible refine Chg.trans ?_ (by with_reducible assumption) (by intro i hi hT; first | exact hT | exact False.elim hT | omega | (simp at *; omega)))) hg1 (fun k hk => .inr (by simp [Value.ownBlock] at hk; omega)); have z0 := (j1.cell lg3 id o).trans j0; have z1 := (j1.cell lg3 id (o + 1)).trans j1'; have z2 := (j1.cell lr3 id 2).trans i2; have y0 : V1.cell? ⟨W2.heap.size + 1, 0, none⟩ = some (.int .i64 (y)) := Eq.trans (hg1.cell_far ⟨W2.heap.size + 1, 0, none⟩ (by simp <;> omega) (by simp [Value.ownBlock] <;> omega)) (by go_simp); have y1 : V1.cell? ⟨W2.heap.size + 1, 1, none⟩ = some (.int .i64 (p)) := Eq.trans (hg1.cell_far ⟨W2.heap.size + 1, 1, none⟩ (by simp <;> omega) (by simp [Value.ownBlock] <;> omega)) (by go_simp))
        | (refine step_owned (by rfl) _ _ 77 (by rfl) W2.heap.size 127 ie _ 2 16 Try.underlying77 hie ez0 ez1 ez2 rfl (by decide) (by rfl) (by rfl) (own_drew (row_empty (w := W2) (by simp) (by simp <;> omega) (by unfold maxLen; omega))) (by simp) (RdS.block HR2.out.t (S := fun _ => False) (by repeat (first | with_reducible exact Chg.refl _ _ | with_reducible assumption | with_reducible refine Chg.drewN ?_ _ | with_reducible refine Chg.drew ?_ | with_reducible refine Chg.alloc ?_ _ | with_reducible refine Chg.setCell ?_ (by first | (left; rfl) | (left; left; rfl) | (left; right; rfl) | (left; right; left; rfl) | (left; right; right; rfl) | (right; exact Nat.le_refl _) | (right; simp; done) | (right; omega) | (right; simp at *; omega) | (simp at *; omega)) _ | with_reducible refine Chg.trans ?_ (by with_reducible assumption) (by intro i hi hT; first | exact hT | exact False.elim hT | omega | (simp at *; omega)))) (fun _ _ h => h)) (by unfold maxLen; omega) (by omega) (by simp <;> omega) ?_; intro X1 D1 V1 ho1 hg1 hone1; rw [Nat.zero_add, List.nil_append] at ho1; rw [List.nil_append] at hone1; have s1 := hg1.size; simp at s1; have j1 : Chg (fun _ => False) W2 V1 := Chg.grown (by repeat (first | with_reducible exact Chg.refl _ _ | with_reducible assumption | with_reducible refine Chg.drewN ?_ _ | with_reducible refine Chg.drew ?_ | with_reducible refine Chg.alloc ?_ _ | with_reducible refine Chg.setCell ?_ (by first | (left; rfl) | (left; left; rfl) | (left; right; rfl) | (left; right; left; rfl) | (left; right; right; rfl) | (right; exact Nat.le_refl _) | (right; simp; done) | (right; omega) | (right; simp at *; omega) | (simp at *; omega)) _ | with_reducible refine Chg.trans ?_ (by with_reducible assumption) (by intro i hi hT; first | exact hT | exact False.elim hT | omega | (simp at *; omega)))) hg1 (fun k hk => .inr (by simp [Value.ownBlock] at hk; omega)); have z0 := (j1.cell lg3 id o).trans j0; have z1 := (j1.cell lg3 id (o + 1)).trans j1'; have z2 := (j1.cell lr3 id 2).trans i2))
          all_goals go_wp2
          all_goals go_meet
          all_goals
            have e : flat T1 ++ flat [(y, p)] = flat (T1 ++ [(y, p)]) := by rw [flat_append]
            have el : T1.length + 1 = (T1 ++ [(y, p)]).length := by simp
            rw [e, el] at ho2
            have hR2 := (HR2.out.still j2).put1 ho2 lr3
            have hfin : Stp W2 r most (T1 ++ [(y, p)]) ((y, p) :: K2) e1 T1.length f1 (some ⟨g, o, none⟩) L f2 (V2.setCell ⟨r, 1, none⟩ (.slice X2 (T1 ++ [(y, p)]).length D2)) := ⟨X2, D2, some ⟨g, o, none⟩, f2, hR2, fun q hq => .inr (.inr (own_below ho2 hq).1), fun q hq => .inr (.inl hq), (j2.mono (T := fun k => k = r) fun _ _ h => h.elim).setCell (p := ⟨r, 1, none⟩) (.inl rfl) _⟩
            rw [← el] at hfin
            exact hfin
        case rest =>
          obtain ⟨e3, f3, e4, f4, hR3, q1, q2, q3⟩ := hcut.out
          have HR3 := Lib.hid hR3
          have HQ3 := Lib.hid (And.intro q1 (And.intro q2 q3))
          have m2 := hR3.m2
          rw [← HL.out] at m2
          have mf := hR3.fz
          clear hcut hR3 q1 q2 q3 i1 i2 j0 j1' mf3 lr3 lg3
          go_wp2_with fail
          rw [HL.out]
          refine (without_head _ e4 f4 K2 (y, p) HR3.out.k (by rw [← HL.out]; omega)).mono ?_
          rintro e w6 ⟨⟨a', c', rfl, ho⟩, g6⟩
          have HO := Lib.hid ho
          have HG6 := Lib.hid g6
          have H6 := Lib.hid (HR3.out.still g6)
          have z2 := H6.out.m2
          have zf := H6.out.fz
          have lr6 : r < w6.heap.size := cell_lt z2
          have lr5 : r < wc.heap.size := cell_lt m2
          clear ho g6 m2 mf
          go_wp2
          go_roundw
          case rel =>
            have hput := H6.out.put2 HO.out lr5
            have hS2 := HS.out
            rw [spill, if_pos (by rw [← HQ.out]; exact hlt)] at hS2
            refine ⟨T1 ++ [(y, p)], K2, RfN.step HR.out HK1.out.1 HK1.out.2.1 HK1.out.2.2 ?_, hS2, by have := HL1.out; simp at this ⊢; omega, fun t ht => HB1.out t (by simp at ht ⊢; rcases ht with h | h | h <;> simp [h])⟩
            have hs2 := HG2.out.size
            have hs3 := HQ3.out.2.2.size
            rw [← HL.out]
            refine ⟨e3, f3, a', c', hput, fun q hq => ?_, fun q hq => .inr (.inr (by have := (own_below HO.out hq).1; omega)), ?_⟩
            · rcases HQ3.out.1 q hq with h | h | h
              · exact .inl h
              · exact .inr (.inl h)
              · exact .inr (.inr (by omega))
            · exact (((HG2.out.mono (T := fun k => k = r) fun _ _ h => h.elim).trans HQ3.out.2.2 fun _ _ h => h).trans HG6.out fun _ _ h => h.elim).setCell (p := ⟨r, 2, none⟩) (.inl rfl) _
          case measure =>
            rw [lenC_of (H6.out.put2 HO.out lr5), lenC_of HR.out]
            simp
      · have q1 : decide (most < q) = false := by simpa using hlt
        have HST : Hid (spill most T1 K1 = (T1, K1)) := spill_stop (by rw [← hq]; exact hlt)
        clear hR k1 k2 k3 hS hb1 hq hrel
        go_wp2_with fail
        go_quiet ((first | (go_at_call 65; first | with_reducible exact quiet_add (HC.out _) | with_reducible exact quiet_same (HC.out _))))
        go_wp2
        go_ret
        refine ⟨rfl, ?_⟩
        rw [← HS.out, HST.out]
        exact RfN.still ⟨e1, f1, e2, f2, HR.out, HK1.out.1, HK1.out.2.1, HK1.out.2.2⟩ (by repeat (first | with_reducible exact Chg.refl _ _ | with_reducible assumption | with_reducible refine Chg.drewN ?_ _ | with_reducible refine Chg.drew ?_ | with_reducible refine Chg.alloc ?_ _ | with_reducible refine Chg.setCell ?_ (by first | (left; rfl) | (left; left; rfl) | (left; right; rfl) | (left; right; left; rfl) | (left; right; right; rfl) | (right; exact Nat.le_refl _) | (right; simp; done) | (right; omega) | (right; simp at *; omega) | (simp at *; omega)) _ | with_reducible refine Chg.trans ?_ (by with_reducible assumption) (by intro i hi hT; first | exact hT | exact False.elim hT | omega | (simp at *; omega))))
end Go.Proofs.Ytdoepjokaekckaa
