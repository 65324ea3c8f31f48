/- The reference's list: its struct; take. (Printed by gentake.py.) -/
import Derived.Test.YtdoepjokaekckaaLr
namespace Go.Proofs.Ytdoepjokaekckaa
set_option linter.unusedVariables false
open Go.RowKit

/-- The reference's struct at block r, its two slices. -/
structure RfR (w : World) (r : Nat) (most : Int) (T K : List Pt) (a1 : Option Addr) (c1 : Nat) (a2 : Option Addr) (c2 : Nat) : Prop where
  m0 : w.cell? ⟨r, 0, none⟩ = some (.int .i64 most)
  m1 : w.cell? ⟨r, 1, none⟩ = some (.slice a1 T.length c1)
  m2 : w.cell? ⟨r, 2, none⟩ = some (.slice a2 K.length c2)
  fz : ∀ o, w.frozen? ⟨r, o, none⟩ = false
  t : IsP w a1 c1 T
  k : IsP w a2 c2 K
  n1 : ∀ g, (Value.slice a1 T.length c1).ownBlock = some g → g ≠ r ∧ g < w.heap.size
  n2 : ∀ g, (Value.slice a2 K.length c2).ownBlock = some g → g ≠ r ∧ g < w.heap.size
section
variable {w w' : World} {r : Nat} {most : Int} {T K : List Pt} {a1 a2 : Option Addr} {c1 c2 : Nat} {S : Nat → Prop}
theorem RfR.chg (h : RfR w r most T K a1 c1 a2 c2) (k : Chg S w w') (hr : ¬ S r) (h1 : ∀ g, (Value.slice a1 T.length c1).ownBlock = some g → ¬ S g) (h2 : ∀ g, (Value.slice a2 K.length c2).ownBlock = some g → ¬ S g) : RfR w' r most T K a1 c1 a2 c2 := by
  have lr := cell_lt h.m0
  exact ⟨(k.cell lr hr _).trans h.m0, (k.cell lr hr _).trans h.m1, (k.cell lr hr _).trans h.m2, fun o => (k.frozen lr hr o).trans (h.fz o), h.t.keep k h1, h.k.keep k h2, fun g hg => ⟨(h.n1 g hg).1, Nat.lt_of_lt_of_le (h.n1 g hg).2 k.size⟩, fun g hg => ⟨(h.n2 g hg).1, Nat.lt_of_lt_of_le (h.n2 g hg).2 k.size⟩⟩
theorem RfR.still (h : RfR w r most T K a1 c1 a2 c2) (k : Chg (fun _ => False) w w') : RfR w' r most T K a1 c1 a2 c2 := h.chg k id (fun _ _ => id) (fun _ _ => id)
/-- A new slice is laid into the struct. -/
theorem RfR.put1 (h : RfR w r most T K a1 c1 a2 c2) {T' : List Pt} {a : Option Addr} {c B : Nat} (ho : w.ownsRow B 127 2 (.slice a T'.length c) T'.length (flat T')) (hB : r < B) : RfR (w.setCell ⟨r, 1, none⟩ (.slice a T'.length c)) r most T' K a c a2 c2 := by
  have k : Chg (fun i => i = r) w (w.setCell ⟨r, 1, none⟩ (.slice a T'.length c)) := Chg.setCell (S := fun i => i = r) (Chg.refl _ _) (p := ⟨r, 1, none⟩) (.inl rfl) _
  have hb := fun g hg => own_below (c := g) ho hg
  refine ⟨by rw [cell_other (by simp)]; exact h.m0, cell_same h.m1, by rw [cell_other (by simp)]; exact h.m2, fun o => by rw [World.frozen?_setCell]; exact h.fz o, IsP.keep (RdS.row ho (flat_one _)) k fun g hg e => by have := hb g hg; omega, h.k.keep k fun g hg => (h.n2 g hg).1, fun g hg => ⟨by have := hb g hg; omega, by simp [World.setCell]; exact (hb g hg).2⟩, fun g hg => ⟨(h.n2 g hg).1, by simp [World.setCell]; exact (h.n2 g hg).2⟩⟩
theorem RfR.put2 (h : RfR w r most T K a1 c1 a2 c2) {K' : List Pt} {a : Option Addr} {c B : Nat} (ho : w.ownsRow B 127 2 (.slice a K'.length c) K'.length (flat K')) (hB : r < B) : RfR (w.setCell ⟨r, 2, none⟩ (.slice a K'.length c)) r most T K' a1 c1 a c := by
  have k : Chg (fun i => i = r) w (w.setCell ⟨r, 2, none⟩ (.slice a K'.length c)) := Chg.setCell (S := fun i => i = r) (Chg.refl _ _) (p := ⟨r, 2, none⟩) (.inl rfl) _
  have hb := fun g hg => own_below (c := g) ho hg
  refine ⟨by rw [cell_other (by simp)]; exact h.m0, by rw [cell_other (by simp)]; exact h.m1, cell_same h.m2, fun o => by rw [World.frozen?_setCell]; exact h.fz o, h.t.keep k fun g hg => (h.n1 g hg).1, IsP.keep (RdS.row ho (flat_one _)) k fun g hg e => by have := hb g hg; omega, fun g hg => ⟨(h.n1 g hg).1, by simp [World.setCell]; exact (h.n1 g hg).2⟩, fun g hg => ⟨by have := hb g hg; omega, by simp [World.setCell]; exact (hb g hg).2⟩⟩
end
/-- One slice may be new. -/
def New (w : World) (a : Option Addr) (n c : Nat) : Prop := ∀ g, (Value.slice a n c).ownBlock = some g → w.heap.size ≤ g
/-- The reference after a call that may have laid new slices. -/
def RfN (w : World) (r : Nat) (most : Int) (T K : List Pt) (a1 : Option Addr) (n1 c1 : Nat) (a2 : Option Addr) (n2 c2 : Nat) (T' K' : List Pt) (w' : World) : Prop := ∃ a1' c1' a2' c2', RfR w' r most T' K' a1' c1' a2' c2' ∧
  (∀ g, (Value.slice a1' T'.length c1').ownBlock = some g → (Value.slice a1 n1 c1).ownBlock = some g ∨ (Value.slice a2 n2 c2).ownBlock = some g ∨ w.heap.size ≤ g) ∧
  (∀ g, (Value.slice a2' K'.length c2').ownBlock = some g → (Value.slice a1 n1 c1).ownBlock = some g ∨ (Value.slice a2 n2 c2).ownBlock = some g ∨ w.heap.size ≤ g) ∧ Chg (fun k => k = r) w w'
def TakeY (w : World) (r : Nat) (most : Int) (T K : List Pt) (a1 : Option Addr) (n1 c1 : Nat) (a2 : Option Addr) (n2 c2 : Nat) (T' K' : List Pt) (x n : Int) (e : Ending) (w' : World) : Prop := e = .returned (.tuple #[.agg #[.int .i64 x, .int .i64 n], .bool true]) ∧ RfN w r most T K a1 n1 c1 a2 n2 c2 T' K' w'

set_option maxHeartbeats 1000000 in
theorem take_no (w : World) (r : Nat) (most : Int) (T K : List Pt) (a1 : Option Addr) (c1 : Nat) (a2 : Option Addr) (c2 : Nat) (x : Int) (h : RfR w r most T K a1 c1 a2 c2) (hT : hasK T x = false) (hK : hasK K x = false) (hl : T.length + K.length ≤ 1000) :
    Calls Try.prog 64 #[.pointer (some ⟨r, 0, none⟩), .int .i64 x] w fun e w' => e = .returned (.tuple #[.agg #[.int .i64 0, .int .i64 0], .bool false]) ∧ Chg (fun _ => False) w w' := by
  have m1 := h.m1
  have m2 := h.m2
  have lr : r < w.heap.size := cell_lt m1
  have H := Lib.hid h
  have f1 : Hid (findI T x = -1) := findI_no hT
  have f2 : Hid (findI K x = -1) := findI_no hK
  clear h hT hK
  go_enter Try.func64, Try.ntmps64
  go_wp2_with fail
  refine name_calls ?_; intro W hW
  have gW : Chg (fun _ => False) w W := by subst hW; exact (by repeat (first | with_reducible exact Chg.refl _ _ | with_reducible assumption | with_reducible refine Chg.drewN ?_ _ | with_reducible refine Chg.drew ?_ | with_reducible refine Chg.alloc ?_ _ | with_reducible refine Chg.setCell ?_ (by first | (left; rfl) | (left; left; rfl) | (left; right; rfl) | (left; right; left; rfl) | (left; right; right; rfl) | (right; exact Nat.le_refl _) | (right; simp; done) | (right; omega) | (right; simp at *; omega) | (simp at *; omega)) _ | with_reducible refine Chg.trans ?_ (by with_reducible assumption) (by intro i hi hT; first | exact hT | exact False.elim hT | omega | (simp at *; omega))))
  have j1 : W.cell? ⟨r, 1, none⟩ = some (.slice a1 T.length c1) := by subst hW; go_simp
  have j2 : W.cell? ⟨r, 2, none⟩ = some (.slice a2 K.length c2) := by subst hW; go_simp
  have q0 : W.cell? ⟨w.heap.size, 0, none⟩ = some (.int .i64 0) := by subst hW; go_simp
  have q1 : W.cell? ⟨w.heap.size, 1, none⟩ = some (.int .i64 0) := by subst hW; go_simp
  have qf : ∀ o, W.frozen? ⟨w.heap.size, o, none⟩ = false := by subst hW; intro o; go_simp
  have zW : w.heap.size < W.heap.size := by subst hW; simp
  clear hW m1 m2
  have HG := Lib.hid gW
  have HW := Lib.hid (H.out.still gW)
  clear gW
  refine (find_any W a1 c1 T x HW.out.t (by omega)).mono ?_
  rintro e w' ⟨rfl, rfl⟩
  rw [f1.out]
  go_wp2_with fail
  refine (find_any W a2 c2 K x HW.out.k (by omega)).mono ?_
  rintro e w' ⟨rfl, rfl⟩
  rw [f2.out]
  go_wp2
  generalize hV : World.setCell (World.setCell _ _ _) _ _ = V
  have r0 : V.cell? ⟨w.heap.size, 0, none⟩ = some (.int .i64 0) := by subst hV; go_simp
  have r1 : V.cell? ⟨w.heap.size, 1, none⟩ = some (.int .i64 0) := by subst hV; go_simp
  have gV : Chg (fun _ => False) w V := by
    subst hV
    exact HG.out.trans (T := fun k => k = w.heap.size) ((Chg.setCell (S := fun k => k = w.heap.size) (Chg.refl _ _) (p := ⟨w.heap.size, 0, none⟩) (.inl rfl) _).setCell (p := ⟨w.heap.size, 1, none⟩) (.inl rfl) _) (fun i hi h => by omega)
  exact bodyPost_ret (v := .tuple #[.agg #[.int .i64 0, .int .i64 0], .bool false]) (by simp [results, Try.results64, go_sem, r0, r1]) rfl ⟨rfl, gV⟩

theorem without_of (w : World) (a : Option Addr) (c : Nat) (T T' A B : List Pt) (t : Pt) (hT : T = A ++ t :: B) (hT' : T' = A ++ B) (h : IsP w a c T) (hl : T.length ≤ 1000) :
    Calls Try.prog 66 #[.slice a T.length c, .int .i64 (A.length : Int)] w fun e w' => (∃ a' c', e = .returned (.slice a' T'.length c') ∧ w'.ownsRow w.heap.size 127 2 (.slice a' T'.length c') T'.length (flat T')) ∧ Chg (fun _ => False) w w' := by
  subst hT hT'
  exact without_any w a c A B t h (by simp at hl; omega)

set_option maxHeartbeats 2000000 in
theorem take_trial (w : World) (r : Nat) (most : Int) (T K X' A B : List Pt) (a1 : Option Addr) (c1 : Nat) (a2 : Option Addr) (c2 : Nat) (x n : Int) (h : RfR w r most T K a1 c1 a2 c2) (hX : T = A ++ (x, n) :: B) (hX' : X' = A ++ B) (hA : hasK A x = false) (hl : T.length + K.length ≤ 1000) :
    Calls Try.prog 64 #[.pointer (some ⟨r, 0, none⟩), .int .i64 x] w (TakeY w r most T K a1 T.length c1 a2 K.length c2 X' K x n) := by
  have m1 := h.m1
  have m2 := h.m2
  have lr : r < w.heap.size := cell_lt m1
  have hLn : A.length < T.length := by rw [hX]; simp
  obtain ⟨g, o, ha, k0, k1⟩ := h.t.at (j := A.length) (t := (x, n)) (by rw [hX]; simp)
  obtain rfl := ha
  have H := Lib.hid h
  have f1 : Hid (findI T x = A.length) := by rw [hX]; exact findI_yes hA
  have lg : g < w.heap.size := cell_lt k0
  have hlA : A.length ≤ 1000 := by omega
  have HX := Lib.hid hX
  have HX' := Lib.hid hX'
  clear h hA hX hX' 
  go_enter Try.func64, Try.ntmps64
  go_wp2_with fail
  refine name_calls ?_; intro W hW
  have gW : Chg (fun _ => False) w W := by subst hW; exact (by repeat (first | with_reducible exact Chg.refl _ _ | with_reducible assumption | with_reducible refine Chg.drewN ?_ _ | with_reducible refine Chg.drew ?_ | with_reducible refine Chg.alloc ?_ _ | with_reducible refine Chg.setCell ?_ (by first | (left; rfl) | (left; left; rfl) | (left; right; rfl) | (left; right; left; rfl) | (left; right; right; rfl) | (right; exact Nat.le_refl _) | (right; simp; done) | (right; omega) | (right; simp at *; omega) | (simp at *; omega)) _ | with_reducible refine Chg.trans ?_ (by with_reducible assumption) (by intro i hi hT; first | exact hT | exact False.elim hT | omega | (simp at *; omega))))
  have j1 : W.cell? ⟨r, 1, none⟩ = some (.slice (some ⟨g, o, none⟩) T.length c1) := by subst hW; go_simp
  have j2 : W.cell? ⟨r, 2, none⟩ = some (.slice a2 K.length c2) := by subst hW; go_simp
  have q0 : W.cell? ⟨w.heap.size, 0, none⟩ = some (.int .i64 0) := by subst hW; go_simp
  have q1 : W.cell? ⟨w.heap.size, 1, none⟩ = some (.int .i64 0) := by subst hW; go_simp
  have qf : ∀ o, W.frozen? ⟨w.heap.size, o, none⟩ = false := by subst hW; intro o; go_simp
  have zW : w.heap.size < W.heap.size := by subst hW; simp
  have i0 : W.cell? ⟨g, o + A.length * 2, none⟩ = some (.int .i64 x) := by subst hW; go_simp
  have i1 : W.cell? ⟨g, o + A.length * 2 + 1, none⟩ = some (.int .i64 n) := by subst hW; go_simp
  clear hW m1 m2 k0 k1
  have HG := Lib.hid gW
  have HW := Lib.hid (H.out.still gW)
  have lg2 : g < W.heap.size := cell_lt i0
  have lr2 : r < W.heap.size := cell_lt j1
  clear gW
  refine (find_any W _ c1 T x HW.out.t (by omega)).mono ?_
  rintro e w' ⟨rfl, rfl⟩
  rw [f1.out]
  go_wp2_with fail
  refine name_calls ?_; intro V hV
  have gV : Chg (fun _ => False) W V := by subst hV; exact (by repeat (first | with_reducible exact Chg.refl _ _ | with_reducible assumption | with_reducible refine Chg.drewN ?_ _ | with_reducible refine Chg.drew ?_ | with_reducible refine Chg.alloc ?_ _ | with_reducible refine Chg.setCell ?_ (by first | (left; rfl) | (left; left; rfl) | (left; right; rfl) | (left; right; left; rfl) | (left; right; right; rfl) | (right; exact Nat.le_refl _) | (right; simp; done) | (right; omega) | (right; simp at *; omega) | (simp at *; omega)) _ | with_reducible refine Chg.trans ?_ (by with_reducible assumption) (by intro i hi hT; first | exact hT | exact False.elim hT | omega | (simp at *; omega))))
  have y1 : V.cell? ⟨r, 1, none⟩ = some (.slice (some ⟨g, o, none⟩) T.length c1) := by subst hV; go_simp
  have y2 : V.cell? ⟨r, 2, none⟩ = some (.slice a2 K.length c2) := by subst hV; go_simp
  have x0 : V.cell? ⟨w.heap.size, 0, none⟩ = some (.int .i64 0) := by subst hV; go_simp
  have x1 : V.cell? ⟨w.heap.size, 1, none⟩ = some (.int .i64 0) := by subst hV; go_simp
  have xf : ∀ o, V.frozen? ⟨w.heap.size, o, none⟩ = false := by subst hV; intro o; go_simp
  have t0 : V.cell? ⟨W.heap.size, 0, none⟩ = some (.int .i64 x) := by subst hV; go_simp
  have t1 : V.cell? ⟨W.heap.size, 1, none⟩ = some (.int .i64 n) := by subst hV; go_simp
  have HGV := Lib.hid gV
  have HV := Lib.hid (HW.out.still gV)
  clear hV j1 j2 q0 q1 qf i0 i1 gV
  refine (without_of V _ c1 T X' A B (x, n) HX.out HX'.out HV.out.t (by omega)).mono ?_
  rintro e w5 ⟨⟨a', c', rfl, ho⟩, g5⟩
  have HO := Lib.hid ho
  have HG5 := Lib.hid g5
  have H5 := Lib.hid (HV.out.still g5)
  have zV : w.heap.size < V.heap.size := cell_lt x0
  have zV2 : W.heap.size < V.heap.size := cell_lt t0
  have p0 : w5.cell? ⟨w.heap.size, 0, none⟩ = some (.int .i64 0) := by rw [g5.cell zV id]; exact x0
  have p1 : w5.cell? ⟨w.heap.size, 1, none⟩ = some (.int .i64 0) := by rw [g5.cell zV id]; exact x1
  have pf : ∀ o, w5.frozen? ⟨w.heap.size, o, none⟩ = false := fun o => by rw [g5.frozen zV id]; exact xf o
  have s0 : w5.cell? ⟨W.heap.size, 0, none⟩ = some (.int .i64 x) := by rw [g5.cell zV2 id]; exact t0
  have s1 : w5.cell? ⟨W.heap.size, 1, none⟩ = some (.int .i64 n) := by rw [g5.cell zV2 id]; exact t1
  have rr := H5.out.m1
  have rf := H5.out.fz
  have zr : r < w5.heap.size := cell_lt rr
  clear ho g5 y1 y2 x0 x1 xf t0 t1
  go_wp2
  have hR := H5.out.put1 HO.out (by have := HGV.out.size; omega)
  have gR := (Chg.setCell (S := fun k => k = r) (p := ⟨r, 1, none⟩) (((HG.out.mono (T := fun k => k = r) fun _ _ h => h.elim).trans HGV.out fun _ _ h => h.elim).trans HG5.out fun _ _ h => h.elim) (.inl rfl) (.slice a' X'.length c'))
  generalize hV : World.setCell (World.setCell (World.setCell _ _ _) _ _) _ _ = F
  have v0 : F.cell? ⟨w.heap.size, 0, none⟩ = some (.int .i64 x) := by subst hV; go_simp
  have v1 : F.cell? ⟨w.heap.size, 1, none⟩ = some (.int .i64 n) := by subst hV; go_simp
  have gF : Chg (fun k => k = w.heap.size) (w5.setCell ⟨r, 1, none⟩ (.slice a' X'.length c')) F := by
    subst hV
    exact (Chg.setCell (S := fun k => k = w.heap.size) (Chg.refl _ _) (p := ⟨w.heap.size, 0, none⟩) (.inl rfl) _).setCell (p := ⟨w.heap.size, 1, none⟩) (.inl rfl) _
  have hfin : RfN w r most T K (some ⟨g, o, none⟩) T.length c1 a2 K.length c2 X' K F := by
    have hB := fun q hq => own_below (c := q) HO.out hq
    have hVW := HGV.out.size
    exact ⟨a', c', a2, c2, hR.chg gF (by omega) (fun q hq e => by have := hB q hq; omega) (fun q hq e => by have := (H.out.n2 q hq).2; omega), fun q hq => .inr (.inr (by have := hB q hq; omega)), fun q hq => .inr (.inl hq), gR.trans gF fun i hi h => by omega⟩
  exact bodyPost_ret (v := .tuple #[.agg #[.int .i64 x, .int .i64 n], .bool true]) (by simp [results, Try.results64, go_sem, v0, v1]) rfl ⟨rfl, hfin⟩

set_option maxHeartbeats 2000000 in
theorem take_kept (w : World) (r : Nat) (most : Int) (T K X' A B : List Pt) (a1 : Option Addr) (c1 : Nat) (a2 : Option Addr) (c2 : Nat) (x n : Int) (h : RfR w r most T K a1 c1 a2 c2) (hX : K = A ++ (x, n) :: B) (hX' : X' = A ++ B) (hA : hasK A x = false) (hT : hasK T x = false) (hl : T.length + K.length ≤ 1000) :
    Calls Try.prog 64 #[.pointer (some ⟨r, 0, none⟩), .int .i64 x] w (TakeY w r most T K a1 T.length c1 a2 K.length c2 T X' x n) := by
  have m1 := h.m1
  have m2 := h.m2
  have lr : r < w.heap.size := cell_lt m1
  have hLn : A.length < K.length := by rw [hX]; simp
  obtain ⟨g, o, ha, k0, k1⟩ := h.k.at (j := A.length) (t := (x, n)) (by rw [hX]; simp)
  obtain rfl := ha
  have H := Lib.hid h
  have f1 : Hid (findI K x = A.length) := by rw [hX]; exact findI_yes hA
  have f2 : Hid (findI T x = -1) := findI_no hT
  have lg : g < w.heap.size := cell_lt k0
  have hlA : A.length ≤ 1000 := by omega
  have HX := Lib.hid hX
  have HX' := Lib.hid hX'
  clear h hA hX hX' hT
  go_enter Try.func64, Try.ntmps64
  go_wp2_with fail
  refine name_calls ?_; intro W hW
  have gW : Chg (fun _ => False) w W := by subst hW; exact (by repeat (first | with_reducible exact Chg.refl _ _ | with_reducible assumption | with_reducible refine Chg.drewN ?_ _ | with_reducible refine Chg.drew ?_ | with_reducible refine Chg.alloc ?_ _ | with_reducible refine Chg.setCell ?_ (by first | (left; rfl) | (left; left; rfl) | (left; right; rfl) | (left; right; left; rfl) | (left; right; right; rfl) | (right; exact Nat.le_refl _) | (right; simp; done) | (right; omega) | (right; simp at *; omega) | (simp at *; omega)) _ | with_reducible refine Chg.trans ?_ (by with_reducible assumption) (by intro i hi hT; first | exact hT | exact False.elim hT | omega | (simp at *; omega))))
  have j1 : W.cell? ⟨r, 1, none⟩ = some (.slice a1 T.length c1) := by subst hW; go_simp
  have j2 : W.cell? ⟨r, 2, none⟩ = some (.slice (some ⟨g, o, none⟩) K.length c2) := by subst hW; go_simp
  have q0 : W.cell? ⟨w.heap.size, 0, none⟩ = some (.int .i64 0) := by subst hW; go_simp
  have q1 : W.cell? ⟨w.heap.size, 1, none⟩ = some (.int .i64 0) := by subst hW; go_simp
  have qf : ∀ o, W.frozen? ⟨w.heap.size, o, none⟩ = false := by subst hW; intro o; go_simp
  have zW : w.heap.size < W.heap.size := by subst hW; simp
  have i0 : W.cell? ⟨g, o + A.length * 2, none⟩ = some (.int .i64 x) := by subst hW; go_simp
  have i1 : W.cell? ⟨g, o + A.length * 2 + 1, none⟩ = some (.int .i64 n) := by subst hW; go_simp
  clear hW m1 m2 k0 k1
  have HG := Lib.hid gW
  have HW := Lib.hid (H.out.still gW)
  have lg2 : g < W.heap.size := cell_lt i0
  have lr2 : r < W.heap.size := cell_lt j1
  clear gW
  refine (find_any W _ c1 T x HW.out.t (by omega)).mono ?_
  rintro e w' ⟨rfl, rfl⟩
  rw [f2.out]
  go_wp2_with fail
  refine (find_any W _ c2 K x HW.out.k (by omega)).mono ?_
  rintro e w' ⟨rfl, rfl⟩
  rw [f1.out]
  go_wp2_with fail
  refine name_calls ?_; intro V hV
  have gV : Chg (fun _ => False) W V := by subst hV; exact (by repeat (first | with_reducible exact Chg.refl _ _ | with_reducible assumption | with_reducible refine Chg.drewN ?_ _ | with_reducible refine Chg.drew ?_ | with_reducible refine Chg.alloc ?_ _ | with_reducible refine Chg.setCell ?_ (by first | (left; rfl) | (left; left; rfl) | (left; right; rfl) | (left; right; left; rfl) | (left; right; right; rfl) | (right; exact Nat.le_refl _) | (right; simp; done) | (right; omega) | (right; simp at *; omega) | (simp at *; omega)) _ | with_reducible refine Chg.trans ?_ (by with_reducible assumption) (by intro i hi hT; first | exact hT | exact False.elim hT | omega | (simp at *; omega))))
  have y1 : V.cell? ⟨r, 1, none⟩ = some (.slice a1 T.length c1) := by subst hV; go_simp
  have y2 : V.cell? ⟨r, 2, none⟩ = some (.slice (some ⟨g, o, none⟩) K.length c2) := by subst hV; go_simp
  have x0 : V.cell? ⟨w.heap.size, 0, none⟩ = some (.int .i64 0) := by subst hV; go_simp
  have x1 : V.cell? ⟨w.heap.size, 1, none⟩ = some (.int .i64 0) := by subst hV; go_simp
  have xf : ∀ o, V.frozen? ⟨w.heap.size, o, none⟩ = false := by subst hV; intro o; go_simp
  have t0 : V.cell? ⟨W.heap.size, 0, none⟩ = some (.int .i64 x) := by subst hV; go_simp
  have t1 : V.cell? ⟨W.heap.size, 1, none⟩ = some (.int .i64 n) := by subst hV; go_simp
  have HGV := Lib.hid gV
  have HV := Lib.hid (HW.out.still gV)
  clear hV j1 j2 q0 q1 qf i0 i1 gV
  refine (without_of V _ c2 K X' A B (x, n) HX.out HX'.out HV.out.k (by omega)).mono ?_
  rintro e w5 ⟨⟨a', c', rfl, ho⟩, g5⟩
  have HO := Lib.hid ho
  have HG5 := Lib.hid g5
  have H5 := Lib.hid (HV.out.still g5)
  have zV : w.heap.size < V.heap.size := cell_lt x0
  have zV2 : W.heap.size < V.heap.size := cell_lt t0
  have p0 : w5.cell? ⟨w.heap.size, 0, none⟩ = some (.int .i64 0) := by rw [g5.cell zV id]; exact x0
  have p1 : w5.cell? ⟨w.heap.size, 1, none⟩ = some (.int .i64 0) := by rw [g5.cell zV id]; exact x1
  have pf : ∀ o, w5.frozen? ⟨w.heap.size, o, none⟩ = false := fun o => by rw [g5.frozen zV id]; exact xf o
  have s0 : w5.cell? ⟨W.heap.size, 0, none⟩ = some (.int .i64 x) := by rw [g5.cell zV2 id]; exact t0
  have s1 : w5.cell? ⟨W.heap.size, 1, none⟩ = some (.int .i64 n) := by rw [g5.cell zV2 id]; exact t1
  have rr := H5.out.m2
  have rf := H5.out.fz
  have zr : r < w5.heap.size := cell_lt rr
  clear ho g5 y1 y2 x0 x1 xf t0 t1
  go_wp2
  have hR := H5.out.put2 HO.out (by have := HGV.out.size; omega)
  have gR := (Chg.setCell (S := fun k => k = r) (p := ⟨r, 2, none⟩) (((HG.out.mono (T := fun k => k = r) fun _ _ h => h.elim).trans HGV.out fun _ _ h => h.elim).trans HG5.out fun _ _ h => h.elim) (.inl rfl) (.slice a' X'.length c'))
  generalize hV : World.setCell (World.setCell (World.setCell _ _ _) _ _) _ _ = F
  have v0 : F.cell? ⟨w.heap.size, 0, none⟩ = some (.int .i64 x) := by subst hV; go_simp
  have v1 : F.cell? ⟨w.heap.size, 1, none⟩ = some (.int .i64 n) := by subst hV; go_simp
  have gF : Chg (fun k => k = w.heap.size) (w5.setCell ⟨r, 2, none⟩ (.slice a' X'.length c')) F := by
    subst hV
    exact (Chg.setCell (S := fun k => k = w.heap.size) (Chg.refl _ _) (p := ⟨w.heap.size, 0, none⟩) (.inl rfl) _).setCell (p := ⟨w.heap.size, 1, none⟩) (.inl rfl) _
  have hfin : RfN w r most T K a1 T.length c1 (some ⟨g, o, none⟩) K.length c2 T X' F := by
    have hB := fun q hq => own_below (c := q) HO.out hq
    have hVW := HGV.out.size
    exact ⟨a1, c1, a', c', hR.chg gF (by omega) (fun q hq e => by have := (H.out.n1 q hq).2; omega) (fun q hq e => by have := hB q hq; omega), fun q hq => .inl hq, fun q hq => .inr (.inr (by have := hB q hq; omega)), gR.trans gF fun i hi h => by omega⟩
  exact bodyPost_ret (v := .tuple #[.agg #[.int .i64 x, .int .i64 n], .bool true]) (by simp [results, Try.results64, go_sem, v0, v1]) rfl ⟨rfl, hfin⟩
end Go.Proofs.Ytdoepjokaekckaa
