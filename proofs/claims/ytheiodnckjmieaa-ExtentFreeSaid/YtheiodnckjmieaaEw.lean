/- The map of extents in memory; its small functions. -/
import Derived.Test.YtheiodnckjmieaaEb
import Derived.Test.YtheiodnckjmieaaApp
namespace Go.Proofs.Ytheiodnckjmieaa
set_option linter.unusedVariables false
open Go.RowKit

def flat (fs : List Ext) : List Value := fs.flatMap fun e => [.int .i64 e.1, .int .i64 e.2]
theorem flat_cons (e : Ext) (r : List Ext) : flat (e :: r) = .int .i64 e.1 :: .int .i64 e.2 :: flat r := rfl
theorem flat_append (a b : List Ext) : flat (a ++ b) = flat a ++ flat b := by simp [flat]
theorem flat_len (fs : List Ext) : (flat fs).length = fs.length * 2 := by
  induction fs with
  | nil => rfl
  | cons e r ih => simp [flat_cons, ih]; omega
theorem flat_at {fs : List Ext} {i : Nat} {e : Ext} (h : fs[i]? = some e) : (flat fs)[i * 2]? = some (.int .i64 e.1) ∧ (flat fs)[i * 2 + 1]? = some (.int .i64 e.2) := by
  induction fs generalizing i with
  | nil => simp at h
  | cons f r ih =>
    cases i with
    | zero => simp at h; subst h; simp [flat_cons]
    | succ i =>
      have := ih (i := i) (by simpa using h)
      have e1 : (i + 1) * 2 = i * 2 + 2 := by omega
      rw [flat_cons, e1]
      simpa using this
theorem flat_one (fs : List Ext) : ∀ u ∈ flat fs, u.oneCell' = true := by
  induction fs with
  | nil => intro u h; cases h
  | cons e r ih =>
    intro u h
    rw [flat_cons] at h
    rcases List.mem_cons.1 h with rfl | h
    · rfl
    · rcases List.mem_cons.1 h with rfl | h
      · rfl
      · exact ih u h
theorem flat_take (fs : List Ext) : ∀ i, flat (fs.take i) = (flat fs).take (i * 2) := by
  induction fs with
  | nil => intro i; simp [flat]
  | cons e r ih =>
    intro i
    cases i with
    | zero => simp [flat]
    | succ i =>
      have e1 : (i + 1) * 2 = i * 2 + 1 + 1 := by omega
      rw [List.take_succ_cons, flat_cons, flat_cons, ih, e1, List.take_succ_cons, List.take_succ_cons]
theorem flat_drop (fs : List Ext) : ∀ i, flat (fs.drop i) = (flat fs).drop (i * 2) := by
  induction fs with
  | nil => intro i; simp [flat]
  | cons e r ih =>
    intro i
    cases i with
    | zero => simp
    | succ i =>
      have e1 : (i + 1) * 2 = i * 2 + 1 + 1 := by omega
      rw [List.drop_succ_cons, flat_cons, ih, e1, List.drop_succ_cons, List.drop_succ_cons]

/-- A slice reads as a list of extents. -/
def IsE (w : World) (a : Option Addr) (c : Nat) (fs : List Ext) : Prop := RdS w 2 a fs.length c (flat fs)
section
variable {w w' : World} {a : Option Addr} {c : Nat} {fs : List Ext}
theorem IsE.at (h : IsE w a c fs) {i : Nat} {e : Ext} (hi : fs[i]? = some e) : ∃ g o, a = some ⟨g, o, none⟩ ∧ g < w.heap.size ∧ w.cell? ⟨g, o + i * 2, none⟩ = some (.int .i64 e.1) ∧ w.cell? ⟨g, o + i * 2 + 1, none⟩ = some (.int .i64 e.2) := by
  have hf := flat_at hi
  obtain ⟨g, o, rfl, c0⟩ := h.cells _ _ hf.1
  obtain ⟨g', o', e2, c1⟩ := h.cells _ _ hf.2
  injection e2 with e2
  injection e2 with e3 e4
  subst e3 e4
  exact ⟨g, o, rfl, cell_lt c0, c0, by rw [Nat.add_assoc]; exact c1⟩
theorem IsE.take (h : IsE w a c fs) (i : Nat) (hi : i ≤ fs.length) (a' : Option Addr) (ha : a' = a ∨ a' = a.map (·.add 0)) : RdS w 2 a' i i (flat (fs.take i)) := by
  have e : a' = a := by
    rcases ha with h | h
    · exact h
    · rw [h]; cases a <;> simp [Addr.add]
  subst e
  refine ⟨by rw [flat_len, List.length_take, Nat.min_eq_left hi], ⟨Nat.le_refl _, by have := h.le; omega⟩, fun e => by have := h.nil e; omega, flat_one _, fun j u hj => ?_, h.adr⟩
  rw [flat_take] at hj
  rw [List.getElem?_take] at hj
  by_cases hj2 : j < i * 2
  · rw [if_pos hj2] at hj; exact h.cells j u hj
  · rw [if_neg hj2] at hj; cases hj
theorem IsE.drop (h : IsE w a c fs) (k : Nat) (hk : k ≤ fs.length) : RdS w 2 (if c = k then a else a.map (·.add (k * 2))) (fs.length - k) (c - k) (flat (fs.drop k)) := by
  have hl := h.le
  refine ⟨by rw [flat_len, List.length_drop], by omega, fun e => ?_, flat_one _, fun j u hj => ?_, fun x hx => ?_⟩
  · by_cases hc : c = k
    · omega
    · rw [if_neg hc] at e
      cases a with
      | none => have := h.nil rfl; omega
      | some x => simp at e
  · rw [flat_drop, List.getElem?_drop] at hj
    obtain ⟨g, o, rfl, hc⟩ := h.cells _ _ hj
    have hlt := (List.getElem?_eq_some_iff.1 hj).1
    rw [flat_len] at hlt
    by_cases hck : c = k
    · omega
    · rw [if_neg hck]
      refine ⟨g, o + k * 2, by simp [Addr.add_lit], by rw [Nat.add_assoc]; exact hc⟩
  · by_cases hc : c = k
    · rw [if_pos hc] at hx; exact h.adr x hx
    · rw [if_neg hc] at hx
      cases a with
      | none => cases hx
      | some y =>
        obtain ⟨g, o, rfl⟩ := h.adr y rfl
        simp only [Option.map_some, Addr.add_lit] at hx
        injection hx with hx
        exact ⟨_, _, hx.symm⟩
theorem IsE.keep {S : Nat → Prop} (h : IsE w a c fs) (k : Chg S w w') (hn : ∀ g, (Value.slice a fs.length c).ownBlock = some g → ¬ S g) : IsE w' a c fs := RdS.block h k hn
end

section
variable {w : World} {p q : Addr} {v u : Value}
theorem cell_other (h : p ≠ q) : (w.setCell p v).cell? q = w.cell? q := by apply World.cell?_setCell_other; exact h
theorem cell_same (h : w.cell? p = some u) : (w.setCell p v).cell? p = some v := by apply World.cell?_setCell_same; exact h
end
/-- The map: its struct at block b, its free extents fs; S: the blocks that may be written. -/
structure Em (w : World) (S : Nat → Prop) (b : Nat) (base sec : Int) (a : Option Addr) (c : Nat) (fs : List Ext) : Prop where
  c0 : w.cell? ⟨b, 0, none⟩ = some (.int .i64 base)
  c1 : w.cell? ⟨b, 1, none⟩ = some (.int .i64 sec)
  c2 : w.cell? ⟨b, 2, none⟩ = some (.slice a fs.length c)
  fz : ∀ o, w.frozen? ⟨b, o, none⟩ = false
  rd : IsE w a c fs
  ob : ∀ g, (Value.slice a fs.length c).ownBlock = some g → ¬ S g ∧ g < w.heap.size
  sb : S b
  lt : ∀ k, S k → k < w.heap.size
  norm : Norm (base + sec) base fs
  bd : 0 ≤ base ∧ base ≤ 1048576 ∧ 0 ≤ sec ∧ sec ≤ 1048576
theorem Em.chg {S T : Nat → Prop} {w w' : World} {b : Nat} {base sec : Int} {a : Option Addr} {c : Nat} {fs : List Ext} (h : Em w S b base sec a c fs) (k : Chg T w w') (hT : ∀ k, k < w.heap.size → T k → S k) (hb : ¬ T b) : Em w' S b base sec a c fs := by
  have lb := cell_lt h.c0
  refine ⟨(k.cell lb hb 0).trans h.c0, (k.cell lb hb 1).trans h.c1, (k.cell lb hb 2).trans h.c2, fun o => (k.frozen lb hb o).trans (h.fz o), ?_, fun g hg => ⟨(h.ob g hg).1, Nat.lt_of_lt_of_le (h.ob g hg).2 k.size⟩, h.sb, fun q hq => Nat.lt_of_lt_of_le (h.lt q hq) k.size, h.norm, h.bd⟩
  have k' : Chg (fun q => T q ∧ q < w.heap.size) w w' := ⟨k.os, k.tape, k.output, k.size, fun i hi hn => k.block i hi fun ht => hn ⟨ht, hi⟩⟩
  exact h.rd.keep k' fun g hg ht => (h.ob g hg).1 (hT g ht.2 ht.1)
theorem Em.widen {S : Nat → Prop} {w w1 : World} {b : Nat} {base sec : Int} {a : Option Addr} {c : Nat} {fs : List Ext} (h : Em w S b base sec a c fs) (k : Chg (fun _ => False) w w1) : Em w1 (fun q => S q ∨ w.heap.size ≤ q ∧ q < w1.heap.size) b base sec a c fs := by
  have h1 := h.chg k (fun _ _ h => h.elim) id
  exact ⟨h1.c0, h1.c1, h1.c2, h1.fz, h1.rd, fun g hg => ⟨fun hs => by
    rcases hs with hs | hs
    · exact (h.ob g hg).1 hs
    · have := (h.ob g hg).2; omega, (h1.ob g hg).2⟩, .inl h.sb, fun q hq => by
    rcases hq with hq | hq
    · exact h1.lt q hq
    · exact hq.2, h.norm, h.bd⟩
theorem Em.narrow {S S' : Nat → Prop} {w : World} {b : Nat} {base sec : Int} {a : Option Addr} {c : Nat} {fs : List Ext} (h : Em w S' b base sec a c fs) (hs : ∀ q, S q → S' q) (hb : S b) : Em w S b base sec a c fs :=
  ⟨h.c0, h.c1, h.c2, h.fz, h.rd, fun g hg => ⟨fun q => (h.ob g hg).1 (hs g q), (h.ob g hg).2⟩, hb, fun q hq => h.lt q (hs q hq), h.norm, h.bd⟩
/-- The list's slot written. -/
theorem Em.put {S T : Nat → Prop} {w w' : World} {b : Nat} {base sec : Int} {a a' : Option Addr} {c c' : Nat} {fs fs' : List Ext} (h : Em w S b base sec a c fs) (k : Chg T w w') (hT : ∀ k, k < w.heap.size → ¬ T k) (rd : IsE w' a' c' fs') (ob : ∀ g, (Value.slice a' fs'.length c').ownBlock = some g → (Value.slice a fs.length c).ownBlock = some g ∨ w.heap.size ≤ g ∧ g < w'.heap.size) (n : Norm (base + sec) base fs') :
    Em (w'.setCell ⟨b, 2, none⟩ (.slice a' fs'.length c')) S b base sec a' c' fs' ∧ Chg (fun k => k = b) w (w'.setCell ⟨b, 2, none⟩ (.slice a' fs'.length c')) := by
  have lb := cell_lt h.c0
  have hT' : Chg (fun q => q = b) w w' := k.mono fun i hi ht => absurd ht (hT i hi)
  have cc := hT'.setCell (p := ⟨b, 2, none⟩) (.inl rfl) (.slice a' fs'.length c')
  have ob' : ∀ g, (Value.slice a' fs'.length c').ownBlock = some g → ¬ S g ∧ g < w'.heap.size := fun g hg => by
    rcases ob g hg with h1 | h1
    · exact ⟨(h.ob g h1).1, Nat.lt_of_lt_of_le (h.ob g h1).2 k.size⟩
    · exact ⟨fun hs => by have := h.lt g hs; omega, h1.2⟩
  refine ⟨⟨?_, ?_, ?_, ?_, ?_, fun g hg => ⟨(ob' g hg).1, by simpa [World.setCell] using (ob' g hg).2⟩, h.sb, fun q hq => Nat.lt_of_lt_of_le (h.lt q hq) cc.size, n, h.bd⟩, cc⟩
  · rw [cell_other (by simp), k.cell lb (hT b lb)]; exact h.c0
  · rw [cell_other (by simp), k.cell lb (hT b lb)]; exact h.c1
  · exact cell_same (u := .slice a fs.length c) (by rw [k.cell lb (hT b lb)]; exact h.c2)
  · intro o; rw [World.frozen?_setCell, k.frozen lb (hT b lb)]; exact h.fz o
  · have k2 : Chg (fun q => q = b) w' (w'.setCell ⟨b, 2, none⟩ (.slice a' fs'.length c')) := Chg.setCell (S := fun q => q = b) (Chg.refl _ _) (p := ⟨b, 2, none⟩) (.inl rfl) _
    refine rd.keep k2 fun g hg e => (ob' g hg).1 ?_
    subst e
    exact h.sb

/-- Is an extent the map's? -/
def oursB (base sec x n : Int) : Bool := decide (1 ≤ n ∧ n ≤ sec ∧ base ≤ x ∧ x - base ≤ sec - n)

set_option maxHeartbeats 1000000 in
theorem ours_any (b : Nat) (base sec x n : Int) (w : World) (c0 : w.cell? ⟨b, 0, none⟩ = some (.int .i64 base)) (c1 : w.cell? ⟨b, 1, none⟩ = some (.int .i64 sec)) (hx : -9223372036854775808 ≤ x ∧ x ≤ 9223372036854775807) (hn : -9223372036854775808 ≤ n ∧ n ≤ 9223372036854775807) (hb : 0 ≤ base ∧ base ≤ 1048576) (hs : 0 ≤ sec ∧ sec ≤ 1048576) :
    Calls Try.prog 30 #[.pointer (some ⟨b, 0, none⟩), .agg #[.int .i64 x, .int .i64 n]] w fun e w' => e = .returned (.bool (oursB base sec x n)) ∧ Below w.heap.size w w' := by
  have lb := cell_lt c0
  by_cases h1 : 1 ≤ n
  rotate_left
  · have q : decide (1 ≤ n) = false := by simp; omega
    go_enter Try.func30, Try.ntmps30
    go_wp2_with fail
    refine name_region ?_; intro W hW
    have k0 : W.cell? ⟨w.heap.size, 0, none⟩ = some (.int .i64 x) := by subst hW; go_simp
    have k1 : W.cell? ⟨w.heap.size, 1, none⟩ = some (.int .i64 n) := by subst hW; go_simp
    have d0 : W.cell? ⟨b, 0, none⟩ = some (.int .i64 base) := by subst hW; go_simp
    have d1 : W.cell? ⟨b, 1, none⟩ = some (.int .i64 sec) := by subst hW; go_simp
    have z1 : w.heap.size < W.heap.size := by subst hW; simp
    have z2 : b < W.heap.size := by omega
    have g0 : Below w.heap.size w W := by subst hW; exact (by repeat (first | with_reducible exact Below.refl _ _ | with_reducible assumption | with_reducible refine below_drewN ?_ _ | with_reducible refine Below.drew ?_ | with_reducible refine Below.alloc ?_ (by first | exact Nat.le_refl _ | assumption | (simp; done) | omega | (simp at *; omega)) _ | with_reducible refine Below.setCell ?_ (by first | exact Nat.le_refl _ | assumption | (simp; done) | omega | (simp at *; omega)) _ | with_reducible refine Below.trans ?_ (Below.mono (by with_reducible assumption) (by first | exact Nat.le_refl _ | assumption | (simp; done) | omega | (simp at *; omega)))))
    have z3 : w.heap.size ≤ W.heap.size := by omega
    clear hW
    (have hN : W.heap.size ≤ (World.heap W).size := by first | assumption | exact Nat.le_refl _ | (simp; done) | omega | (simp; omega) | (simp at *; omega)); (have kr := fun d os b o (h : b < W.heap.size) => (below_regrown W d os).cell (p := ⟨b, o, none⟩) (Nat.lt_of_lt_of_le h hN)); (refine wp_region_quiet_below (by kernel_rfl) (by kernel_rfl) ?_); (repeat (first | go_big_quiet_step ((first | fail)) | quiet_step ((first | fail)))); (refine wpQuiet_nil ?_); (intro w9 hw9); (obtain ⟨⟨dq, osq⟩, hw9⟩ := hw9); (have g9 := below_regrown W dq osq); (rw [← hw9] at g9); (have g9 : Below (W.heap.size) _ w9 := g9.mono hN); (have z9 : W.heap.size ≤ w9.heap.size := Nat.le_trans hN g9.size); (have c9 := fun b o h => g9.cell (p := ⟨b, o, none⟩) h); (have f9 := fun b o h => g9.frozen (p := ⟨b, o, none⟩) h); (clear hw9 kr hN g9)
    go_wp2
    go_ret
    exact ⟨ret_bool (by simp [oursB]; omega), (by repeat (first | with_reducible exact Below.refl _ _ | with_reducible assumption | with_reducible refine below_drewN ?_ _ | with_reducible refine Below.drew ?_ | with_reducible refine Below.alloc ?_ (by first | exact Nat.le_refl _ | assumption | (simp; done) | omega | (simp at *; omega)) _ | with_reducible refine Below.setCell ?_ (by first | exact Nat.le_refl _ | assumption | (simp; done) | omega | (simp at *; omega)) _ | with_reducible refine Below.trans ?_ (Below.mono (by with_reducible assumption) (by first | exact Nat.le_refl _ | assumption | (simp; done) | omega | (simp at *; omega)))))⟩
  by_cases h2 : n ≤ sec
  rotate_left
  · have q : decide (n ≤ sec) = false := by simp; omega
    go_enter Try.func30, Try.ntmps30
    go_wp2_with fail
    refine name_region ?_; intro W hW
    have k0 : W.cell? ⟨w.heap.size, 0, none⟩ = some (.int .i64 x) := by subst hW; go_simp
    have k1 : W.cell? ⟨w.heap.size, 1, none⟩ = some (.int .i64 n) := by subst hW; go_simp
    have d0 : W.cell? ⟨b, 0, none⟩ = some (.int .i64 base) := by subst hW; go_simp
    have d1 : W.cell? ⟨b, 1, none⟩ = some (.int .i64 sec) := by subst hW; go_simp
    have z1 : w.heap.size < W.heap.size := by subst hW; simp
    have z2 : b < W.heap.size := by omega
    have g0 : Below w.heap.size w W := by subst hW; exact (by repeat (first | with_reducible exact Below.refl _ _ | with_reducible assumption | with_reducible refine below_drewN ?_ _ | with_reducible refine Below.drew ?_ | with_reducible refine Below.alloc ?_ (by first | exact Nat.le_refl _ | assumption | (simp; done) | omega | (simp at *; omega)) _ | with_reducible refine Below.setCell ?_ (by first | exact Nat.le_refl _ | assumption | (simp; done) | omega | (simp at *; omega)) _ | with_reducible refine Below.trans ?_ (Below.mono (by with_reducible assumption) (by first | exact Nat.le_refl _ | assumption | (simp; done) | omega | (simp at *; omega)))))
    have z3 : w.heap.size ≤ W.heap.size := by omega
    clear hW
    (have hN : W.heap.size ≤ (World.heap W).size := by first | assumption | exact Nat.le_refl _ | (simp; done) | omega | (simp; omega) | (simp at *; omega)); (have kr := fun d os b o (h : b < W.heap.size) => (below_regrown W d os).cell (p := ⟨b, o, none⟩) (Nat.lt_of_lt_of_le h hN)); (refine wp_region_quiet_below (by kernel_rfl) (by kernel_rfl) ?_); (repeat (first | go_big_quiet_step ((first | fail)) | quiet_step ((first | fail)))); (refine wpQuiet_nil ?_); (intro w9 hw9); (obtain ⟨⟨dq, osq⟩, hw9⟩ := hw9); (have g9 := below_regrown W dq osq); (rw [← hw9] at g9); (have g9 : Below (W.heap.size) _ w9 := g9.mono hN); (have z9 : W.heap.size ≤ w9.heap.size := Nat.le_trans hN g9.size); (have c9 := fun b o h => g9.cell (p := ⟨b, o, none⟩) h); (have f9 := fun b o h => g9.frozen (p := ⟨b, o, none⟩) h); (clear hw9 kr hN g9)
    go_wp2
    go_ret
    exact ⟨ret_bool (by simp [oursB]; omega), (by repeat (first | with_reducible exact Below.refl _ _ | with_reducible assumption | with_reducible refine below_drewN ?_ _ | with_reducible refine Below.drew ?_ | with_reducible refine Below.alloc ?_ (by first | exact Nat.le_refl _ | assumption | (simp; done) | omega | (simp at *; omega)) _ | with_reducible refine Below.setCell ?_ (by first | exact Nat.le_refl _ | assumption | (simp; done) | omega | (simp at *; omega)) _ | with_reducible refine Below.trans ?_ (Below.mono (by with_reducible assumption) (by first | exact Nat.le_refl _ | assumption | (simp; done) | omega | (simp at *; omega)))))⟩
  by_cases h3 : base ≤ x
  rotate_left
  · have q : decide (base ≤ x) = false := by simp; omega
    go_enter Try.func30, Try.ntmps30
    go_wp2_with fail
    refine name_region ?_; intro W hW
    have k0 : W.cell? ⟨w.heap.size, 0, none⟩ = some (.int .i64 x) := by subst hW; go_simp
    have k1 : W.cell? ⟨w.heap.size, 1, none⟩ = some (.int .i64 n) := by subst hW; go_simp
    have d0 : W.cell? ⟨b, 0, none⟩ = some (.int .i64 base) := by subst hW; go_simp
    have d1 : W.cell? ⟨b, 1, none⟩ = some (.int .i64 sec) := by subst hW; go_simp
    have z1 : w.heap.size < W.heap.size := by subst hW; simp
    have z2 : b < W.heap.size := by omega
    have g0 : Below w.heap.size w W := by subst hW; exact (by repeat (first | with_reducible exact Below.refl _ _ | with_reducible assumption | with_reducible refine below_drewN ?_ _ | with_reducible refine Below.drew ?_ | with_reducible refine Below.alloc ?_ (by first | exact Nat.le_refl _ | assumption | (simp; done) | omega | (simp at *; omega)) _ | with_reducible refine Below.setCell ?_ (by first | exact Nat.le_refl _ | assumption | (simp; done) | omega | (simp at *; omega)) _ | with_reducible refine Below.trans ?_ (Below.mono (by with_reducible assumption) (by first | exact Nat.le_refl _ | assumption | (simp; done) | omega | (simp at *; omega)))))
    have z3 : w.heap.size ≤ W.heap.size := by omega
    clear hW
    (have hN : W.heap.size ≤ (World.heap W).size := by first | assumption | exact Nat.le_refl _ | (simp; done) | omega | (simp; omega) | (simp at *; omega)); (have kr := fun d os b o (h : b < W.heap.size) => (below_regrown W d os).cell (p := ⟨b, o, none⟩) (Nat.lt_of_lt_of_le h hN)); (refine wp_region_quiet_below (by kernel_rfl) (by kernel_rfl) ?_); (repeat (first | go_big_quiet_step ((first | fail)) | quiet_step ((first | fail)))); (refine wpQuiet_nil ?_); (intro w9 hw9); (obtain ⟨⟨dq, osq⟩, hw9⟩ := hw9); (have g9 := below_regrown W dq osq); (rw [← hw9] at g9); (have g9 : Below (W.heap.size) _ w9 := g9.mono hN); (have z9 : W.heap.size ≤ w9.heap.size := Nat.le_trans hN g9.size); (have c9 := fun b o h => g9.cell (p := ⟨b, o, none⟩) h); (have f9 := fun b o h => g9.frozen (p := ⟨b, o, none⟩) h); (clear hw9 kr hN g9)
    go_wp2
    go_ret
    exact ⟨ret_bool (by simp [oursB]; omega), (by repeat (first | with_reducible exact Below.refl _ _ | with_reducible assumption | with_reducible refine below_drewN ?_ _ | with_reducible refine Below.drew ?_ | with_reducible refine Below.alloc ?_ (by first | exact Nat.le_refl _ | assumption | (simp; done) | omega | (simp at *; omega)) _ | with_reducible refine Below.setCell ?_ (by first | exact Nat.le_refl _ | assumption | (simp; done) | omega | (simp at *; omega)) _ | with_reducible refine Below.trans ?_ (Below.mono (by with_reducible assumption) (by first | exact Nat.le_refl _ | assumption | (simp; done) | omega | (simp at *; omega)))))⟩
  have i1 : IntKind.i64.wrap (x - base) = x - base := IntWalk.i64_in _ (by omega)
  have i2 : IntKind.i64.wrap (sec - n) = sec - n := IntWalk.i64_in _ (by omega)
  go_enter Try.func30, Try.ntmps30
  go_wp2_with fail
  refine name_region ?_; intro W hW
  have k0 : W.cell? ⟨w.heap.size, 0, none⟩ = some (.int .i64 x) := by subst hW; go_simp
  have k1 : W.cell? ⟨w.heap.size, 1, none⟩ = some (.int .i64 n) := by subst hW; go_simp
  have d0 : W.cell? ⟨b, 0, none⟩ = some (.int .i64 base) := by subst hW; go_simp
  have d1 : W.cell? ⟨b, 1, none⟩ = some (.int .i64 sec) := by subst hW; go_simp
  have z1 : w.heap.size < W.heap.size := by subst hW; simp
  have z2 : b < W.heap.size := by omega
  have g0 : Below w.heap.size w W := by subst hW; exact (by repeat (first | with_reducible exact Below.refl _ _ | with_reducible assumption | with_reducible refine below_drewN ?_ _ | with_reducible refine Below.drew ?_ | with_reducible refine Below.alloc ?_ (by first | exact Nat.le_refl _ | assumption | (simp; done) | omega | (simp at *; omega)) _ | with_reducible refine Below.setCell ?_ (by first | exact Nat.le_refl _ | assumption | (simp; done) | omega | (simp at *; omega)) _ | with_reducible refine Below.trans ?_ (Below.mono (by with_reducible assumption) (by first | exact Nat.le_refl _ | assumption | (simp; done) | omega | (simp at *; omega)))))
  have z3 : w.heap.size ≤ W.heap.size := by omega
  clear hW
  (have hN : W.heap.size ≤ (World.heap W).size := by first | assumption | exact Nat.le_refl _ | (simp; done) | omega | (simp; omega) | (simp at *; omega)); (have kr := fun d os b o (h : b < W.heap.size) => (below_regrown W d os).cell (p := ⟨b, o, none⟩) (Nat.lt_of_lt_of_le h hN)); (refine wp_region_quiet_below (by kernel_rfl) (by kernel_rfl) ?_); (repeat (first | go_big_quiet_step ((first | fail)) | quiet_step ((first | fail)))); (refine wpQuiet_nil ?_); (intro w9 hw9); (obtain ⟨⟨dq, osq⟩, hw9⟩ := hw9); (have g9 := below_regrown W dq osq); (rw [← hw9] at g9); (have g9 : Below (W.heap.size) _ w9 := g9.mono hN); (have z9 : W.heap.size ≤ w9.heap.size := Nat.le_trans hN g9.size); (have c9 := fun b o h => g9.cell (p := ⟨b, o, none⟩) h); (have f9 := fun b o h => g9.frozen (p := ⟨b, o, none⟩) h); (clear hw9 kr hN g9)
  go_wp2
  go_ret
  exact ⟨ret_bool (by rw [oursB, decide_eq_decide]; omega), (by repeat (first | with_reducible exact Below.refl _ _ | with_reducible assumption | with_reducible refine below_drewN ?_ _ | with_reducible refine Below.drew ?_ | with_reducible refine Below.alloc ?_ (by first | exact Nat.le_refl _ | assumption | (simp; done) | omega | (simp at *; omega)) _ | with_reducible refine Below.setCell ?_ (by first | exact Nat.le_refl _ | assumption | (simp; done) | omega | (simp at *; omega)) _ | with_reducible refine Below.trans ?_ (Below.mono (by with_reducible assumption) (by first | exact Nat.le_refl _ | assumption | (simp; done) | omega | (simp at *; omega)))))⟩
end Go.Proofs.Ytheiodnckjmieaa
