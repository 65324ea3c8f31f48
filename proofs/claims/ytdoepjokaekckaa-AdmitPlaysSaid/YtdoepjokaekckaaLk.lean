/- Slices of pairs and of numbers. -/
import Derived.Test.YtdoepjokaekckaaApp
import Derived.Test.YtdoepjokaekckaaLv
namespace Go.Proofs.Ytdoepjokaekckaa
set_option linter.unusedVariables false
open Go.RowKit

theorem infoThing : (Try.prog.info? 127).map (fun i => (i.zero, i.size, i.bytes)) = some (some (.agg #[.int .i64 0, .int .i64 0]), 2, 16) := by kernel_rfl
theorem infoI64 : (Try.prog.info? 2).map (fun i => (i.zero, i.size, i.bytes)) = some (some (.int .i64 0), 1, 8) := by kernel_rfl
def flat (fs : List Pt) : List Value := fs.flatMap fun e => [.int .i64 e.1, .int .i64 e.2]
theorem flat_cons (e : Pt) (r : List Pt) : flat (e :: r) = .int .i64 e.1 :: .int .i64 e.2 :: flat r := rfl
theorem flat_append (a b : List Pt) : flat (a ++ b) = flat a ++ flat b := by simp [flat]
theorem flat_len (fs : List Pt) : (flat fs).length = fs.length * 2 := by
  induction fs with
  | nil => rfl
  | cons e r ih => simp [flat_cons, ih]; omega
theorem flat_at {fs : List Pt} {i : Nat} {e : Pt} (h : fs[i]? = some e) : (flat fs)[i * 2]? = some (.int .i64 e.1) ∧ (flat fs)[i * 2 + 1]? = some (.int .i64 e.2) := by
  induction fs generalizing i with
  | nil => simp at h
  | cons f r ih =>
    cases i with
    | zero => simp at h; subst h; simp [flat_cons]
    | succ i =>
      have := ih (i := i) (by simpa using h)
      have e1 : (i + 1) * 2 = i * 2 + 2 := by omega
      rw [flat_cons, e1]
      simpa using this
theorem flat_one (fs : List Pt) : ∀ u ∈ flat fs, u.oneCell' = true := by
  induction fs with
  | nil => intro u h; cases h
  | cons e r ih =>
    intro u h
    rw [flat_cons] at h
    rcases List.mem_cons.1 h with rfl | h
    · rfl
    · rcases List.mem_cons.1 h with rfl | h
      · rfl
      · exact ih u h
theorem flat_take (fs : List Pt) : ∀ i, flat (fs.take i) = (flat fs).take (i * 2) := by
  induction fs with
  | nil => intro i; simp [flat]
  | cons e r ih =>
    intro i
    cases i with
    | zero => simp [flat]
    | succ i =>
      have e1 : (i + 1) * 2 = i * 2 + 1 + 1 := by omega
      rw [List.take_succ_cons, flat_cons, flat_cons, ih, e1, List.take_succ_cons, List.take_succ_cons]
theorem flat_drop (fs : List Pt) : ∀ i, flat (fs.drop i) = (flat fs).drop (i * 2) := by
  induction fs with
  | nil => intro i; simp [flat]
  | cons e r ih =>
    intro i
    cases i with
    | zero => simp
    | succ i =>
      have e1 : (i + 1) * 2 = i * 2 + 1 + 1 := by omega
      rw [List.drop_succ_cons, flat_cons, ih, e1, List.drop_succ_cons, List.drop_succ_cons]
theorem RdS.row {w : World} {B sz n cap : Nat} {e : TypeId} {a : Option Addr} {xs : List Value} (h : w.ownsRow B e sz (.slice a n cap) n xs) (h1 : ∀ u ∈ xs, u.oneCell' = true) : RdS w sz a n cap xs := by
  obtain ⟨a', cap', e1, h2⟩ := RdS.own h h1
  injection e1 with e2 _ e3
  subst e2 e3
  exact h2
theorem own_ne2 {w : World} {B : Nat} {e : TypeId} {sz : Nat} {v : Value} {n : Nat} {xs : List Value} (h : w.ownsRow B e sz v n xs) {b : Nat} (hb : b < B) : some b ≠ v.ownBlock := fun e => by
  have := own_below h e.symm
  omega
theorem rd_one {w : World} {q : Nat} {u : Value} (h0 : w.cell? ⟨q, 0, none⟩ = some u) (h1 : u.oneCell' = true) : RdS w 1 (some ⟨q, 0, none⟩) 1 1 [u] := by
  refine ⟨rfl, ⟨Nat.le_refl _, by unfold maxLen; omega⟩, (fun e => nomatch e), fun v hv => by rw [List.mem_singleton.1 hv]; exact h1, fun j u' hj => ?_, fun x hx => by injection hx with hx; exact ⟨_, _, hx.symm⟩⟩
  refine ⟨q, 0, rfl, ?_⟩
  match j, hj with
  | 0, hj => injection hj with hj; subst hj; exact h0
theorem rd_cells {w : World} {q : Nat} {u v : Int} (h0 : w.cell? ⟨q, 0, none⟩ = some (.int .i64 u)) (h1 : w.cell? ⟨q, 1, none⟩ = some (.int .i64 v)) : RdS w 2 (some ⟨q, 0, none⟩) 1 1 (flat [(u, v)]) := by
  refine ⟨rfl, ⟨Nat.le_refl _, by unfold maxLen; omega⟩, (fun e => nomatch e), flat_one _, fun j u' hj => ?_, fun x hx => by injection hx with hx; exact ⟨_, _, hx.symm⟩⟩
  refine ⟨q, 0, rfl, ?_⟩
  match j, hj with
  | 0, hj => injection hj with hj; subst hj; exact h0
  | 1, hj => injection hj with hj; subst hj; exact h1
theorem row_empty {w : World} {q B sz : Nat} {t : TypeId} (hq : w.heap.size = q) (hB : B ≤ q) (hs : 0 ≤ maxLen) : (w.alloc (.cells #[] t)).ownsRow B t sz (.slice (some ⟨q, 0, none⟩) 0 0) 0 [] := by
  subst hq
  exact ⟨by simp, .inr ⟨w.heap.size, 0, #[], rfl, hB, heap_alloc_new _ _, by omega, hs, by simp, by simp⟩⟩
def nums (ks : List Int) : List Value := ks.map (Value.int .i64)
theorem nums_one (ks : List Int) : ∀ u ∈ nums ks, u.oneCell' = true := ints_oneCell .i64 ks
theorem nums_len (ks : List Int) : (nums ks).length = ks.length := by simp [nums]
theorem nums_snoc (ks : List Int) (k : Int) : nums (ks ++ [k]) = nums ks ++ [.int .i64 k] := by simp [nums]
theorem nums_at {ks : List Int} {j : Nat} {k : Int} (h : ks[j]? = some k) : (nums ks)[j]? = some (.int .i64 k) := by simp [nums, h]
/-- A slice reads as numbers; as pairs. -/
def IsK (w : World) (a : Option Addr) (c : Nat) (ks : List Int) : Prop := RdS w 1 a ks.length c (nums ks)
def IsP (w : World) (a : Option Addr) (c : Nat) (l : List Pt) : Prop := RdS w 2 a l.length c (flat l)
theorem IsK.at {w : World} {a : Option Addr} {c j : Nat} {ks : List Int} {k : Int} (h : IsK w a c ks) (hj : ks[j]? = some k) : ∃ g o, a = some ⟨g, o, none⟩ ∧ w.cell? ⟨g, o + j, none⟩ = some (.int .i64 k) := h.cells j _ (nums_at hj)
theorem IsP.at {w : World} {a : Option Addr} {c j : Nat} {l : List Pt} {t : Pt} (h : IsP w a c l) (hj : l[j]? = some t) : ∃ g o, a = some ⟨g, o, none⟩ ∧ w.cell? ⟨g, o + j * 2, none⟩ = some (.int .i64 t.1) ∧ w.cell? ⟨g, o + j * 2 + 1, none⟩ = some (.int .i64 t.2) := by
  obtain ⟨g, o, ha, hc⟩ := h.cells _ _ (flat_at hj).1
  obtain ⟨g', o', ha', hc'⟩ := h.cells _ _ (flat_at hj).2
  rw [ha] at ha'
  injection ha' with ha'
  injection ha' with h1 h2
  subst h1 h2
  exact ⟨g, o, ha, hc, hc'⟩
theorem IsK.keep {S : Nat → Prop} {w w' : World} {a : Option Addr} {c : Nat} {ks : List Int} (h : IsK w a c ks) (k : Chg S w w') (hn : ∀ g, (Value.slice a ks.length c).ownBlock = some g → ¬ S g) : IsK w' a c ks := RdS.block h k hn
theorem IsP.keep {S : Nat → Prop} {w w' : World} {a : Option Addr} {c : Nat} {l : List Pt} (h : IsP w a c l) (k : Chg S w w') (hn : ∀ g, (Value.slice a l.length c).ownBlock = some g → ¬ S g) : IsP w' a c l := RdS.block h k hn
/-- A new slice of these numbers. -/
def OrdPost (w : World) (ks : List Int) (e : Ending) (w' : World) : Prop := ∃ a c, e = .returned (.slice a ks.length c) ∧ w'.ownsRow w.heap.size 2 1 (.slice a ks.length c) ks.length (nums ks) ∧ Chg (fun _ => False) w w'
/-- What an append of one number to such a slice leaves. -/
theorem nums_step {w0 wr w2 : World} {a a2 : Option Addr} {c c2 : Nat} {ks : List Int} {k : Int} (ho : wr.ownsRow w0.heap.size 2 1 (.slice a ks.length c) ks.length (nums ks)) (hg : Chg (fun _ => False) w0 wr) {o : Obj}
    (hg2 : (wr.alloc o).grownBy w2 (Value.slice a ks.length c).ownBlock) (ho2 : w2.ownsRow w0.heap.size 2 1 (.slice a2 (ks.length + 1) c2) (ks.length + 1) (nums ks ++ [.int .i64 k])) : w2.ownsRow w0.heap.size 2 1 (.slice a2 (ks ++ [k]).length c2) (ks ++ [k]).length (nums (ks ++ [k])) ∧ Chg (fun _ => False) w0 w2 := by
  refine ⟨by rw [nums_snoc, List.length_append]; exact ho2, Chg.grown (hg.alloc o) hg2 fun q hq => .inr ?_⟩
  exact (own_below ho hq).1
end Go.Proofs.Ytdoepjokaekckaa
