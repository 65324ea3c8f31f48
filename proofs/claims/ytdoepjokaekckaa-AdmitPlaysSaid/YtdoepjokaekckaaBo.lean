/- A thing that came in, opened; the law Nil as the frame calls it. -/
import Derived.Test.YtdoepjokaekckaaBn
import Derived.Test.YtdoepjokaekckaaOpen
namespace Go.Proofs.Ytdoepjokaekckaa
set_option linter.unusedVariables false
open Go.ChangeShapes Go.WideShapes Go.ChangeAt Go.RowKit Go.Deep Go.Joins

section
variable {H : Type} {enc : TypeId × Value → H} {P : Program} {w : World} {base : Nat} {spare : Nat → Bool} {held : Bool}
theorem one_str {t : TypeId} {fuel : Nat} {c : Value} {y : DataW H × List MemPlace} (ht : P.underlying t = some .string) (h : DataW.trod enc P w base spare held fuel t [c] = some y) :
    ∃ s : ByteArray, c = .string s ∧ s.size ≤ maxLen := by
  obtain ⟨s, h1, _, h2⟩ := DataW.trod_string ht h
  simp at h1
  exact ⟨s, h1, h2⟩
theorem open_tg {r : Reach} {b0 : Nat} {t : TypeId} {f0 f1 f2 f3 : Field} {v : Value} {d : DataW H} {p : List MemPlace} (hs : P.underlying t = some (.struct #[f0, f1, f2, f3])) (hone : oneCellFields P #[f0, f1, f2, f3] = true) (hC : P.cellsOf t = 4)
    (h0 : P.underlying f0.type = some (.int .i64)) (h1 : P.underlying f1.type = some (.int .i64)) (h2 : P.underlying f2.type = some .string) (h3 : P.underlying f3.type = some (.int .u64)) (hv : Value.okWide P w r b0 t v) (h : DataW.Trod enc P w base spare held t v d p) :
    ∃ (a b : Int) (s : ByteArray) (c : Int), v = .agg #[.int .i64 a, .int .i64 b, .string s, .int .u64 c] ∧ (Lit.int .i64 a).wf = true ∧ (Lit.int .i64 b).wf = true ∧ s.size ≤ maxLen ∧ (Lit.int .u64 c).wf = true := by
  obtain ⟨v0, v1, v2, v3, y0, y1, y2, y3, n, rfl, _, _, g0, g1, g2, g3⟩ := open_agg4 hs hone hC hv h
  obtain ⟨a, rfl, wa⟩ := one_int h0 g0
  obtain ⟨b, rfl, wb⟩ := one_int h1 g1
  obtain ⟨s, rfl, ws⟩ := one_str h2 g2
  obtain ⟨c, rfl, wc⟩ := one_int h3 g3
  exact ⟨a, b, s, c, rfl, wa, wb, ws, wc⟩
end
theorem admitNil_any (x n : Int) (s : ByteArray) (nm : Int) (v : Value) (l : List Int) (w : World) (hx : (Lit.int .i64 x).wf = true) (hn : (Lit.int .i64 n).wf = true) (hs : s.size ≤ maxLen) (hm : (Lit.int .u64 nm).wf = true) (hL : IsL1 .i64 w v l) :
    Calls Try.prog 7 #[.agg #[.int .i64 x, .int .i64 n, .string s, .int .u64 nm], v] w fun e w' => e = .returned (.bool true) ∧ Below w.heap.size w w' := by
  obtain ⟨_, a, c, rfl, _⟩ := hL
  refine (admitNil_walk x n s nm a l.length c w).mono ?_
  rintro e w' ⟨rfl, h⟩
  exact ⟨rfl, Chg.below h⟩
end Go.Proofs.Ytdoepjokaekckaa
