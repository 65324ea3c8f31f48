/- A slice of acts that came in, opened; the room of their held numbers. -/
import Derived.Test.YtdoepjokaekckaaBo
import Derived.SizedLaws
namespace Go.Proofs.Ytdoepjokaekckaa
set_option linter.unusedVariables false
open Go.ChangeShapes Go.WideShapes Go.ChangeAt Go.RowKit Go.Deep Go.Joins

/-- Kind, thing, held. -/
abbrev Av := Int × Tg × List Int
/-- A slice of numbers that came in, within another: only read. -/
def IsHd (w : World) (v : Value) (hs : List Int) : Prop := ∃ a c, v = .slice a hs.length c ∧ hs.length ≤ c ∧ c ≤ maxLen ∧ (a = none → hs.length = 0 ∧ c = 0) ∧ IsH w a hs
/-- The numbers themselves: each fits, and so many that they take no more than may be. -/
def HsOk (hs : List Int) : Prop := (∀ y ∈ hs, (Lit.int .i64 y).wf = true) ∧ hs.length * 8 ≤ reachBytes
def TgOk (t : Tg) : Prop := (Lit.int .i64 t.1).wf = true ∧ (Lit.int .i64 t.2.1).wf = true ∧ t.2.2.1.size ≤ maxLen ∧ (Lit.int .u64 t.2.2.2).wf = true
/-- A slice that came in reads as a list of acts. -/
def IsLA (w : World) (v : Value) (xs : List Av) : Prop :=
  (∀ x ∈ xs, (Lit.int .i64 x.1).wf = true ∧ TgOk x.2.1 ∧ HsOk x.2.2) ∧
  ∃ a cap, v = .slice a xs.length cap ∧ xs.length ≤ 9223372036854775807 ∧ (0 < xs.length → ∃ b off, a = some ⟨b, off, none⟩ ∧ b < w.heap.size ∧ ∀ (i : Nat) x, xs[i]? = some x → w.cell? ⟨b, off + i * 6, none⟩ = some (.int .i64 x.1) ∧ w.cell? ⟨b, off + i * 6 + 1, none⟩ = some (.int .i64 x.2.1.1) ∧ w.cell? ⟨b, off + i * 6 + 2, none⟩ = some (.int .i64 x.2.1.2.1) ∧ w.cell? ⟨b, off + i * 6 + 3, none⟩ = some (.string x.2.1.2.2.1) ∧ w.cell? ⟨b, off + i * 6 + 4, none⟩ = some (.int .u64 x.2.1.2.2.2) ∧ ∃ h, w.cell? ⟨b, off + i * 6 + 5, none⟩ = some h ∧ IsHd w h x.2.2)
theorem IsLA.at {w : World} {a : Option Addr} {n cap : Nat} {xs : List Av} (h : IsLA w (.slice a n cap) xs) {i : Nat} {x : Av} (hi : xs[i]? = some x) : ∃ b off, a = some ⟨b, off, none⟩ ∧ b < w.heap.size ∧ w.cell? ⟨b, off + i * 6, none⟩ = some (.int .i64 x.1) ∧ w.cell? ⟨b, off + i * 6 + 1, none⟩ = some (.int .i64 x.2.1.1) ∧ w.cell? ⟨b, off + i * 6 + 2, none⟩ = some (.int .i64 x.2.1.2.1) ∧ w.cell? ⟨b, off + i * 6 + 3, none⟩ = some (.string x.2.1.2.2.1) ∧ w.cell? ⟨b, off + i * 6 + 4, none⟩ = some (.int .u64 x.2.1.2.2.2) ∧ ∃ ha hc, w.cell? ⟨b, off + i * 6 + 5, none⟩ = some (.slice ha x.2.2.length hc) ∧ (x.2.2.length ≤ hc ∧ hc ≤ maxLen ∧ (ha = none → x.2.2.length = 0 ∧ hc = 0)) ∧ IsH w ha x.2.2 := by
  obtain ⟨_, a', cap', e, _, h1⟩ := h
  injection e with e1 e2 e3
  subst e1
  have hl := (List.getElem?_eq_some_iff.1 hi).1
  obtain ⟨b, off, rfl, hb, hc⟩ := h1 (by omega)
  obtain ⟨q0, q1, q2, q3, q4, h, q5, ha, hc, rfl, q6, q7, q8, q9⟩ := hc i x hi
  exact ⟨b, off, rfl, hb, q0, q1, q2, q3, q4, ha, hc, q5, ⟨q6, q7, q8⟩, q9⟩
theorem weights_all {H : Type} {P : Program} {e : TypeId} : ∀ {l : List (DataW H)} {x : DataW H}, x ∈ l → ∀ n ∈ x.weights P e, n ∈ DataW.weightsAll P e l
  | y :: r, x, hx, n, hn => by
    simp only [DataW.weightsAll, List.mem_append]
    rcases List.mem_cons.1 hx with rfl | hx
    · exact .inl hn
    · exact .inr (weights_all hx n hn)
section
variable {H : Type} {enc : TypeId × Value → H} {P : Program} {w : World} {base : Nat} {spare : Nat → Bool} {held : Bool}
/-- A cell that reads as a slice of numbers. -/
theorem open_held {t e : TypeId} {fuel : Nat} {c : Value} {x : DataW H × List MemPlace} (ht : P.underlying t = some (.slice e)) (he : P.underlying e = some (.int .i64)) (hE : P.cellsOf e = 1) (hB : P.bytesOf e = 8)
    (hf : DataW.trod enc P w base spare held fuel t [c] = some x) : ∃ hs, IsHd w c hs ∧ (∀ y ∈ hs, (Lit.int .i64 y).wf = true) ∧ (0 < hs.length → hs.length * 8 ≤ 9223372036854775808 * 8) ∧ ((∀ n ∈ x.1.weights P t, n ≤ reachBytes) → hs.length * 8 ≤ reachBytes) := by
  rcases open_ints ht he hE hf with ⟨hcs, _⟩ | ⟨a, l, cap, zs, hcs, _, hl, hm, hz, hx, hcell, hwz⟩
  · simp at hcs
    subst hcs
    exact ⟨[], ⟨none, 0, rfl, Nat.le_refl _, by unfold maxLen; omega, fun _ => ⟨rfl, rfl⟩, fun j y hj => by cases hj⟩, by simp, by simp, by simp⟩
  · simp at hcs
    subst hcs
    have hlz : l ≤ zs.length := by rw [hz]; split <;> omega
    have hlen : (zs.take l).length = l := by simp [Nat.min_eq_left hlz]
    refine ⟨zs.take l, ⟨some a, cap, by rw [hlen], by rw [hlen]; exact hl, hm, (fun h => by cases h), fun j y hj => ?_⟩, fun n hn => hwz n (List.mem_of_mem_take hn), fun _ => by rw [hlen]; unfold maxLen at hm; omega, fun hw => ?_⟩
    · have hi : j < l := by have := (List.getElem?_eq_some_iff.1 hj).1; omega
      have hc := hcell j (by omega)
      have hc0 := hcell 0 (by omega)
      have hxs : a.spot = none := by simpa [Addr.add] using World.cell?_spot hc0
      obtain ⟨xb, xo, xsp⟩ := a
      simp only at hxs
      subst hxs
      rw [addr_add] at hc
      refine ⟨xb, xo, rfl, ?_⟩
      rw [hc]
      rw [List.getElem?_take, if_pos hi] at hj
      simp [hj]
    · have h1 := hw (((lits (H := H) .i64 (zs.take l)).length + (lits (H := H) .i64 (zs.drop l)).length) * P.bytesOf e) (by rw [hx]; simp only [DataW.weights, ht]; exact List.mem_cons_self)
      rw [hB] at h1
      have h2 : (lits (H := H) .i64 (zs.take l)).length = (zs.take l).length := by simp [lits]
      rw [h2] at h1
      exact Nat.le_trans (Nat.mul_le_mul_right 8 (Nat.le_add_right _ _)) h1
theorem cells_drop {cs : List Value} {i n : Nat} {L : List Value} (h : (cs.drop i).take n = L) {j : Nat} {v : Value} (hv : L[j]? = some v) : cs[i + j]? = some v := by
  subst h
  rw [List.getElem?_take] at hv
  split at hv
  · rw [List.getElem?_drop] at hv; exact hv
  · cases hv
set_option maxHeartbeats 1000000 in
theorem open_acts {r : Reach} {b0 : Nat} {t e e2 : TypeId} {f0 f1 f2 g0 g1 g2 g3 : Field} {v : Value} {d : DataW H} {p : List MemPlace} {ts : List TypeId} {ds : List (DataW H)} {jj : Nat}
    (ht : P.underlying t = some (.slice e)) (he : P.underlying e = some (.struct #[f0, f1, f2])) (hC : P.cellsOf e = 6)
    (o0 : f0.offset = 0 ∧ P.cellsOf f0.type = 1) (o1 : f1.offset = 1 ∧ P.cellsOf f1.type = 4) (o2 : f2.offset = 5 ∧ P.cellsOf f2.type = 1)
    (u0 : P.underlying f0.type = some (.int .i64)) (u1 : P.underlying f1.type = some (.struct #[g0, g1, g2, g3])) (u2 : P.underlying f2.type = some (.slice e2))
    (hone : oneCellFields P #[g0, g1, g2, g3] = true) (h0 : P.underlying g0.type = some (.int .i64)) (h1 : P.underlying g1.type = some (.int .i64)) (h2 : P.underlying g2.type = some .string) (h3 : P.underlying g3.type = some (.int .u64))
    (he2 : P.underlying e2 = some (.int .i64)) (hE : P.cellsOf e2 = 1) (hB : P.bytesOf e2 = 8)
    (hv : Value.okWide P w r b0 t v) (h : DataW.Trod enc P w base spare held t v d p) (hz : (DataW.weightsEach P ts ds).all (· ≤ reachBytes) = true) (htj : ts[jj]? = some t) (hdj : ds[jj]? = some d) : ∃ xs, IsLA w v xs := by
  obtain ⟨a0, len, cap, rfl⟩ := okWide_slice ht hv
  obtain ⟨fuel, hf⟩ := h
  rcases open_slice ht hf with ⟨hcs, _⟩ | ⟨a, l, c, m, n, D, Pl, hcs, hb, hl, hm, hmm, hx, hel⟩
  · simp [Value.cells] at hcs
    obtain ⟨rfl, rfl, rfl⟩ := hcs
    exact ⟨[], by simp, none, 0, rfl, by simp, by simp⟩
  · simp [Value.cells] at hcs
    obtain ⟨rfl, rfl, rfl⟩ := hcs
    unfold maxLen at hm
    have hd : d = .slice ((List.range len).map D) ((List.range (m - len)).map fun j => D (len + j)) := congrArg Prod.fst hx
    rw [hC] at hel
    have hall : ∀ n, n ∈ d.weights P t → n ≤ reachBytes := fun n hn => by
      have := List.all_eq_true.1 hz n (DataW.weights_mem_each htj hdj n hn)
      simpa using this
    have spot : 0 < len → a.spot = none := fun hp => by
      obtain ⟨cs', hc, _⟩ := hel 0 (by rw [hmm]; split <;> omega)
      obtain ⟨_, hcl, hat⟩ := World.cells?_some hc
      have h9 := hat 0 (by omega)
      rw [List.getElem?_eq_getElem (by omega)] at h9
      have := World.cell?_spot h9
      rw [show (0 : Nat) * 6 = 0 from rfl] at this
      simpa [Addr.add] using this
    obtain ⟨xs, hlen, hxs⟩ := list_of (fun i (x : Av) => (w.cell? (a.add (i * 6)) = some (.int .i64 x.1) ∧ w.cell? (a.add (i * 6 + 1)) = some (.int .i64 x.2.1.1) ∧ w.cell? (a.add (i * 6 + 2)) = some (.int .i64 x.2.1.2.1) ∧ w.cell? (a.add (i * 6 + 3)) = some (.string x.2.1.2.2.1) ∧ w.cell? (a.add (i * 6 + 4)) = some (.int .u64 x.2.1.2.2.2) ∧ ∃ h, w.cell? (a.add (i * 6 + 5)) = some h ∧ IsHd w h x.2.2) ∧ (Lit.int .i64 x.1).wf = true ∧ TgOk x.2.1 ∧ HsOk x.2.2) len (fun i hi => by
      obtain ⟨cs', hc, ht'⟩ := hel i (by rw [hmm]; split <;> omega)
      obtain ⟨ys, n', hn', hy, hlen, hyl, hf⟩ := DataW.trod_struct he ht'
      have hyl : ys.length = 3 := hyl
      match ys, hyl with
      | [y0, y1, y2], _ =>
      obtain ⟨_, hcl, hat⟩ := World.cells?_some hc
      match cs', hcl with
      | [c0, c1, c2, c3, c4, c5], _ =>
      have k0 := hf 0 f0 rfl
      have k1 := hf 1 f1 rfl
      have k2 := hf 2 f2 rfl
      rw [o0.1, o0.2] at k0
      rw [o1.1, o1.2] at k1
      rw [o2.1, o2.2] at k2
      have k0 : DataW.trod enc P w base spare held n' f0.type [c0] = some y0 := k0
      have k1 : DataW.trod enc P w base spare held n' f1.type [c1, c2, c3, c4] = some y1 := k1
      have k2 : DataW.trod enc P w base spare held n' f2.type [c5] = some y2 := k2
      obtain ⟨kd, rfl, wk⟩ := one_int u0 k0
      obtain ⟨zs, n2, _, _, _, hzl, hg⟩ := DataW.trod_struct u1 k1
      have hzl : zs.length = 4 := hzl
      match zs, hzl with
      | [z0, z1, z2, z3], _ =>
      have m0 := hg 0 g0 rfl
      have m1 := hg 1 g1 rfl
      have m2 := hg 2 g2 rfl
      have m3 := hg 3 g3 rfl
      obtain ⟨p0, r0⟩ := hone_of hone 0 g0 rfl
      obtain ⟨p1, r1⟩ := hone_of hone 1 g1 rfl
      obtain ⟨p2, r2⟩ := hone_of hone 2 g2 rfl
      obtain ⟨p3, r3⟩ := hone_of hone 3 g3 rfl
      rw [p0, r0] at m0
      rw [p1, r1] at m1
      rw [p2, r2] at m2
      rw [p3, r3] at m3
      obtain ⟨x, rfl, wx⟩ := one_int (c := c1) (y := z0) h0 m0
      obtain ⟨b, rfl, wb⟩ := one_int (c := c2) (y := z1) h1 m1
      obtain ⟨s, rfl, wS⟩ := one_str (c := c3) (y := z2) h2 m2
      obtain ⟨nm, rfl, wn⟩ := one_int (c := c4) (y := z3) h3 m3
      obtain ⟨hs, q1, q2, _, q4⟩ := open_held u2 he2 hE hB k2
      have hDi : D i = .agg [y0.1, y1.1, y2.1] := congrArg Prod.fst hy
      have hw5 : ∀ n ∈ y2.1.weights P f2.type, n ≤ reachBytes := fun n hn => by
        refine hall n ?_
        rw [hd]
        simp only [DataW.weights, ht]
        refine List.mem_cons_of_mem _ (List.mem_append_left _ (weights_all (x := D i) (List.mem_map.2 ⟨i, List.mem_range.2 hi, rfl⟩) n ?_))
        rw [hDi]
        simp only [DataW.weights, he]
        exact DataW.weights_mem_each (j := 2) (t := f2.type) (d := y2.1) rfl rfl n hn
      have g0' := hat 0 (by omega)
      have g1' := hat 1 (by omega)
      have g2' := hat 2 (by omega)
      have g3' := hat 3 (by omega)
      have g4' := hat 4 (by omega)
      have g5' := hat 5 (by omega)
      rw [Go.Deep.add_add] at g0' g1' g2' g3' g4' g5'
      exact ⟨(kd, (x, b, s, nm), hs), ⟨g0', g1', g2', g3', g4', c5, g5', q1⟩, wk, ⟨wx, wb, wS, wn⟩, q2, q4 hw5⟩)
    refine ⟨xs, fun y hy => ?_, some a, cap, by rw [hlen], by omega, fun hp => ?_⟩
    · obtain ⟨i, hi⟩ := List.getElem?_of_mem hy
      exact (hxs i y hi).2
    · have hsp := spot (by omega)
      obtain ⟨xb, xo, xsp⟩ := a
      simp only at hsp
      subst hsp
      have q0 := (hxs 0 _ (List.getElem?_eq_getElem hp)).1.1
      rw [addr_add] at q0
      refine ⟨xb, xo, rfl, cell_lt q0, fun i y hy => ?_⟩
      have q := (hxs i y hy).1
      rw [addr_add, addr_add, addr_add, addr_add, addr_add, addr_add] at q
      exact q
end
end Go.Proofs.Ytdoepjokaekckaa
