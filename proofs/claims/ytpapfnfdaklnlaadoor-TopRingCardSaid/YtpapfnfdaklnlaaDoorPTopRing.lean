/-
  The law TopRing of mandolinetop, as a tied card: for every input the call returns true, and each argument reads behind the call as it read before. No condition but what the card ties to the program's text.
-/
import Derived.Test.YtpapfnfdaklnlaaDoorRt
import Derived.Test.YtpapfnfdaklnlaaDoorOpen
import Derived.Test.YtpapfnfdaklnlaaDoorCards
import Derived.Test.YtpapfnfdaklnlaaDoorTie
import Derived.ProofKit
import Derived.Deep.DeepHandedRow
import Derived.LaidMore
import Derived.Lib.LaidTab
import Derived.SevenTiedAt
import Derived.SliceStrings
namespace Go.Proofs.YtpapfnfdaklnlaaDoor.topRing
set_option linter.unusedVariables false
open Go.ChangeShapes Go.WideShapes Go.ChangeAt Go.RowKit

theorem own : ownKnob Tryd.prog.godebug = none := by kernel_rfl
theorem laidOut : laidOutB Tryd.prog = true := by kernel_rfl

section
variable {H : Type} {enc : TypeId × Value → H} {P : Program} {w : World} {base : Nat} {spare : Nat → Bool} {held : Bool}
theorem open_row1 {r : Reach} {b0 : Nat} {t e : TypeId} {k0 : IntKind} {v : Value} {d : DataW H} {p : List MemPlace} (ht : P.underlying t = some (.slice e)) (he : P.underlying e = some (.int k0)) (hE : P.cellsOf e = 1)
    (hv : Value.okWide P w r b0 t v) (h : DataW.Trod enc P w base spare held t v d p) : ∃ (a : Option Addr) (cap : Nat) (xs : List Int), v = .slice a xs.length cap ∧ xs.length ≤ cap ∧ cap ≤ 9223372036854775807 ∧ (∀ x ∈ xs, (Lit.int k0 x).wf = true) ∧
      (∀ (i : Nat) x, xs[i]? = some x → ∃ b off, a = some ⟨b, off, none⟩ ∧ b < w.heap.size ∧ ∀ (j : Nat) y, xs[j]? = some y → w.cell? ⟨b, off + j, none⟩ = some (.int k0 y)) := by
  obtain ⟨a0, len, cap, rfl⟩ := okWide_slice ht hv
  obtain ⟨fuel, hf⟩ := h
  rcases open_ints ht he hE hf with ⟨hcs, _⟩ | ⟨x, l, c, zs, hcs, _, hl, hm, hz, _, hcell, hwz⟩
  · simp [Value.cells] at hcs
    obtain ⟨rfl, rfl, rfl⟩ := hcs
    exact ⟨none, 0, [], rfl, by simp, by omega, by simp, by simp⟩
  · simp [Value.cells] at hcs
    obtain ⟨rfl, rfl, rfl⟩ := hcs
    have hlz : len ≤ zs.length := by rw [hz]; split <;> omega
    unfold maxLen at hm
    refine ⟨some x, cap, zs.take len, by simp [Nat.min_eq_left hlz], by simp; omega, by omega, fun n hn => hwz n (List.mem_of_mem_take hn), fun i y hy => ?_⟩
    have h0' : 0 < zs.length := by
      have := (List.getElem?_eq_some_iff.1 hy).1
      simp at this; omega
    have hc0 := hcell 0 h0'
    obtain ⟨b, off, hx⟩ := block_of hc0
    have hxs : x.spot = none := by simpa [Addr.add] using World.cell?_spot hc0
    obtain ⟨xb, xo, xsp⟩ := x
    simp only at hxs
    subst hxs
    refine ⟨xb, xo, rfl, ?_, fun i y hy => ?_⟩
    · simp [Addr.add] at hc0; exact cell_lt hc0
    · have hi : i < len := by
        have := (List.getElem?_eq_some_iff.1 hy).1
        simp at this; omega
      have hc := hcell i (by omega)
      have e1 : (⟨xb, xo, none⟩ : Addr).add i = ⟨xb, xo + i, none⟩ := by unfold Addr.add; by_cases h : i = 0 <;> simp [h]
      rw [e1] at hc
      rw [hc]
      rw [List.getElem?_take] at hy
      simp [hi] at hy
      simp [hy]
theorem open_texts {r : Reach} {b0 : Nat} {t e : TypeId} {v : Value} {d : DataW H} {p : List MemPlace} (ht : P.underlying t = some (.slice e)) (he : P.underlying e = some .string) (hE : P.cellsOf e = 1)
    (hv : Value.okWide P w r b0 t v) (h : DataW.Trod enc P w base spare held t v d p) : ∃ (a : Option Addr) (cap : Nat) (xs : List ByteArray), v = .slice a xs.length cap ∧ xs.length ≤ cap ∧ cap ≤ 9223372036854775807 ∧
      (∀ (i : Nat) x, xs[i]? = some x → ∃ b off, a = some ⟨b, off, none⟩ ∧ b < w.heap.size ∧ ∀ (j : Nat) y, xs[j]? = some y → w.cell? ⟨b, off + j, none⟩ = some (.string y)) := by
  obtain ⟨a0, len, cap, rfl⟩ := okWide_slice ht hv
  obtain ⟨fuel, hf⟩ := h
  rcases open_strings ht he hE hf with ⟨hcs, _⟩ | ⟨x, l, c, zs, hcs, _, hl, hm, hz, _, hcell, _⟩
  · simp [Value.cells] at hcs
    obtain ⟨rfl, rfl, rfl⟩ := hcs
    exact ⟨none, 0, [], rfl, by simp, by omega, by simp⟩
  · simp [Value.cells] at hcs
    obtain ⟨rfl, rfl, rfl⟩ := hcs
    have hlz : len ≤ zs.length := by rw [hz]; split <;> omega
    unfold maxLen at hm
    refine ⟨some x, cap, zs.take len, by simp [Nat.min_eq_left hlz], by simp; omega, by omega, fun i y hy => ?_⟩
    have h0' : 0 < zs.length := by
      have := (List.getElem?_eq_some_iff.1 hy).1
      simp at this; omega
    have hc0 := hcell 0 h0'
    obtain ⟨b, off, hx⟩ := block_of hc0
    have hxs : x.spot = none := by simpa [Addr.add] using World.cell?_spot hc0
    obtain ⟨xb, xo, xsp⟩ := x
    simp only at hxs
    subst hxs
    refine ⟨xb, xo, rfl, ?_, fun i y hy => ?_⟩
    · simp [Addr.add] at hc0; exact cell_lt hc0
    · have hi : i < len := by
        have := (List.getElem?_eq_some_iff.1 hy).1
        simp at this; omega
      have hc := hcell i (by omega)
      have e1 : (⟨xb, xo, none⟩ : Addr).add i = ⟨xb, xo + i, none⟩ := by unfold Addr.add; by_cases h : i = 0 <;> simp [h]
      rw [e1] at hc
      rw [hc]
      rw [List.getElem?_take] at hy
      simp [hi] at hy
      simp [hy]
end

set_option maxRecDepth 100000 in
/-- What the walk gives, for every argument. -/
theorem contract (H : Type) (enc : TypeId × Value → H) (W : World) (base : Nat) (args : Array Value) (ds gs : List (DataW H)) (before : List MemPlace)
    (hval : ∀ (j : Nat) t v, Tryd.f4.params[j]? = some t → args[j]? = some v → Value.okWide Tryd.prog W .any base t v)
    (hW : DataW.Whole enc Tryd.prog Tryd.f4.params.toList Rows.topRingSpec.vars false W args.toList ds gs before) :
    Calls Tryd.prog 4 args W fun e W' => ∃ v, e = .returned v ∧ Rows.topRingSpec.post enc Tryd.prog Tryd.f4 false true false false W args v W' := by
  have hW' := hW
  obtain ⟨p, q, hA0, hV, rfl, hfz, hnd⟩ := hW
  have hA : DataW.TrodAll enc Tryd.prog W 0 (fun _ => true) true Tryd.f4.params.toList args.toList ds p := hA0
  rw [Tryd.params4] at hA hval
  obtain ⟨v0, vs0, d0, ds0, p0, q_0, hargs, rfl, rfl, h0, r0⟩ := trodAll_cons hA
  obtain ⟨v1, vs1, d1, ds1, p1, q_1, rfl, rfl, rfl, h1, r1⟩ := trodAll_cons r0
  obtain ⟨v2, vs2, d2, ds2, p2, q_2, rfl, rfl, rfl, h2, r2⟩ := trodAll_cons r1
  obtain ⟨rfl, rfl, rfl⟩ := trodAll_nil r2
  obtain rfl : args = #[v0, v1, v2] := by cases args; simp_all
  obtain ⟨rfl, rfl⟩ := trodVars_none hV
  have k0 := h0
  have lt0 : ∀ x ∈ p0, x.block < W.heap.size := by obtain ⟨m, hm⟩ := k0; exact DataW.trod_lt m _ _ _ hm
  have k1 := h1
  have lt1 : ∀ x ∈ p1, x.block < W.heap.size := by obtain ⟨m, hm⟩ := k1; exact DataW.trod_lt m _ _ _ hm
  have k2 := h2
  have lt2 : ∀ x ∈ p2, x.block < W.heap.size := by obtain ⟨m, hm⟩ := k2; exact DataW.trod_lt m _ _ _ hm
  clear hA0
  obtain ⟨a, cap, xs, rfl, hcap, hm, hwf, hc⟩ := open_row1 (k0 := .u8) Tryd.underlying32 Tryd.underlying5 (by kernel_rfl) (hval 0 32 v0 rfl rfl) h0
  obtain ⟨a1, rfl, _, _, w1⟩ := open_int Tryd.underlying5 (hval 1 5 v1 rfl rfl) h1
  obtain ⟨ao, capo, ss, rfl, hcapo, hmo, hco⟩ := open_texts Tryd.underlying33 Tryd.underlying9 (by kernel_rfl) (hval 2 33 v2 rfl rfl) h2
  refine (topRing_any a cap xs a1 ao capo ss W (fun x hx => by have := hwf x hx; simp [Lit.wf, IntKind.min, IntKind.max, IntKind.signed, IntKind.bits] at this; omega) hcap hm (by simp [Lit.wf, IntKind.min, IntKind.max, IntKind.signed, IntKind.bits] at w1; omega) hcapo hmo hc hco).mono fun e W' ⟨he, bel⟩ => ?_
  subst he
  exact ⟨_, rfl, _, _, _, [], _, [], hW', trodAll_mk1 (shut_bool Tryd.underlying4 _), (trodAll_cons_mk (Below.trod laidOut (by kernel_rfl) (of_decide_eq_true (by kernel_rfl)) k0 bel lt0) (trodAll_cons_mk (Below.trod laidOut (by kernel_rfl) (of_decide_eq_true (by kernel_rfl)) k1 bel lt1) (trodAll_cons_mk (Below.trod laidOut (by kernel_rfl) (of_decide_eq_true (by kernel_rfl)) k2 bel lt2) trodAll_mk0))), rfl, bel.frame _, fun h => by cases h⟩

theorem laid_met (os : Os) : laidMet Tryd.prog Rows.topRingRow.laid (((World.doorLaid Tryd.prog 24 os)).forCall (fun _ _ => 0) ⟨#[], #[.slice none 0 0, .int .u8 0, .slice none 0 0], []⟩).memory :=
  laidMet_of_run' 8 (by kernel_rfl) (by kernel_rfl)
theorem reads (os : Os) {H : Type} (enc : TypeId × Value → H) : ∃ places, DataW.whole enc Tryd.prog ((World.doorLaid Tryd.prog 24 os).forCall (fun _ _ => 0) ⟨#[], #[.slice none 0 0, .int .u8 0, .slice none 0 0], []⟩).memory Tryd.f4.params.toList Rows.topRingSpec.vars false #[Value.slice none 0 0, .int .u8 0, .slice none 0 0].toList 8 = some ([.nil, .lit (.int .u8 0), .nil], [], places) :=
  ⟨[], by kernel_rfl⟩

set_option maxRecDepth 100000 in
theorem lifted (os : Os) (started : os.Started) (H : Type) (enc : TypeId × Value → H) (F : Stop.Interp) :
    ReturnsInHanded {} Tryd.checked os 4 .any ((OpenSpec.ofChange Rows.topRingSpec).preRow enc Tryd.prog Tryd.f4 Rows.topRingRow.domain false Rows.topRingRow.laid) (((OpenSpec.ofChange Rows.topRingSpec).at F).post enc Tryd.prog Tryd.f4 false true false false) := by
  obtain ⟨places, hx⟩ := reads os enc
  refine returnsInHanded_of_row (C := Tryd.checked) (s := OpenSpec.ofChange Rows.topRingSpec) own started (by kernel_rfl) Tryd.func4
    (witness_row_at (enc := enc) (C := Tryd.checked) false (World.doorLaid Tryd.prog 24 os) #[.slice none 0 0, .int .u8 0, .slice none 0 0] rfl (by kernel_rfl) (by kernel_rfl) (by kernel_rfl)
      (OpenSpec.preRow_of_cond 8 hx (by kernel_rfl) (fun k hk => by cases hk) (by kernel_rfl) (laid_met os))) ?_
  intro W base args ds gs before hval hW _ _ _ _ _ _
  exact contract H enc W base args ds gs before hval hW

theorem said : Rows.TopRingSaid :=
  OpenClaim.holds_of_cond 4 Tryd.f4 rfl rfl rfl rfl rfl rfl rfl ⟨rfl, rfl, rfl, rfl, rfl⟩ rfl rfl rfl rfl rfl (by kernel_rfl) Tryd.func4 (by kernel_rfl)
    (of_decide_eq_true (by kernel_rfl)) (by unfold Func.isWrapper; first | (rw [if_pos (by decide +kernel)]; kernel_rfl) | (rw [if_neg (by decide +kernel)]; exact ⟨rfl, rfl⟩))
    (fun os started H enc _ F => by rw [OpenClaim.pre_eq_preRow]; exact lifted os started H enc F)

theorem plain (f : FuncId) (fn : Func) (hf : Tryd.pinned.checked.prog.funcNamed "mandoline/mandolinetop.TopRing" = some f) (hfn : Tryd.pinned.checked.prog.funcs[f]? = some fn) :
    false = Tryd.pinned.checked.prog.looks [] ∧ ∀ (j : Nat) t, fn.params[j]? = some t → Tryd.pinned.checked.prog.wantsStandIn t = false := by
  obtain rfl : f = 4 := Option.some.inj ((show Tryd.prog.funcNamed "mandoline/mandolinetop.TopRing" = some 4 by kernel_rfl).symm.trans hf) |>.symm
  obtain rfl : fn = Tryd.f4 := (Option.some.inj (Tryd.func4.symm.trans hfn)).symm
  refine ⟨by kernel_rfl, fun j t ht => ?_⟩
  rw [Tryd.params4] at ht
  have hm : t ∈ [32, 5, 33] := by simpa using Array.mem_of_getElem? ht
  have hall : ([32, 5, 33].all fun u => !Tryd.prog.wantsStandIn u) = true := by kernel_rfl
  exact (show Tryd.prog.wantsStandIn t = false by simpa using List.all_eq_true.1 hall t hm)

theorem proved : Rows.TopRingCardSaid :=
  Claim7.holds_tied_plain_at .later [] _ _ _ _ said (fun _ h => by cases h) (by kernel_rfl) (fun _ h => by cases h) topRing_row_tie rfl ⟨rfl, rfl⟩ (by kernel_rfl) rfl plain (by kernel_rfl)
end Go.Proofs.YtpapfnfdaklnlaaDoor.topRing
