/- A name less. -/
import Derived.Test.YtpapfnfdaklnlaaDoorRm
import Derived.Test.YtpapfnfdaklnlaaDoorRn
namespace Go.Proofs.YtpapfnfdaklnlaaDoor
set_option linter.unusedVariables false
open Go.RowKit Go.Maps

section
variable {ops : Array Oper} {o : Oper} {act : Act} {w : World} {KK : Act → World → Prop} {Q : Exit → Act → World → Prop} {E : Prop}
set_option maxRecDepth 100000 in
theorem step_kdel (hg : o.guard = none) (m x : Operand) (hop : o.op = Op.call { callee := Callee.builtin Builtin.delete, args := #[m, x], argTypes := #[55, 9] }) (b N : Nat) (K : List UInt8 → Bool) (hm : act.eval m = .map (some b)) (h : KsM w b N K) (s : ByteArray) (hx : act.eval x = .string s) (hs : s.size ≤ maxLen)
    (hK : ∀ w', KsM w' b N (fun y => decide (y ≠ s.data.toList) && K y) → Chg (fun k => k = b) w w' → KK (act.put o.dst (.tuple #[])) w') : if Region.wanted o (yielded ops act.tmps) = true then Oper.wp Tryd.prog o act w KK Q else E := by
  have hw : Region.wanted o (yielded ops act.tmps) = true := by simp [Region.wanted, hg]
  rw [if_pos hw]
  obtain ⟨D, h1, hD⟩ := h
  obtain ⟨w', hrun, r1, r2⟩ := World.ownsMap.drop (key := .string s) h1 keyS (t := 55) Tryd.underlying55 (Go.WideMaps.keyOf_string_mk Tryd.underlying9 hs) o.type
  unfold Oper.wp
  simp [execOp, hop, resolve, invoke, builtin, hm, hx, hrun, Result.andThen]
  exact hK w' ⟨_, r1, hD.del _⟩ (grown_chg r2.grown (fun k hk => by injection hk with hk; exact hk.symm))
end
theorem KsM.drew {w : World} {m N : Nat} {K : List UInt8 → Bool} (h : KsM w m N K) : KsM w.drew m N K := h.block rfl
/-- A ring without a name's points. -/
theorem Rg.less {w w2 w3 : World} {b m U g cap n' : Nat} {K : List UInt8 → Bool} {L : List Pt} {nm : ByteArray} (h : Rg w b (.map (some m)) (.slice (some ⟨g, 0, none⟩) L.length cap) U K L) (hc : Chg (fun k => k = m) w w2) (hm : KsM w2 m U (fun y => decide (y ≠ nm.data.toList) && K y)) (hg : Chg (fun k => k = g) w2 w3)
    (ho : w3.ownsRow 0 63 2 (.slice (some ⟨g, 0, none⟩) n' cap) n' (flatP (L.filter (keepP nm)))) :
    Rg (w3.setCell ⟨b, 2, none⟩ (.slice (some ⟨g, 0, none⟩) n' cap)) b (.map (some m)) (.slice (some ⟨g, 0, none⟩) n' cap) U (fun y => decide (y ≠ nm.data.toList) && K y) (L.filter (keepP nm)) := by
  have hgb : b ≠ g := (h.ap g rfl).symm
  have hmb : m ≠ b := by
    obtain ⟨m', e, h1⟩ : ∃ m', Value.map (some m) = .map (some m') ∧ KsM w m' U K := by
      rcases h.mp with ⟨e, _⟩ | ⟨m', e, h1⟩
      · cases e
      · exact ⟨m', e, h1⟩
    injection e with e; injection e with e; subst e
    exact h1.cell h.c0
  have hmg : m ≠ g := by
    obtain ⟨m', e, h1⟩ : ∃ m', Value.map (some m) = .map (some m') ∧ KsM w m' U K := by
      rcases h.mp with ⟨e, _⟩ | ⟨m', e, h1⟩
      · cases e
      · exact ⟨m', e, h1⟩
    injection e with e; injection e with e; subst e
    exact fun e => h.apart h1 (by rw [e]; rfl)
  have lb := cell_lt h.c0
  have lb2 : b < w2.heap.size := Nat.lt_of_lt_of_le lb hc.size
  have lb3 : b < w3.heap.size := Nat.lt_of_lt_of_le lb2 hg.size
  have k0 := (hg.cell lb2 hgb 0).trans ((hc.cell lb hmb.symm 0).trans h.c0)
  have k1 := (hg.cell lb2 hgb 1).trans ((hc.cell lb hmb.symm 1).trans h.c1)
  have k2 := (hg.cell lb2 hgb 2).trans ((hc.cell lb hmb.symm 2).trans h.c2)
  have kf : ∀ o, w3.frozen? ⟨b, o, none⟩ = false := fun o => (hg.frozen lb2 hgb o).trans ((hc.frozen lb hmb.symm o).trans (h.fz o))
  have kc : Chg (fun i => i = b) w3 (w3.setCell ⟨b, 2, none⟩ (.slice (some ⟨g, 0, none⟩) n' cap)) := Chg.setCell (S := fun i => i = b) (p := ⟨b, 2, none⟩) (Chg.refl _ w3) (.inl rfl) _
  have hn : n' = (L.filter (keepP nm)).length := by
    have := ho.1
    rw [flatP_len] at this
    omega
  refine ⟨by go_simp, by go_simp, by go_simp, fun o => by have := kf o; go_simp, .inr ⟨m, rfl, (hm.chg hg hmg).chg kc hmb⟩, ?_, h.ap, ?_, ?_, ?_⟩
  · have := own_chg ho kc fun i _ _ hi => by
      simp [Value.ownBlock] at hi
      show ¬ i = b
      omega
    rwa [← hn]
  · exact List.Pairwise.sublist List.filter_sublist h.asc
  · intro p hp
    obtain ⟨h1, h2⟩ := List.mem_filter.1 hp
    refine ⟨?_, (h.has p h1).2⟩
    have hne : p.2 ≠ nm := by simpa [keepP] using h2
    have hne2 : p.2.data.toList ≠ nm.data.toList := fun e => hne (by
      exact bytes_inj (by rw [ByteArray.toList_eq, ByteArray.toList_eq, e]))
    simp [hne2, (h.has p h1).1]
  · have := List.length_filter_le (keepP nm) L
    have := h.len
    omega

/-- What Remove leaves, where the name was there. -/
def Removed (w w' : World) (b U : Nat) (v pv : Value) (K : List UInt8 → Bool) (L : List Pt) (nm : ByteArray) : Prop :=
  ∃ pv', Rg w' b v pv' U (fun y => decide (y ≠ nm.data.toList) && K y) (L.filter (keepP nm)) ∧ Chg (RB b v pv) w w' ∧ ∀ k, RB b v pv' k → RB b v pv k
set_option maxHeartbeats 8000000 in
set_option maxRecDepth 100000 in
theorem ring_remove (b U : Nat) (v pv : Value) (K : List UInt8 → Bool) (L : List Pt) (nm : ByteArray) (w : World) (h : Rg w b v pv U K L) (hU : U ≤ 60) (hK : K nm.data.toList = true) (hs : nm.size ≤ maxLen) (hL : 0 < L.length) :
    Calls Tryd.prog 12 #[.pointer (some ⟨b, 0, none⟩), .string nm] w fun e w' => e = .returned (.bool true) ∧ Removed w w' b U v pv K L nm := by
  obtain ⟨m, rfl, hm⟩ : ∃ m, v = .map (some m) ∧ KsM w m U K := by
    rcases h.mp with ⟨_, h1⟩ | ⟨m, h1, h2⟩
    · rw [h1] at hK; cases hK
    · exact ⟨m, h1, h2⟩
  obtain ⟨g, cap, rfl, _, hgl⟩ := h.ow.form hL
  have hlen := h.len
  have HG := Lib.hid h
  have HK := Lib.hid hK
  have HS := Lib.hid hs
  have hmb : m ≠ b := hm.cell h.c0
  have hgb : g ≠ b := h.ap g rfl
  have hml := hm.lt
  have hbl := cell_lt h.c0
  obtain ⟨B, hB⟩ : ∃ B, B = w.heap.size := ⟨_, rfl⟩
  have HBB := Lib.hid hB
  rw [← hB] at hgl hml hbl
  obtain ⟨w1, hw1⟩ : ∃ w1, w1 = w.alloc (Obj.cells #[.string nm] 9) := ⟨_, rfl⟩
  have k1 : Chg (fun _ => False) w w1 := by subst hw1; exact (by repeat (first | with_reducible exact Chg.refl _ _ | with_reducible assumption | with_reducible refine Chg.drewN ?_ _ | with_reducible refine Chg.drew ?_ | with_reducible refine Chg.alloc ?_ _ | with_reducible refine Chg.setCell ?_ (by first | (left; rfl) | (left; left; rfl) | (left; right; rfl) | (left; right; left; rfl) | (left; right; right; rfl) | (right; exact Nat.le_refl _) | (right; simp; done) | (right; omega) | (right; simp at *; omega) | (simp at *; omega)) _ | with_reducible refine Chg.trans ?_ (by with_reducible assumption) (by intro i hi hT; first | exact hT | exact False.elim hT | omega | (simp at *; omega))))
  have x1 : w1.cell? ⟨B, 0, none⟩ = some (.string nm) := by subst hw1; subst hB; go_simp
  have HG1 := Lib.hid (h.still k1)
  have c1 := HG1.out.c1
  have c2 := HG1.out.c2
  have hm1 : KsM w1 m U K := hm.chg k1 id
  have HM1 := Lib.hid hm1
  obtain ⟨cc, hrun⟩ : ∃ c, (Instr.lookup 55 (.map (some m)) (.string nm) true).run Tryd.prog w1.drew = .ok (.tuple #[.int .i64 c, .bool true]) w1.drew := by
    obtain ⟨c, hr⟩ := KsV.look (w := w1.drew) (v := .map (some m)) (.inr ⟨m, rfl, hm1.drew⟩) hs
    rw [hK] at hr
    exact ⟨c, hr⟩
  have K1 := Lib.hid k1
  clear h hK hs hm hm1 k1
  go_enter Tryd.func12, Tryd.ntmps12
  go_upto_region 1 with fail
  rw [← hw1, ← hB]
  clear hw1 hB
  go_cut [6] (fun o6 wx => o6 = .bool true ∧ Hid (Chg (fun _ => False) w1 wx))
  case first =>
    go_region
    all_goals
      go_wp2
      go_meet
      case rel => exact ⟨rfl, Lib.hid (by repeat (first | with_reducible exact Chg.refl _ _ | with_reducible assumption | with_reducible refine Chg.drewN ?_ _ | with_reducible refine Chg.drew ?_ | with_reducible refine Chg.alloc ?_ _ | with_reducible refine Chg.setCell ?_ (by first | (left; rfl) | (left; left; rfl) | (left; right; rfl) | (left; right; left; rfl) | (left; right; right; rfl) | (right; exact Nat.le_refl _) | (right; simp; done) | (right; omega) | (right; simp at *; omega) | (simp at *; omega)) _ | with_reducible refine Chg.trans ?_ (by with_reducible assumption) (by intro i hi hT; first | exact hT | exact False.elim hT | omega | (simp at *; omega))))⟩
  case rest =>
    obtain ⟨rfl, HC2⟩ := hcut
    have k2 := HC2.out
    have e1 := (k2.cell (cell_lt c1) id 1).trans c1
    have x2 := (k2.cell (cell_lt x1) id 0).trans x1
    have HG2 := Lib.hid (HG1.out.still k2)
    have HM2 := Lib.hid (HM1.out.chg k2 id)
    have hBm : B ≠ m := by omega
    have hBg : B ≠ g := by omega
    clear c1 c2 x1 hrun k2
    go_upto_region 4 with fail
    go_cut [4] (fun o4 wx => o4 = .bool false ∧ Hid (KsM wx m U (fun y => decide (y ≠ nm.data.toList) && K y)) ∧ Hid (Chg (fun k => k = m) wc wx) ∧ Hid (wx.cell? ⟨B, 0, none⟩ = some (.string nm)) ∧ Hid (Chg (fun _ => False) w wc) ∧ Hid (Rg wc b (.map (some m)) (.slice (some ⟨g, 0, none⟩) L.length cap) U K L))
    case first =>
      go_region_law (refine step_kdel (by rfl) _ _ (by rfl) m U K (by rfl) HM2.out.drew nm (by rfl) HS.out ?_; intro w4 hk4 hc4)
      all_goals
        go_wp2
        go_meet
        case rel => exact ⟨rfl, hk4, ⟨hc4.os, hc4.tape, hc4.output, hc4.size, hc4.block⟩, (hc4.cell (b := B) (cell_lt x2) hBm 0).trans x2, K1.out.trans HC2.out fun _ _ e => e, HG2.out⟩
    case rest =>
      obtain ⟨rfl, HM4, HC4, HX4, HK4, HG4⟩ := hcut
      have s4 := HC4.out.size
      have b4 := (HC4.out.cell (cell_lt HG4.out.c2) hmb.symm 2).trans HG4.out.c2
      have f4 : ∀ o, wc.frozen? ⟨b, o, none⟩ = false := fun o => (HC4.out.frozen (cell_lt HG4.out.c2) hmb.symm o).trans (HG4.out.fz o)
      have hapm : ¬ g = m := by
        have h1 : KsM _ m U K := HM2.out
        exact fun e => HG4.out.apart h1 (by rw [← e]; rfl)
      have o4 := own_chg HG4.out.ow HC4.out fun i _ _ hi => by
        simp [Value.ownBlock] at hi
        show ¬ i = m
        omega
      have HO4 := Lib.hid o4
      clear o4 e1 x2
      go_wp2_with fail
      refine (delete_pts 0 g cap L.length L B nm _ rfl (by omega) HO4.out HX4.out hBg).mono ?_
      rintro e w5 ⟨⟨n', rfl, hn', o5⟩, k5⟩
      have b5 := (k5.cell (cell_lt b4) hgb.symm 2).trans b4
      have f5 : ∀ o, w5.frozen? ⟨b, o, none⟩ = false := fun o => (k5.frozen (cell_lt b4) hgb.symm o).trans (f4 o)
      have HF := Lib.hid (HG4.out.less HC4.out HM4.out k5 o5)
      have HQ : Hid (Chg (RB b (.map (some m)) (.slice (some ⟨g, 0, none⟩) L.length cap)) w w5) := by
        have q1 : Chg (RB b (.map (some m)) (.slice (some ⟨g, 0, none⟩) L.length cap)) w wc := HK4.out.mono (fun _ _ e => e.elim) |>.trans HC4.out fun i _ e => .inr (.inl (by have e : i = m := e; rw [e]))
        exact q1.trans k5 fun i _ e => .inr (.inr (by have e : i = g := e; rw [e]; rfl))
      clear b4 f4 o5 k5
      go_wp2
      go_ret
      exact ⟨rfl, _, HF.out, HQ.out.setCell (.inl (.inl rfl)) _, fun k hk => hk⟩
end Go.Proofs.YtpapfnfdaklnlaaDoor
