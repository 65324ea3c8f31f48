/- A name more. -/
import Derived.Test.YtpapfnfdaklnlaaDoorRm
import Derived.Test.YtpapfnfdaklnlaaDoorRf
import Derived.Test.YtpapfnfdaklnlaaDoorRg
import Derived.Test.YtpapfnfdaklnlaaDoorSh
import Derived.Deep.CutBlock
namespace Go.Proofs.YtpapfnfdaklnlaaDoor
set_option linter.unusedVariables false
open Go.RowKit

section
variable {P : Program} {ops : Array Oper} {o : Oper} {act : Act} {w : World} {K : Act → World → Prop} {Q : Exit → Act → World → Prop} {E : Prop}
/-- A call of a Go function, at a step of a region that draws its order. -/
theorem step_calls {f : FuncId} {args : Array Value} (hgd : o.guard = none) (hrun : (execOp act.eval o).run P w = .ok (.enter f args) w) (h : Calls P f args w fun e w' => ∃ v, e = .returned v ∧ K (act.put o.dst v) w') : if Region.wanted o (yielded ops act.tmps) = true then Oper.wp P o act w K Q else E := by
  have hw : Region.wanted o (yielded ops act.tmps) = true := by simp [Region.wanted, hgd]
  rw [if_pos hw]
  unfold Oper.wp
  rw [hrun]
  show Calls P f args w _
  refine h.mono fun e w' he => ?_
  obtain ⟨v, rfl, hk⟩ := he
  exact hk
end
theorem Rg.named {w : World} {b U : Nat} {pv : Value} {K : List UInt8 → Bool} {L : List Pt} (h : Rg w b (.map none) pv U K L) :
    Rg ((w.setCell ⟨b, 1, none⟩ (.map (some w.heap.size))).alloc (.map #[] 0)) b (.map (some w.heap.size)) pv U K L ∧ Chg (RB b (.map none) pv) w ((w.setCell ⟨b, 1, none⟩ (.map (some w.heap.size))).alloc (.map #[] 0)) := by
  have c0 := h.c0
  have c1 := h.c1
  have c2 := h.c2
  have cf := h.fz
  have lb := cell_lt c0
  have k1 : Chg (fun i => i = b) w (w.setCell ⟨b, 1, none⟩ (.map (some w.heap.size))) := Chg.setCell (S := fun i => i = b) (p := ⟨b, 1, none⟩) (Chg.refl _ _) (.inl rfl) _
  have k2 : Chg (fun i => i = b) w ((w.setCell ⟨b, 1, none⟩ (.map (some w.heap.size))).alloc (.map #[] 0)) := k1.alloc _
  have hm : KsM ((w.setCell ⟨b, 1, none⟩ (.map (some w.heap.size))).alloc (.map #[] 0)) w.heap.size 0 (fun _ => false) := by
    have h0 := ksM_made (w.setCell ⟨b, 1, none⟩ (.map (some w.heap.size)))
    simpa using h0
  have hK : (fun _ => false) = K := by
    rcases h.mp with ⟨_, h1⟩ | ⟨m', h1, _⟩
    · exact funext fun s => (h1 s).symm
    · cases h1
  rw [hK] at hm
  refine ⟨⟨by go_simp, by go_simp, by go_simp, fun o => by have := cf o; go_simp, .inr ⟨_, rfl, hm.mono (Nat.zero_le _)⟩, own_chg h.ow k2 fun g _ _ hg => h.ap g hg, h.ap, h.asc, h.has, h.len⟩, k2.mono fun _ _ e => .inl e⟩
/-- What Add leaves, where the name is new. -/
def Added (w w' : World) (b U : Nat) (v pv : Value) (K : List UInt8 → Bool) (L : List Pt) (nm : ByteArray) : Prop :=
  ∃ v' pv' M N, Rg w' b v' pv' (U + 1) (fun y => decide (y = nm.data.toList) || K y) M ∧ M.Perm (L ++ N) ∧ (∀ p ∈ N, p.2 = nm) ∧ 0 < N.length ∧ Chg (RB b v pv) w w' ∧ ∀ k, RB b v' pv' k → RB b v pv k ∨ w.heap.size ≤ k

theorem Rg.apart {w : World} {b U m N : Nat} {v pv : Value} {K K' : List UInt8 → Bool} {L : List Pt} (h : Rg w b v pv U K L) (hm : KsM w m N K') : pv.ownBlock ≠ some m := by
  intro e
  rcases h.ow.2 with ⟨h1, _⟩ | ⟨g, cap, cur, h1, _, hc, _⟩
  · rw [h1] at e; cases e
  · rw [h1] at e
    simp [Value.ownBlock] at e
    subst e
    exact hm.not hc rfl
theorem Rg.ar2 {w w2 : World} {b U m N : Nat} {v pv : Value} {K K' : List UInt8 → Bool} {L : List Pt} (h : Rg w b v pv U K L) (hm : KsM w m N K') (hc : Chg (fun k => k = m) w w2) (nm : ByteArray) : Ar w2 w2 b v pv pv L [] nm 0 := by
  have lb := cell_lt h.c0
  have hbm : b ≠ m := (hm.cell h.c0).symm
  have ha := h.apart hm
  exact ⟨(hc.cell lb hbm _).trans h.c0, (hc.cell lb hbm _).trans h.c1, (hc.cell lb hbm _).trans h.c2, fun o => (hc.frozen lb hbm o).trans (h.fz o), by
    have := own_chg h.ow hc fun g _ _ hg e => ha (by rw [hg, e])
    simpa using this, h.ap, fun p hp => (by cases hp), rfl, fun g hg => .inl hg, Chg.refl _ _⟩
theorem Ar.added {w wc w2 wr w5 : World} {b U m k g cap : Nat} {v pv : Value} {K : List UInt8 → Bool} {L N M : List Pt} {nm : ByteArray} (HG1 : Rg wc b (.map (some m)) pv U K L) (HC1 : Chg (RB b v pv) w wc) (HV1 : v = .map (some m) ∨ w.heap.size ≤ m) (hm : KsM wc m U K)
    (hk2 : KsM w2 m (U + 1) (fun y => decide (y = nm.data.toList) || K y)) (hc2 : Chg (fun k => k = m) wc w2) (HA : Ar w2 wr b (.map (some m)) pv (.slice (some ⟨g, 0, none⟩) (L.length + k) cap) L N nm k) (hk0 : 0 < k) (hk : k ≤ 24) (hz : nm.size = 2) (hp : M.Perm (L ++ N)) (ha : Asc M)
    (ho : w5.ownsRow 0 63 2 (.slice (some ⟨g, 0, none⟩) (L.length + k) cap) (L.length + k) (flatP M)) (hc : Chg (fun i => i = g) wr w5) : Added w w5 b U v pv K L nm := by
  have hap := HG1.apart hm
  have hmb : m ≠ b := hm.cell HG1.c0
  have s1 := HC1.size
  have s2 := hc2.size
  refine ⟨_, _, M, N, HA.ring hk2 hap hmb hk HG1.len HG1.has hz hp ha ho hc, hp, HA.all, by rw [HA.len]; exact hk0, ?_, ?_⟩
  · have k1 : Chg (RB b v pv) w w2 := HC1.trans hc2 fun i hi e => by
      have e : i = m := e
      rcases HV1 with h | h
      · exact .inr (.inl (by rw [h, e]))
      · omega
    have k2 : Chg (RB b v pv) w wr := k1.trans HA.ch fun i hi e => by
      rcases e with e | e
      · exact .inl e
      · exact .inr (.inr e)
    exact k2.trans hc fun i hi e => by
      have e : i = g := e
      subst e
      rcases HA.bl i rfl with h | h
      · exact .inr (.inr h)
      · omega
  · rintro i (e | e | e)
    · exact .inl (.inl e)
    · injection e with e; injection e with e
      subst e
      rcases HV1 with h | h
      · exact .inl (.inr (.inl h))
      · exact .inr h
    · simp [Value.ownBlock] at e
      subst e
      rcases HA.bl _ rfl with h | h
      · exact .inl (.inr (.inr h))
      · have h' : w2.heap.size ≤ g := h
        exact .inr (by omega)

set_option maxHeartbeats 8000000 in
set_option maxRecDepth 100000 in
theorem ring_add (b U wt : Nat) (v pv : Value) (K : List UInt8 → Bool) (L : List Pt) (c d : UInt8) (w : World) (h : Rg w b v pv U K L) (hU : U ≤ 60) (h1 : 33 ≤ c.toNat ∧ c.toNat ≤ 126) (h2 : 33 ≤ d.toNat ∧ d.toNat ≤ 126) (hwt : 1 ≤ wt ∧ wt ≤ 3) :
    Calls Tryd.prog 10 #[.pointer (some ⟨b, 0, none⟩), .string (nameOf c d), .int .i64 wt] w fun e w' =>
      (K (nameOf c d).data.toList = true ∧ e = .returned (.int .i64 7) ∧ Below w.heap.size w w') ∨ (K (nameOf c d).data.toList = false ∧ e = .returned (.int .i64 0) ∧ Added w w' b U v pv K L (nameOf c d)) := by
  obtain ⟨nm, hnm⟩ : ∃ nm, nm = nameOf c d := ⟨_, rfl⟩
  have er := fun W => right_two c d W h1 h2
  rw [← hnm] at er ⊢
  have hz : nm.size = 2 := by rw [hnm]; rfl
  clear hnm
  have HZM := Lib.hid (show nm.size ≤ maxLen by rw [hz]; unfold maxLen; omega)
  obtain ⟨kb, hkb⟩ : ∃ kb, K nm.data.toList = kb := ⟨_, rfl⟩
  rw [hkb]
  have c0 := h.c0
  have c1 := h.c1
  have c2 := h.c2
  have fz := h.fz
  have HK := Lib.hid hkb
  obtain ⟨mr, rfl⟩ : ∃ mr, v = .map mr := by
    rcases h.mp with ⟨e, _⟩ | ⟨m0, e, _⟩
    · exact ⟨_, e⟩
    · exact ⟨_, e⟩
  have hmm := @run_makeMap Tryd.prog
  have qT : ∀ (w : World) (r : Option Nat), (binOp .eql 55 (.map r) (.map none)).run Tryd.prog w = .ok (.bool r.isNone) w := fun w r => run_eql_map_nil w _ _ _ r Tryd.underlying55
  have HM := Lib.hid h.mp
  have HG := Lib.hid h
  have hwt1 := hwt.1
  have hwt2 := hwt.2
  have hwf : (Lit.int .i64 (8 * (wt : Int))).wf = true := by rcases (by omega : wt = 1 ∨ wt = 2 ∨ wt = 3) with rfl | rfl | rfl <;> decide
  have HWF := Lib.hid hwf
  obtain ⟨it, hT⟩ := infoPt_parts
  have HT := Lib.hid hT
  clear h hkb hwt hwf hT
  cases kb with
  | true =>
    go_enter Tryd.func10, Tryd.ntmps10
    go_wp2_with fail
    refine (er _).mono ?_; rintro e w' ⟨rfl, rfl⟩
    go_wp2_with (at_lookup; refine list_klook rfl _ _ rfl (.map mr) U K rfl HM.out nm rfl HZM.out true HK.out ?_; intro cc)
    go_ret
    exact .inl ⟨by simp, rfl, (by repeat (first | with_reducible exact Below.refl _ _ | with_reducible assumption | with_reducible refine below_drewN ?_ _ | with_reducible refine Below.drew ?_ | with_reducible refine Below.alloc ?_ (by first | exact Nat.le_refl _ | assumption | (simp; done) | omega | (simp at *; omega)) _ | with_reducible refine Below.setCell ?_ (by first | exact Nat.le_refl _ | assumption | (simp; done) | omega | (simp at *; omega)) _ | with_reducible refine Below.trans ?_ (Below.mono (by with_reducible assumption) (by first | exact Nat.le_refl _ | assumption | (simp; done) | omega | (simp at *; omega)))))⟩
  | false =>
    go_enter Tryd.func10, Tryd.ntmps10
    go_wp2_with fail
    refine (er _).mono ?_; rintro e w' ⟨rfl, rfl⟩
    go_upto_if 42 with (first
      | (at_lookup; refine list_klook rfl _ _ rfl (.map mr) U K rfl HM.out nm rfl HZM.out false HK.out ?_; intro cc)
      | (at_len; refine list_klen rfl _ rfl (.map mr) U K rfl HM.out ?_; intro nn hn1 hn2; clear hn2))
    go_cut [6] (fun o6 wx => o6 = .int .i64 0 ∧ ∃ m, Hid (Rg wx b (.map (some m)) pv U K L) ∧ Hid (Chg (RB b (.map mr) pv) w wx) ∧ Hid (Value.map mr = .map (some m) ∨ w.heap.size ≤ m))
    case first =>
      have lb := cell_lt c0
      cases mr with
      | none =>
        go_wp2
        go_meet
        case rel =>
          obtain ⟨r1, r2⟩ := HG.out.named
          exact ⟨rfl, w.heap.size, r1, r2, .inr (Nat.le_refl _)⟩
      | some m =>
        go_wp2
        go_meet
        case rel => exact ⟨rfl, m, HG.out, Chg.refl _ _, .inl rfl⟩
    case rest =>
      obtain ⟨rfl, m, HG1, HC1, HV1⟩ := hcut
      clear c0 c1 c2 fz hmm qT hn1
      have c0 := HG1.out.c0
      have c1 := HG1.out.c1
      have c2 := HG1.out.c2
      have hm : KsM wc m U K := by
        rcases HG1.out.mp with ⟨h1, _⟩ | ⟨m', h1, h2⟩
        · cases h1
        · injection h1 with h1; injection h1 with h1; subst h1; exact h2
      have hmb : m ≠ b := hm.cell c0
      have HMC := Lib.hid hm
      clear hm
      go_upto_region 12 with (first
        | (at_mapUpdate; refine list_kput rfl _ _ _ rfl m U K rfl HMC.out (by omega) nm rfl HZM.out (8 * ↑wt) rfl HWF.out ?_; intro w2 hk2 hc2))
      have HA0 := Lib.hid (HG1.out.ar2 HMC.out hc2 nm)
      have HK2 := Lib.hid hk2
      have HC2 := Lib.hid hc2
      clear c0 c1 c2 hk2 hc2
      go_wp2_with fail
      go_loopw [60] (fun i wr => ∃ (k : Nat) (pvk : Value) (N : List Pt), k ≤ 8 * wt ∧ i = .int .i64 (↑k : Int) ∧ Hid (Ar w2 wr b (.map (some m)) pv pvk L N nm k)) (fun i _ => 8 * wt - (intOf i).toNat)
      case atStart => exact ⟨0, pv, [], by omega, rfl, HA0.out⟩
      case round =>
        obtain ⟨k, pvk, N, hk, rfl, HA⟩ := hrel
        by_cases hlt : k < 8 * wt
        · have c0 := HA.out.c0
          have c2 := HA.out.c2
          have cf := HA.out.fz
          have lb : b < wr.heap.size := cell_lt c0
          have hne : some b ≠ pvk.ownBlock := fun e => HA.out.ap b e.symm rfl
          have hLl := HG1.out.len
          go_upto_region 15 with fail
          go_region_law (first
            | (refine step_calls (f := 19) (args := #[.int .i64 ↑k]) (by rfl) ?hr ?_
               case hr => (go_simp; done)
               refine (itoa_any k (by omega) (by omega) _).mono ?_
               rintro e V ⟨⟨s, rfl, hs⟩, rfl⟩
               have q1 : ¬ 9223372036854775807 < s.size + 1 := by omega
               have q2 : ¬ 9223372036854775807 < s.size + 1 + 2 := by omega
               refine ⟨_, rfl, ?_⟩)
            | (refine step_calls (f := 18) (args := #[.string (s ++ ⟨#[35]⟩ ++ nm)]) (by rfl) ?hr ?_
               case hr => (go_simp; done)
               refine (hash_any _ _ (by rw [ByteArray.size_append, ByteArray.size_append]; unfold maxLen; have : (ByteArray.mk #[35]).size = 1 := rfl; omega)).mono ?_
               rintro e V ⟨rfl, rfl⟩
               obtain ⟨x, hx⟩ : ∃ x, hashF (s ++ ⟨#[35]⟩ ++ nm).data.toList = x := ⟨_, rfl⟩
               rw [hx]
               refine ⟨_, rfl, ?_⟩)
            | (refine step_append_lies _ (by rfl) _ _ _ (by rfl) 0 63 it _ 2 24 Tryd.underlying56 HT.out.1 HT.out.2.1 HT.out.2.2.1 HT.out.2.2.2 rfl (by omega) pvk (L.length + k) _ (by rfl) (own_chg HA.out.ow (show Chg (fun _ => False) wr _ from (by repeat (first | with_reducible exact Chg.refl _ _ | with_reducible assumption | with_reducible refine Chg.drewN ?_ _ | with_reducible refine Chg.drew ?_ | with_reducible refine Chg.alloc ?_ _ | with_reducible refine Chg.setCell ?_ (by first | (left; rfl) | (left; left; rfl) | (left; right; rfl) | (left; right; left; rfl) | (left; right; right; rfl) | (right; exact Nat.le_refl _) | (right; simp; done) | (right; omega) | (right; simp at *; omega) | (simp at *; omega)) _ | with_reducible refine Chg.trans ?_ (by with_reducible assumption) (by intro i hi hT; first | exact hT | exact False.elim hT | omega | (simp at *; omega))))) (fun _ _ _ _ => id)) ⟨wr.heap.size, 0, none⟩ 1 1 [.int .u64 x, .string nm] (by rfl) (by rfl) (World.news_of_block (cs := #[.int .u64 x, .string nm]) (t := 63) (fr := (0, 0)) (by first | exact heap_alloc_new _ _ | exact heap_alloc_new wr _)) (by simp [Value.oneCell']) (by omega) (by unfold maxLen; omega) (by omega) (by simp) (wr.heap.size + 1) (by simp) ?_
               intro g cap w3 hown3 hgrow hat hlt3
               have kc : w3.cell? ⟨b, 2, none⟩ = some pvk := (by rw [hgrow.cell_far _ (by simp; omega) hne]; go_simp)
               have kf : w3.frozen? ⟨b, 2, none⟩ = false := (by rw [hgrow.frozen_far _ (by simp; omega) hne]; go_simp)))
          all_goals
            clear kc kf
            go_wp2
            go_roundw
            case rel => exact ⟨k + 1, _, _, by omega, by go_num, HA.out.step (cell_lt HA0.out.c0) (by repeat (first | with_reducible exact Chg.refl _ _ | with_reducible assumption | with_reducible refine Chg.drewN ?_ _ | with_reducible refine Chg.drew ?_ | with_reducible refine Chg.alloc ?_ _ | with_reducible refine Chg.setCell ?_ (by first | (left; rfl) | (left; left; rfl) | (left; right; rfl) | (left; right; left; rfl) | (left; right; right; rfl) | (right; exact Nat.le_refl _) | (right; simp; done) | (right; omega) | (right; simp at *; omega) | (simp at *; omega)) _ | with_reducible refine Chg.trans ?_ (by with_reducible assumption) (by intro i hi hT; first | exact hT | exact False.elim hT | omega | (simp at *; omega)))) hgrow hown3 (by simpa using hat)⟩
            case measure => simp [intOf]; omega
        · obtain rfl : k = 8 * wt := by omega
          obtain ⟨g, cap, rfl, _, hgl⟩ := HA.out.ow.form (by omega)
          have c2 := HA.out.c2
          have hLl := HG1.out.len
          have hNl := Lib.hid (show (L ++ N).length = L.length + 8 * wt by rw [List.length_append, HA.out.len])
          go_wp2_with fail
          refine (sort_pts 0 g cap (L.length + 8 * wt) (L ++ N) _ hNl.out HA.out.ow (by omega)).mono ?_
          rintro e w5 ⟨rfl, M, hp, ha, ho, hc⟩
          have HF : Hid (Added w w5 b U (.map mr) pv K L nm) := HA.out.added HG1.out HC1.out HV1.out HMC.out HK2.out HC2.out (by omega) (by omega) hz hp ha ho hc
          clear hp ha ho hc c2
          go_wp2
          go_ret
          exact .inr ⟨trivial, rfl, HF.out⟩
end Go.Proofs.YtpapfnfdaklnlaaDoor
