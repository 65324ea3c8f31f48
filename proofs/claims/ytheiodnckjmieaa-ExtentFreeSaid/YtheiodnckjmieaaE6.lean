/- The law Free. (Printed by genlaws.py.) -/
import Derived.Test.YtheiodnckjmieaaE5
import Derived.Deep.CutBlock
namespace Go.Proofs.Ytheiodnckjmieaa
set_option linter.unusedVariables false
open Go.RowKit Go.Sort

theorem chg_regrown (W : World) (d : Nat) (os : Array Obj) : Chg (fun _ => False) W (Go.Sort.grow (redrawn W d) os) := Chg.ofBelow (below_regrown W d os)
theorem ef_re {W : World} {S : Nat → Prop} {b : Nat} {base : Int} {F : List Bool} (h : Ef W S b base F) {d : Nat} {os : Array Obj} : Ef (Go.Sort.grow (redrawn W d) os) S b base F := h.chg (chg_regrown W d os) (fun _ _ h => h.elim) id
theorem rm_re {W : World} {S : Nat → Prop} {b : Nat} {base : Int} {a : Option Addr} {c : Nat} {F : List Bool} (h : Rm W S b base a c F) {d : Nat} {os : Array Obj} : Rm (Go.Sort.grow (redrawn W d) os) S b base a c F := h.chg (chg_regrown W d os) (fun _ _ h => h.elim) id
theorem used_c (w : World) (S : Nat → Prop) (b : Nat) (base : Int) (F : List Bool) (n : Int) (r : Bool) (h : Ef w S b base F) (hn : -9223372036854775808 ≤ n ∧ n ≤ 9223372036854775807) (hr : usedB base F n = r) : Calls Try.prog 20 #[.pointer (some ⟨b, 0, none⟩), .int .i64 n] w fun e w' => e = .returned (.bool r) ∧ Below w.heap.size w w' := by
  refine (used_ef w S b base F n h hn).mono ?_
  rintro e w' ⟨rfl, hg⟩
  exact ⟨by rw [hr], hg.below⟩
theorem rused_c (w : World) (S : Nat → Prop) (b : Nat) (base : Int) (a : Option Addr) (c : Nat) (F : List Bool) (n : Int) (r : Bool) (h : Rm w S b base a c F) (hn : -9223372036854775808 ≤ n ∧ n ≤ 9223372036854775807) (hr : usedB base F n = r) : Calls Try.prog 21 #[.pointer (some ⟨b, 0, none⟩), .int .i64 n] w (Quiet (.bool r) w) := by
  rw [← hr]
  exact rused_any w S b base a c F n h hn
def lastE (l : List Ext) : Int := match l.getLast? with | none => -1 | some e => e.1 + e.2
theorem lastE_snoc (l : List Ext) (e : Ext) : lastE (l ++ [e]) = e.1 + e.2 := by simp [lastE]
theorem last_lt {hi lo : Int} {gs : List Ext} {k : Nat} {f : Ext} (h : Norm hi lo gs) (hlo : 0 ≤ lo) (hf : gs[k]? = some f) : lastE (gs.take k) < f.1 := by
  have hb := h.bounds f (List.mem_of_getElem? hf)
  cases k with
  | zero => show (-1 : Int) < f.1; omega
  | succ k =>
    obtain ⟨e, he⟩ : ∃ e, gs[k]? = some e := ⟨_, List.getElem?_eq_getElem (by have := (List.getElem?_eq_some_iff.1 hf).1; omega)⟩
    rw [List.take_add_one, he]
    show lastE (gs.take k ++ [e]) < f.1
    rw [lastE_snoc]
    exact norm_rise h he hf (by omega)
theorem used_not {base : Int} {F : List Bool} {n : Int} (h1 : base ≤ n) (h2 : n < base + F.length) : usedB base F n = true ↔ ¬ freeB base F n := by
  unfold usedB freeB
  rw [decide_eq_true h1, decide_eq_true h2]
  obtain ⟨y, hy⟩ : ∃ y, F[(n - base).toNat]? = some y := ⟨_, List.getElem?_eq_getElem (by omega)⟩
  rw [hy]
  cases y <;> simp [h1]
theorem used_out {base : Int} {F : List Bool} {n : Int} (h : n < base ∨ base + F.length ≤ n) : usedB base F n = false := by
  unfold usedB
  rcases h with h | h
  · rw [decide_eq_false (by omega)]; rfl
  · rw [decide_eq_false (p := n < base + F.length) (by omega)]; simp

set_option maxHeartbeats 4000000 in
set_option maxRecDepth 100000 in
theorem extentFree_any (s : Int) (v : Value) (l : List (Int × Int × Int)) (n : Int) (w : World) (hs : (Lit.int .i64 s).wf = true) (hL : IsL3 .i64 .i64 .i64 w v l) (hn : (Lit.int .i64 n).wf = true) :
    Calls Try.prog 4 #[.int .i64 s, v, .int .i64 n] w fun e w' => e = .returned (.bool true) ∧ Below w.heap.size w w' := by
  obtain ⟨hwf, a, cap, rfl, hlen, hc⟩ := hL
  have HC := Lib.hid hc
  have hmm := @run_makeMap Try.prog
  have HWF := Lib.hid hwf
  clear hc hwf
  go_enter Try.func4, Try.ntmps4
  go_wp2_with fail
  refine (awake_any w).mono ?_; rintro e w1 ⟨rfl, g1⟩
  go_wp2_with fail
  refine (great_any w1 s a l.length cap).mono ?_; rintro e w1' ⟨rfl, rfl⟩
  cases hg : greatB s l.length with
  | true =>
    go_wp2_with fail
    refine (awake_any w1).mono ?_; rintro e w2 ⟨rfl, g2⟩
    go_wp2
    go_ret
    exact ⟨rfl, Chg.below (g1.trans g2 (fun _ _ h => h))⟩
  | false =>
    go_wp2_with fail
    cases hb : badN 3 s with
    | true =>
      refine (new_bad w1 3 s hb).mono ?_; rintro e w2 ⟨rfl, rfl⟩
      go_wp2_with fail
      refine (rnew_bad w1 3 s hb).mono ?_; rintro e w2 ⟨rfl, rfl⟩
      go_wp2
      go_ret
      exact ⟨rfl, Chg.below g1⟩
    | false =>
      have hbb : 0 ≤ s ∧ s ≤ 1048576 := by simp [badN] at hb; omega
      obtain ⟨N, rfl⟩ : ∃ n : Nat, s = n := ⟨s.toNat, by omega⟩
      refine (new_ef w1 3 N hb).mono ?_; rintro e w2 ⟨rfl, hE, g2⟩
      obtain ⟨B, hB⟩ : ∃ B, B = w1.heap.size := ⟨_, rfl⟩
      rw [← hB] at hE ⊢
      have HB := Lib.hid hB
      clear hB
      go_wp2_with fail
      refine (rnew_ok w2 3 N hb).mono ?_; rintro e w3 ⟨rfl, hR, g3⟩
      have hP := new_pair HB.out hE hR g3
      obtain ⟨B2, hB2⟩ : ∃ B2, B2 = w2.heap.size := ⟨_, rfl⟩
      rw [← hB2] at hP ⊢
      have zB : w.heap.size ≤ B ∧ w.heap.size ≤ B2 := by have := g1.size; have := g2.size; have := HB.out; omega
      have HP := Lib.hid hP
      have G3 := Lib.hid ((g1.trans g2 (fun _ _ h => h)).trans g3 (fun _ _ h => h))
      have hN : N ≤ 100 ∧ l.length ≤ 60 := by simp [greatB] at hg; omega
      clear hE hR hP hB2 g1 g2 g3 hg hb
      go_wp2_with fail
      go_loopw [52] (fun i wr => ∃ k : Nat, k ≤ l.length ∧ i = .int .i64 (↑k : Int) ∧ Hid (∃ F, Pr wr (fun q => q = B ∨ q = B2) B B2 3 F ∧ F.length = N) ∧ Hid (Chg (fun _ => False) w wr)) (fun i _ => l.length - (intOf i).toNat)
      case atStart => exact ⟨0, by omega, rfl, ⟨_, HP.out, List.length_replicate⟩, G3.out⟩
      case round =>
        obtain ⟨k, hk, rfl, HQ, HG⟩ := hrel
        by_cases hlt : k < l.length
        · obtain ⟨lb, lo, rfl, hlb, hc⟩ := HC.out (by omega)
          obtain ⟨⟨kd, x, y⟩, hx⟩ : ∃ x, l[k]? = some x := ⟨_, List.getElem?_eq_getElem hlt⟩
          obtain ⟨kc0, kc1, kc2⟩ := hc k _ hx
          have e0 : wr.cell? ⟨lb, lo + k * 3, none⟩ = some (.int .i64 kd) := by rw [HG.out.cell hlb id]; exact kc0
          have e1 : wr.cell? ⟨lb, lo + k * 3 + 1, none⟩ = some (.int .i64 x) := by rw [HG.out.cell hlb id]; exact kc1
          have e2 : wr.cell? ⟨lb, lo + k * 3 + 2, none⟩ = some (.int .i64 y) := by rw [HG.out.cell hlb id]; exact kc2
          have hw := HWF.out _ (List.mem_of_getElem? hx)
          have HX := Lib.hid (And.intro (wfI64 hw.2.1) (wfI64 hw.2.2))
          obtain ⟨F, hF, hFN⟩ := HQ.out
          have HF := Lib.hid hF
          clear kc0 kc1 kc2 hc hx hw hF
          go_wp2_with fail
          refine name_calls ?_; intro W hW
          have gW : Chg (fun _ => False) wr W := by subst hW; exact (by repeat (first | with_reducible exact Chg.refl _ _ | with_reducible assumption | with_reducible refine Chg.drewN ?_ _ | with_reducible refine Chg.drew ?_ | with_reducible refine Chg.alloc ?_ _ | with_reducible refine Chg.setCell ?_ (by first | (left; rfl) | (right; exact Nat.le_refl _) | (right; simp; done) | (right; omega) | (right; simp at *; omega) | (simp at *; omega)) _ | with_reducible refine Chg.trans ?_ (by with_reducible assumption) (by intro i hi hT; first | exact hT | exact False.elim hT | omega | (simp at *; omega))))
          clear hW
          refine (do_any W _ B B2 3 F kd x y (HF.out.chg gW (fun _ _ h => h.elim) id id) HX.out.1 HX.out.2).mono ?_; rintro e w4 ⟨rfl, hP, g4⟩
          have HP4 := Lib.hid hP
          have G4 : Hid (Chg (fun _ => False) w w4) := (HG.out.trans gW (fun _ _ h => h)).trans g4 (fun q hq h => by omega)
          clear hP g4 gW
          go_wp2
          go_roundw
          case rel => exact ⟨k + 1, by omega, by go_num, ⟨_, HP4.out, by rw [doF_len]; exact hFN⟩, G4.out⟩
          case measure => simp [intOf]; omega
        · obtain rfl : k = l.length := by omega
          obtain ⟨F, hF, hFN⟩ := HQ.out
          have HF := Lib.hid hF
          clear hF
          go_wp2_with fail
          refine name_calls ?_; intro W hW
          have hmb : ∃ mb, mb = wr.heap.size ∧ SetM W mb [] ∧ Chg (fun _ => False) wr W := ⟨_, rfl, by subst hW; exact setM_made _, by subst hW; exact (by repeat (first | with_reducible exact Chg.refl _ _ | with_reducible assumption | with_reducible refine Chg.drewN ?_ _ | with_reducible refine Chg.drew ?_ | with_reducible refine Chg.alloc ?_ _ | with_reducible refine Chg.setCell ?_ (by first | (left; rfl) | (right; exact Nat.le_refl _) | (right; simp; done) | (right; omega) | (right; simp at *; omega) | (simp at *; omega)) _ | with_reducible refine Chg.trans ?_ (by with_reducible assumption) (by intro i hi hT; first | exact hT | exact False.elim hT | omega | (simp at *; omega))))⟩
          obtain ⟨mb, hmbe, hm0, gW⟩ := hmb
          have zmb : B < mb ∧ B2 < mb ∧ w.heap.size ≤ mb := by
            have h1 := HF.out.1.sb.2
            have h2 : B2 < wr.heap.size := by obtain ⟨_, ⟨a, c, h2⟩, _⟩ := HF.out; exact h2.lt _ h2.sb
            have := HG.out.size
            omega
          have HPW : Hid (Pr W (fun q => q = B ∨ q = B2 ∨ q = mb) B B2 3 F) := by
            obtain ⟨h1, ⟨a, c, h2⟩, h3⟩ := HF.out
            have hmW := hm0.lt
            refine ⟨h1.grow gW (fun _ _ h => h.elim) id (fun q hq => ?_) (.inl rfl), ⟨a, c, (h2.widen gW).narrow (fun q hq => ?_) (.inr (.inl rfl))⟩, h3⟩
            · rcases hq with hq | hq | hq
              · exact .inl (.inl hq)
              · exact .inl (.inr hq)
              · right; omega
            · rcases hq with hq | hq | hq
              · exact .inl (.inl hq)
              · exact .inl (.inr hq)
              · right; omega
          have HM0 := Lib.hid hm0
          have GW := Lib.hid (HG.out.trans gW (fun _ _ h => h))
          rw [← hmbe]
          clear hm0 gW hmbe hW
          refine (free_ef W _ B 3 F HPW.out.1).mono ?_; rintro e w5 ⟨⟨gs, a5, c5, rfl, ho, hS⟩, g5⟩
          have HS := Lib.hid hS
          have HI : Hid (IsE w5 a5 c5 gs) := RdS.row ho (flat_one _)
          have HOB : Hid (∀ q, (Value.slice a5 gs.length c5).ownBlock = some q → q ≠ mb) := fun q hq => by have := (ho.lt q hq).1; have := HM0.out.lt; omega
          have HM5 := Lib.hid (HM0.out.chg g5 id)
          have HP5 := Lib.hid (HPW.out.chg g5 (fun _ _ h => h.elim) id id)
          have G5 := Lib.hid (GW.out.trans g5 (fun _ _ h => h))
          have hbd := HP5.out.1.bd
          have hgl : gs.length ≤ 1048576 := by
            have := norm_len HS.out.norm (by omega)
            omega
          have hmw5 := HM5.out.lt
          clear ho hS g5
          go_wp2_with fail
          go_loopw [14, 15, 65] (fun s14 s15 i wx => ∃ (k : Nat) (Y : List Int), k ≤ gs.length ∧ i = .int .i64 (↑k : Int) ∧ (Y.length : Int) ≤ sumE (gs.take k) ∧ Hid (s14 = .int .i64 (sumE (gs.take k))) ∧ Hid (s15 = .int .i64 (lastE (gs.take k))) ∧ Hid (Y.Nodup) ∧ Hid (∀ z, z ∈ Y ↔ Mem z (gs.take k)) ∧ Hid (SetM wx mb Y) ∧ Hid (Chg (fun q => q = mb) w5 wx)) (fun _ _ i _ => gs.length - (intOf i).toNat)
          case atStart => exact ⟨0, [], by omega, rfl, (by show ((0 : Nat) : Int) ≤ 0; omega), rfl, rfl, List.nodup_nil, (fun z => ⟨fun h => (by cases h), fun h => absurd h (mem_nil z)⟩), HM5.out, Chg.refl _ _⟩
          case round =>
            obtain ⟨k, Y, hk, rfl, hyl, HSU, HLA, HYN, HYM, HM, HG6⟩ := hrel
            obtain ⟨s, hs⟩ : ∃ s, s = sumE (gs.take k) := ⟨_, rfl⟩
            obtain ⟨la, hla⟩ : ∃ la, la = lastE (gs.take k) := ⟨_, rfl⟩
            have hsb := sumE_bd (norm_take HS.out.norm k) (by omega)
            have hs1 := HSU.out
            have hs2 := HLA.out
            rw [← hs] at hs1 hyl hsb
            rw [← hla] at hs2
            subst hs1 hs2
            have HSS := Lib.hid hs
            have HLL := Lib.hid hla
            clear hs hla HSU HLA
            have hmr := HM.out.lt
            obtain ⟨wo, rfl⟩ : ∃ wo : World, wo = wr := ⟨_, rfl⟩
            by_cases hkt : k < gs.length
            · obtain ⟨f, hf⟩ : ∃ f, gs[k]? = some f := ⟨_, List.getElem?_eq_getElem hkt⟩
              obtain ⟨g, o, rfl, lg, k0, k1⟩ := (IsE.keep HI.out HG6.out (fun q hq h => HOB.out q hq h)).at hf
              have hb := HS.out.norm.bounds f (List.mem_of_getElem? hf)
              have hlast : la < f.1 := by rw [HLL.out]; exact last_lt HS.out.norm (by omega) hf
              have q1 : decide (f.2 < 1) = false := by simp; omega
              have q2 : decide (f.1 ≤ la) = false := by simp; omega
              have HFS : Hid (sumE (gs.take (k + 1)) = s + f.2) := by show _ = _; rw [sumE_snoc hf, HSS.out]
              have HFT : Hid (gs.take (k + 1) = gs.take k ++ [f]) := by show _ = _; rw [List.take_add_one, hf]; rfl
              obtain ⟨⟨f1, f2⟩, rfl⟩ : ∃ e : Ext, e = f := ⟨_, rfl⟩
              simp only at k0 k1 hb hlast q1 q2
              obtain ⟨m, rfl⟩ : ∃ m : Nat, f2 = m := ⟨f2.toNat, by omega⟩
              clear hf
              go_wp2_with fail
              refine name_region ?_; intro W7 hW7
              have b0 : W7.cell? ⟨wo.heap.size, 0, none⟩ = some (.int .i64 f1) := by subst hW7; go_simp
              have b1 : W7.cell? ⟨wo.heap.size, 1, none⟩ = some (.int .i64 m) := by subst hW7; go_simp
              have z7 : wo.heap.size < W7.heap.size := by subst hW7; simp
              have g7 : Chg (fun _ => False) wo W7 := by subst hW7; exact (by repeat (first | with_reducible exact Chg.refl _ _ | with_reducible assumption | with_reducible refine Chg.drewN ?_ _ | with_reducible refine Chg.drew ?_ | with_reducible refine Chg.alloc ?_ _ | with_reducible refine Chg.setCell ?_ (by first | (left; rfl) | (right; exact Nat.le_refl _) | (right; simp; done) | (right; omega) | (right; simp at *; omega) | (simp at *; omega)) _ | with_reducible refine Chg.trans ?_ (by with_reducible assumption) (by intro i hi hT; first | exact hT | exact False.elim hT | omega | (simp at *; omega))))
              clear hW7
              have HM7 := Lib.hid (HM.out.chg g7 id)
              have G7 := Lib.hid (HG6.out.trans g7 (fun _ _ h => h.elim))
              clear g7
              go_loopw [80] (fun i wx => ∃ (j : Nat) (Yj : List Int), j ≤ m ∧ i = .int .i64 (↑j : Int) ∧ (Yj.length : Int) ≤ s + j ∧ Hid (Yj.Nodup) ∧ Hid (∀ z, z ∈ Yj ↔ z ∈ Y ∨ (f1 ≤ z ∧ z < f1 + j)) ∧ Hid (SetM wx mb Yj) ∧ Hid (Chg (fun q => q = mb) W7 wx)) (fun i _ => m - (intOf i).toNat)
              case atStart => exact ⟨0, Y, by omega, rfl, by omega, HYN.out, (fun z => ⟨fun h => .inl h, fun h => by rcases h with h | h; exact h; omega⟩), HM7.out, Chg.refl _ _⟩
              case round =>
                obtain ⟨j, Yj, hj, rfl, hyj, HYJ, HYK, HMJ, HGJ⟩ := hrel
                have c0 : wr.cell? ⟨wo.heap.size, 0, none⟩ = some (.int .i64 f1) := by rw [HGJ.out.cell z7 (by omega)]; exact b0
                have c1 : wr.cell? ⟨wo.heap.size, 1, none⟩ = some (.int .i64 m) := by rw [HGJ.out.cell z7 (by omega)]; exact b1
                by_cases hjm : j < m
                · have hwf : (Lit.int .i64 (f1 + j)).wf = true := WalkArith.wf_i64 (by omega)
                  have hnot : f1 + (j : Int) ∉ Yj := by
                    rw [HYK.out, HYM.out]
                    have hn3 := HS.out.norm
                    have hsp : gs = gs.take (k + 1) ++ gs.drop (k + 1) := (List.take_append_drop _ _).symm
                    rw [hsp, HFT.out] at hn3
                    have hn4 := (norm_app.1 (norm_app.1 hn3).1)
                    rintro (h | h)
                    · have := (end_ge hn4.1).2 _ h
                      have := hn4.2.1
                      simp only at this
                      omega
                    · omega
                  go_wp2_with (at_mapUpdate; go_loud (refine list_put rfl _ _ _ rfl mb Yj rfl HMJ.out (by omega) (f1 + j) rfl rfl hwf hnot ?_; intro w6 hm6 hg6))
                  go_roundw
                  case rel => exact ⟨j + 1, (f1 + j) :: Yj, by omega, by go_num, by simp; omega, List.nodup_cons.2 ⟨hnot, HYJ.out⟩, (fun z => by
                    rw [List.mem_cons, HYK.out]
                    constructor
                    · rintro (h | h | h)
                      · right; omega
                      · exact .inl h
                      · right; omega
                    · rintro (h | h)
                      · exact .inr (.inl h)
                      · by_cases e : z = f1 + j
                        · exact .inl e
                        · right; right; omega), hm6, HGJ.out.trans hg6 (fun _ _ h => h)⟩
                  case measure => simp [intOf]; omega
                · obtain rfl : j = m := by omega
                  go_wp2
                  go_roundw
                  case rel => exact ⟨k + 1, Yj, by omega, by go_num, by rw [HFS.out]; exact hyj, (by show _ = _; rw [HFS.out]), (by show _ = _; rw [HFT.out, lastE_snoc]), HYJ.out, (fun z => by
                    rw [HYK.out, HYM.out, HFT.out, mem_append, mem_one]
                    unfold inE
                    exact Iff.rfl), HMJ.out, G7.out.trans HGJ.out (fun _ _ h => h)⟩
                  case measure => simp [intOf]; omega
            · obtain rfl : k = gs.length := by omega
              have hYY : ∀ z, z ∈ Y ↔ freeB 3 F z := fun z => by rw [HYM.out, List.take_length, HS.out.mem]
              have HYY := Lib.hid hYY
              have HSC : Hid (s = (countB F : Int)) := by show _ = _; rw [HSS.out, List.take_length, same_sum HS.out]
              have HP6 : Hid (Pr wo (fun q => q = B ∨ q = B2 ∨ q = mb) B B2 3 F) := HP5.out.chg HG6.out (fun q _ hq => .inr (.inr hq)) (by omega) (by omega)
              have G6 : Hid (Chg (fun _ => False) w wo) := G5.out.trans HG6.out (fun q hq h => by omega)
              clear hYY HSS HLL HYM HG6
              go_wp2_with fail
              go_loopw [100] (fun i wx => ∃ j : Nat, j ≤ N ∧ i = .int .i64 (↑j : Int) ∧ Hid (Chg (fun _ => False) wo wx)) (fun i _ => N - (intOf i).toNat)
              case atStart => exact ⟨0, by omega, rfl, Chg.refl _ _⟩
              case round =>
                obtain ⟨j, hj, rfl, HG7⟩ := hrel
                have HP7 := Lib.hid (HP6.out.chg HG7.out (fun _ _ h => h.elim) id id)
                have HM7 := Lib.hid (HM.out.chg HG7.out id)
                have G7 := Lib.hid (G6.out.trans HG7.out (fun _ _ h => h))
                obtain ⟨ra, rc, hR7⟩ := HP7.out.2.1
                have HR7 := Lib.hid hR7
                clear hR7
                by_cases hjN : j < N
                · have hwf : (Lit.int .i64 (3 + (j : Int))).wf = true := WalkArith.wf_i64 (by omega)
                  have hbn : -9223372036854775808 ≤ 3 + (j : Int) ∧ 3 + (j : Int) ≤ 9223372036854775807 := by omega
                  have hu := used_not (base := 3) (F := F) (n := 3 + j) (by omega) (by omega)
                  cases hU : usedB 3 F (3 + j) with
                  | true =>
                    have hdec : decide ((3 + (j : Int)) ∈ Y) = false := by
                      rw [decide_eq_false_iff_not, HYY.out]; exact hu.1 hU
                    have HU := Lib.hid hU
                    have HD := Lib.hid hdec
                    clear hU hdec hu
                    go_wp2_with fail
                    refine name_region ?_; intro W hW
                    have gW : Chg (fun _ => False) wr W := by subst hW; exact Chg.refl _ _
                    clear hW
                    have HEW := Lib.hid (HP7.out.1.chg gW (fun _ _ h => h.elim) id)
                    have HRW := Lib.hid (HR7.out.chg gW (fun _ _ h => h.elim) id)
                    have HMW := Lib.hid (HM7.out.chg gW id)
                    have HGW := Lib.hid (HG7.out.trans gW (fun _ _ h => h))
                    have hl : ∀ d os, (Instr.lookup 42 (.map (some mb)) (.int .i64 (3 + (j : Int))) false).run Try.prog (Go.Sort.grow (redrawn W d) os) = .ok (.bool false) (Go.Sort.grow (redrawn W d) os) := fun d os => by
                      have := (HMW.out.chg (chg_regrown W d os) id).get hwf
                      rw [HD.out] at this
                      exact this
                    clear gW
                    (have hN : W.heap.size ≤ (World.heap W).size := by first | assumption | exact Nat.le_refl _ | (simp; done) | omega | (simp; omega) | (simp at *; omega)); (have kr := fun d os b o (h : b < W.heap.size) => (below_regrown W d os).cell (p := ⟨b, o, none⟩) (Nat.lt_of_lt_of_le h hN)); (refine wp_region_quiet_below (by kernel_rfl) (by kernel_rfl) ?_); (repeat (first | go_big_quiet_step ((first | (go_at_call 20; exact Calls.regrown_of (used_c _ _ B 3 F (3 + j) true (ef_re HEW.out) hbn HU.out)) | (go_at_call 21; exact Calls.regrown_of (quiet_below (rused_c _ _ B2 3 ra rc F (3 + j) true (rm_re HRW.out) hbn HU.out))))) | quiet_step ((first | (go_at_call 20; exact Calls.regrown_of (used_c _ _ B 3 F (3 + j) true (ef_re HEW.out) hbn HU.out)) | (go_at_call 21; exact Calls.regrown_of (quiet_below (rused_c _ _ B2 3 ra rc F (3 + j) true (rm_re HRW.out) hbn HU.out))))))); (refine wpQuiet_nil ?_); (intro w9 hw9); (obtain ⟨⟨dq, osq⟩, hw9⟩ := hw9); (have g9 := below_regrown W dq osq); (rw [← hw9] at g9); (have g9 : Below (W.heap.size) _ w9 := g9.mono hN); (have z9 : W.heap.size ≤ w9.heap.size := Nat.le_trans hN g9.size); (have c9 := fun b o h => g9.cell (p := ⟨b, o, none⟩) h); (have f9 := fun b o h => g9.frozen (p := ⟨b, o, none⟩) h); (clear hw9 kr hN g9)
                    go_wp2
                    go_roundw
                    case rel => exact ⟨j + 1, by omega, by go_num, HGW.out.trans (Chg.ofBelow g9) (fun _ _ h => h)⟩
                    case measure => simp [intOf]; omega
                  | false =>
                    have hdec : decide ((3 + (j : Int)) ∈ Y) = true := by
                      rw [decide_eq_true_iff, HYY.out]
                      refine Classical.byContradiction fun hh => ?_
                      have := hu.2 hh
                      rw [hU] at this
                      cases this
                    have HU := Lib.hid hU
                    have HD := Lib.hid hdec
                    clear hU hdec hu
                    go_wp2_with fail
                    refine name_region ?_; intro W hW
                    have gW : Chg (fun _ => False) wr W := by subst hW; exact Chg.refl _ _
                    clear hW
                    have HEW := Lib.hid (HP7.out.1.chg gW (fun _ _ h => h.elim) id)
                    have HRW := Lib.hid (HR7.out.chg gW (fun _ _ h => h.elim) id)
                    have HMW := Lib.hid (HM7.out.chg gW id)
                    have HGW := Lib.hid (HG7.out.trans gW (fun _ _ h => h))
                    have hl : ∀ d os, (Instr.lookup 42 (.map (some mb)) (.int .i64 (3 + (j : Int))) false).run Try.prog (Go.Sort.grow (redrawn W d) os) = .ok (.bool true) (Go.Sort.grow (redrawn W d) os) := fun d os => by
                      have := (HMW.out.chg (chg_regrown W d os) id).get hwf
                      rw [HD.out] at this
                      exact this
                    clear gW
                    (have hN : W.heap.size ≤ (World.heap W).size := by first | assumption | exact Nat.le_refl _ | (simp; done) | omega | (simp; omega) | (simp at *; omega)); (have kr := fun d os b o (h : b < W.heap.size) => (below_regrown W d os).cell (p := ⟨b, o, none⟩) (Nat.lt_of_lt_of_le h hN)); (refine wp_region_quiet_below (by kernel_rfl) (by kernel_rfl) ?_); (repeat (first | go_big_quiet_step ((first | (go_at_call 20; exact Calls.regrown_of (used_c _ _ B 3 F (3 + j) false (ef_re HEW.out) hbn HU.out)) | (go_at_call 21; exact Calls.regrown_of (quiet_below (rused_c _ _ B2 3 ra rc F (3 + j) false (rm_re HRW.out) hbn HU.out))))) | quiet_step ((first | (go_at_call 20; exact Calls.regrown_of (used_c _ _ B 3 F (3 + j) false (ef_re HEW.out) hbn HU.out)) | (go_at_call 21; exact Calls.regrown_of (quiet_below (rused_c _ _ B2 3 ra rc F (3 + j) false (rm_re HRW.out) hbn HU.out))))))); (refine wpQuiet_nil ?_); (intro w9 hw9); (obtain ⟨⟨dq, osq⟩, hw9⟩ := hw9); (have g9 := below_regrown W dq osq); (rw [← hw9] at g9); (have g9 : Below (W.heap.size) _ w9 := g9.mono hN); (have z9 : W.heap.size ≤ w9.heap.size := Nat.le_trans hN g9.size); (have c9 := fun b o h => g9.cell (p := ⟨b, o, none⟩) h); (have f9 := fun b o h => g9.frozen (p := ⟨b, o, none⟩) h); (clear hw9 kr hN g9)
                    go_wp2
                    go_roundw
                    case rel => exact ⟨j + 1, by omega, by go_num, HGW.out.trans (Chg.ofBelow g9) (fun _ _ h => h)⟩
                    case measure => simp [intOf]; omega
                · obtain rfl : j = N := by omega
                  obtain ⟨r, hr⟩ : ∃ r, usedB 3 F n = r := ⟨_, rfl⟩
                  have HRR := Lib.hid hr
                  clear hr
                  go_wp2_with fail
                  refine (used_c wr _ B 3 F n r HP7.out.1 (wfI64 hn) HRR.out).mono ?_; rintro e w8 ⟨rfl, g8⟩
                  have g8' := Chg.ofBelow (S := fun _ => False) g8
                  have HE8 := Lib.hid (HP7.out.1.chg g8' (fun _ _ h => h.elim) id)
                  have HR8 := Lib.hid (HR7.out.chg g8' (fun _ _ h => h.elim) id)
                  have G8 := Lib.hid (G7.out.trans g8' (fun _ _ h => h))
                  clear g8 g8'
                  go_wp2_with fail
                  refine (rused_c w8 _ B2 3 ra rc F n r HR8.out (wfI64 hn) HRR.out).mono ?_; rintro e w9 ⟨rfl, q9, rfl⟩
                  have HE9 : Hid (Ef (w8.drewN q9) (fun q => q = B ∨ q = B2 ∨ q = mb) B 3 F) := HE8.out.chg (T := fun _ => False) (by repeat (first | with_reducible exact Chg.refl _ _ | with_reducible assumption | with_reducible refine Chg.drewN ?_ _ | with_reducible refine Chg.drew ?_ | with_reducible refine Chg.alloc ?_ _ | with_reducible refine Chg.setCell ?_ (by first | (left; rfl) | (right; exact Nat.le_refl _) | (right; simp; done) | (right; omega) | (right; simp at *; omega) | (simp at *; omega)) _ | with_reducible refine Chg.trans ?_ (by with_reducible assumption) (by intro i hi hT; first | exact hT | exact False.elim hT | omega | (simp at *; omega)))) (fun _ _ h => h.elim) id
                  have G9 : Hid (Chg (fun _ => False) w (w8.drewN q9)) := G8.out.trans (T := fun _ => False) (by repeat (first | with_reducible exact Chg.refl _ _ | with_reducible assumption | with_reducible refine Chg.drewN ?_ _ | with_reducible refine Chg.drew ?_ | with_reducible refine Chg.alloc ?_ _ | with_reducible refine Chg.setCell ?_ (by first | (left; rfl) | (right; exact Nat.le_refl _) | (right; simp; done) | (right; omega) | (right; simp at *; omega) | (simp at *; omega)) _ | with_reducible refine Chg.trans ?_ (by with_reducible assumption) (by intro i hi hT; first | exact hT | exact False.elim hT | omega | (simp at *; omega)))) (fun _ _ h => h)
                  go_wp2_with fail
                  refine (left_ef _ _ B 3 F HE9.out).mono ?_; rintro e wA ⟨rfl, gA⟩
                  have HEA := Lib.hid (HE9.out.chg gA (fun _ _ h => h.elim) id)
                  have GA := Lib.hid (G9.out.trans gA (fun _ _ h => h))
                  rw [← HSC.out]
                  clear gA
                  go_wp2_with fail
                  refine (used_c wA _ B 3 F 2 false HEA.out (by decide) (used_out (by omega))).mono ?_; rintro e wB ⟨rfl, gB⟩
                  have gB' := Chg.ofBelow (S := fun _ => False) gB
                  have HEB := Lib.hid (HEA.out.chg gB' (fun _ _ h => h.elim) id)
                  have GB := Lib.hid (GA.out.trans gB' (fun _ _ h => h))
                  clear gB gB'
                  go_wp2_with fail
                  refine (used_c wB _ B 3 F (3 + (j : Int)) false HEB.out (by omega) (used_out (by omega))).mono ?_; rintro e wC ⟨rfl, gC⟩
                  go_wp2
                  go_ret
                  exact ⟨by simp, Chg.below (GB.out.trans (Chg.ofBelow gC) (fun _ _ h => h))⟩
end Go.Proofs.Ytheiodnckjmieaa
