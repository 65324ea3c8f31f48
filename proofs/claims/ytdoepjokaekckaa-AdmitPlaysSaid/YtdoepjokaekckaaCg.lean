/- The law Plays. -/
import Derived.Test.YtdoepjokaekckaaCe
import Derived.Test.YtdoepjokaekckaaBt
import Derived.Deep.RegionLaw
import Derived.Deep.DeepCutAuto
namespace Go.Proofs.Ytdoepjokaekckaa
set_option linter.unusedVariables false
open Go.RowKit

section
variable {P : Program} {ops : Array Oper} {o : Oper} {act : Act} {w : World} {K : Act → World → Prop} {Q : Exit → Act → World → Prop} {E : Prop}
/-- A call of a Go function, at a step of a region that draws its order. -/
theorem step_calls {f : FuncId} {args : Array Value} (hgd : o.guard = none) (hrun : (execOp act.eval o).run P w = .ok (.enter f args) w) (h : Calls P f args w fun e w' => ∃ v, e = .returned v ∧ K (act.put o.dst v) w') : if Region.wanted o (yielded ops act.tmps) = true then Oper.wp P o act w K Q else E := by
  have hw : Region.wanted o (yielded ops act.tmps) = true := by simp [Region.wanted, hgd]
  rw [if_pos hw]
  unfold Oper.wp
  rw [hrun]
  show Calls P f args w _
  refine h.mono fun e w' he => ?_
  obtain ⟨v, rfl, hk⟩ := he
  exact hk
/-- Held numbers appended to nothing. -/
theorem step_held (hgd : o.guard = none) (s x : Operand) (t : TypeId) (ho : o.op = .call { callee := .builtin .append, args := #[s, x], argTypes := #[t, t] }) (B : Nat) (e : TypeId) (i : TypeInfo) (z : Value) (ht : P.underlying t = some (.slice e)) (hi : P.info? e = some i) (hz : i.zero = some z)
    (hsize : i.size = 1) (hby : i.bytes = 8) (hzs : z.cells.size = 1) {a ax : Option Addr} {cap cx : Nat} {hs : List Int} (hs0 : act.eval s = .slice a 0 cap) (hx : act.eval x = .slice ax hs.length cx) (rs : w.ownsRow B e 1 (.slice a 0 cap) 0 []) (hle : hs.length ≤ 100) (hnil : ax = none → hs.length = 0 ∧ cx = 0) (hh : IsH w ax hs) (hb : B ≤ w.heap.size)
    (h : ∀ a' c' w', IsH w' a' hs → w.grownBy w' (Value.slice a 0 cap).ownBlock → K (act.put o.dst (.slice a' hs.length c')) w') : if Region.wanted o (yielded ops act.tmps) = true then Oper.wp P o act w K Q else E := by
  have hw : Region.wanted o (yielded ops act.tmps) = true := by simp [Region.wanted, hgd]
  rw [if_pos hw]
  by_cases hm : hs.length = 0
  · have hn : hs = [] := List.eq_nil_of_length_eq_zero hm
    subst hn
    have hsrc : Src P 1 t (.slice ax 0 cx) 0 [] w := by
      cases ax with
      | none =>
        obtain ⟨_, rfl⟩ := hnil rfl
        exact Src.ofNil w ht 0
      | some x => exact Src.ofSlice w ht x 0 cx [] rfl (fun j u hj => by cases hj) (fun u hu => by cases hu)
    have hrun := run_append_nothing (P := P) w t t o.type e i ht hi a 0 cap (Nat.zero_le _) _ (by rw [hsize]; exact hsrc)
    unfold Oper.wp
    simp [execOp, ho, resolve, invoke, builtin, hs0, hx, hrun, Result.andThen]
    exact h a cap w (isH_nil _ _) (World.grownBy.refl _ _)
  · obtain ⟨x0, rfl⟩ : ∃ x, ax = some x := by
      cases ax with
      | none => exact absurd (hnil rfl).1 hm
      | some x => exact ⟨x, rfl⟩
    have hx0 : ∀ j u, (nums hs)[j]? = some u → w.cell? (x0.add j) = some u := fun j u hj => by
      have hjl := (List.getElem?_eq_some_iff.1 hj).1
      rw [nums_len] at hjl
      obtain ⟨g, o2, e1, e2⟩ := hh j _ (List.getElem?_eq_getElem hjl)
      injection e1 with e1
      subst e1
      rw [Addr.add_lit, e2, ← hj, nums_at (List.getElem?_eq_getElem hjl)]
    obtain ⟨v', w', hrun, h2, h3, _⟩ := run_append_own (P := P) w B t o.type e i z 1 8 ht hi hz hsize hby hzs (by decide) (.slice a 0 cap) 0 [] rs x0 hs.length cx (nums hs) (by rw [nums_len]; omega) hx0 (nums_one _) (by unfold maxLen; omega) (by omega) hb
    obtain ⟨a', c', rfl, _⟩ := own_form h2
    rw [Nat.zero_add] at hrun h2
    rw [List.nil_append] at h2
    unfold Oper.wp
    simp [execOp, ho, resolve, invoke, builtin, hs0, hx, hrun, Result.andThen]
    have hrd : RdS w' 1 a' hs.length c' (nums hs) := RdS.row h2 (nums_one _)
    exact h a' c' w' (show IsK w' a' c' hs from hrd).held h3
end
set_option maxHeartbeats 16000000 in
set_option maxRecDepth 4000 in
theorem admitPlays_any (all share : Int) (v : Value) (xs : List Av) (w : World) (haw : (Lit.int .i64 all).wf = true) (hsw : (Lit.int .i64 share).wf = true) (hL : IsLA w v xs) :
    Calls Try.prog 3 #[.agg #[.int .i64 all, .int .i64 share], v] w fun e w' => e = .returned (.bool true) ∧ Below w.heap.size w w' := by
  obtain ⟨a, c, rfl, hlen, _⟩ := id hL.2
  have HL := Lib.hid hL
  obtain ⟨ie, hie, ez0, ez1, ez2⟩ := info_parts infoI64
  clear hL
  go_enter Try.func3, Try.ntmps3
  go_upto_region 1 with fail
  refine name_region ?_; intro W hW
  have gW : Chg (fun _ => False) w W := by subst hW; exact (by repeat (first | with_reducible exact Chg.refl _ _ | with_reducible assumption | with_reducible refine Chg.drewN ?_ _ | with_reducible refine Chg.drew ?_ | with_reducible refine Chg.alloc ?_ _ | with_reducible refine Chg.setCell ?_ (by first | (left; rfl) | (left; left; rfl) | (left; right; rfl) | (left; right; left; rfl) | (left; right; right; rfl) | (right; exact Nat.le_refl _) | (right; simp; done) | (right; omega) | (right; simp at *; omega) | (simp at *; omega)) _ | with_reducible refine Chg.trans ?_ (by with_reducible assumption) (by intro i hi hT; first | exact hT | exact False.elim hT | omega | (simp at *; omega))))
  have b0 : W.cell? ⟨w.heap.size, 0, none⟩ = some (.int .i64 all) := by subst hW; go_simp
  have b1 : W.cell? ⟨w.heap.size, 1, none⟩ = some (.int .i64 share) := by subst hW; go_simp
  clear hW
  have lW := cell_lt b0
  go_wp2_with fail
  refine (alive_any W).mono ?_; rintro e w1 ⟨rfl, g1⟩
  have G1 := Lib.hid (gW.trans g1 fun _ _ h => h)
  replace b0 := (g1.cell lW id _).trans b0
  replace b1 := (g1.cell lW id _).trans b1
  have l1 := cell_lt b0
  clear g1 gW
  by_cases h60 : (60 : Int) < ↑xs.length
  · go_wp2
    go_ret
    exact ⟨rfl, Chg.below G1.out⟩
  have h60' : xs.length ≤ 60 := by omega
  by_cases hsz : 0 ≤ share ∧ share ≤ all ∧ all ≤ 1125899906842624
  · have HSZ := Lib.hid hsz
    clear hsz
    go_wp2_with fail
    refine (new_door w1 all share HSZ.out).mono ?_; rintro e w2 ⟨d, lab0, rfl, hd, hl, g2⟩
    have H2 := Lib.hid hd
    have L2 := Lib.hid (And.intro hl g2)
    replace b0 := (g2.cell l1 id _).trans b0
    replace b1 := (g2.cell l1 id _).trans b1
    clear hd hl g2
    go_wp2_with fail
    refine (rnew_door w2 all share HSZ.out).mono ?_; rintro e w3 ⟨b, lr0, rfl, hd, hl, g3⟩
    have H3 : Hid (PlI w1 lab0 lr0 d b all share 0 [] [] [] 0 w3) := ⟨H2.out.still g3, hd, fun i => by
      rcases Nat.lt_or_ge i w2.heap.size with h | h
      · exact .inr (hl i h)
      · exact .inl (H2.out.low h), L2.out.2.trans g3 fun _ _ h => h, fun i hi => ⟨L2.out.1 i hi, hl i (Nat.lt_of_lt_of_le hi L2.out.2.size)⟩, by simp, by simp, by simp⟩
    clear hd hl g3 b0 b1
    go_wp2_with fail
    go_loopw [50] (fun i wr => ∃ (k : Nat) (lab lr : Nat → Nat) (N : Nat) (T K : List Tg) (ns : List Int), k ≤ xs.length ∧ i = .int .i64 (↑k : Int) ∧ Hid (PlI w1 lab lr d b all share N T K ns k wr)) (fun i _ => xs.length - (intOf i).toNat)
    case atStart => exact ⟨0, lab0, lr0, 0, [], [], [], by omega, rfl, H3.out⟩
    case round =>
      obtain ⟨k, lab, lr, N, T, K, ns, hk, rfl, HR⟩ := hrel
      obtain ⟨wo, hwo⟩ : ∃ wo, wo = wr := ⟨_, rfl⟩
      subst hwo
      have GO : Hid (Chg (fun _ => False) w wo) := G1.out.trans HR.out.g fun _ _ h => h
      have hrn := HR.out.n
      have hrl := HR.out.l
      have hrs := HR.out.s
      by_cases hkt : k < xs.length
      · obtain ⟨⟨kd, ⟨y, m, q, qn⟩, ks⟩, ht⟩ : ∃ t, xs[k]? = some t := ⟨_, List.getElem?_eq_getElem hkt⟩
        obtain ⟨g, o, rfl, lg, q0, q1, q2, q3, q4, ha, hc, q5, q6, q7⟩ := HL.out.at ht
        obtain ⟨wkd, ⟨yw, mw, qsw, qnw⟩, hks, hkb⟩ := HL.out.1 _ (List.mem_of_getElem? ht)
        simp only at q0 q1 q2 q3 q4 q5 q6 q7 wkd yw mw qsw qnw hks hkb
        have HWF := Lib.hid (And.intro yw (And.intro mw (And.intro qsw qnw)))
        have HKS := Lib.hid hks
        have HQ6 := Lib.hid q6
        have HQ7 := Lib.hid q7
        have k0 := (GO.out.cell lg id _).trans q0
        have k1 := (GO.out.cell lg id _).trans q1
        have k2 := (GO.out.cell lg id _).trans q2
        have k3 := (GO.out.cell lg id _).trans q3
        have k4 := (GO.out.cell lg id _).trans q4
        have k5 := (GO.out.cell lg id _).trans q5
        clear q0 q1 q2 q3 q4 q5 q6 q7 ht lg wkd yw mw qsw qnw hks hkb
        go_upto_region 14 with fail
        refine name_region ?_; intro W4 hW4
        have gW : Chg (fun _ => False) wo W4 := by subst hW4; exact (by repeat (first | with_reducible exact Chg.refl _ _ | with_reducible assumption | with_reducible refine Chg.drewN ?_ _ | with_reducible refine Chg.drew ?_ | with_reducible refine Chg.alloc ?_ _ | with_reducible refine Chg.setCell ?_ (by first | (left; rfl) | (left; left; rfl) | (left; right; rfl) | (left; right; left; rfl) | (left; right; right; rfl) | (right; exact Nat.le_refl _) | (right; simp; done) | (right; omega) | (right; simp at *; omega) | (simp at *; omega)) _ | with_reducible refine Chg.trans ?_ (by with_reducible assumption) (by intro i hi hT; first | exact hT | exact False.elim hT | omega | (simp at *; omega))))
        have f0 : W4.cell? ⟨wo.heap.size, 0, none⟩ = some (.int .i64 kd) := by subst hW4; go_simp
        have f1 : W4.cell? ⟨wo.heap.size, 1, none⟩ = some (.int .i64 y) := by subst hW4; go_simp
        have f2 : W4.cell? ⟨wo.heap.size, 2, none⟩ = some (.int .i64 m) := by subst hW4; go_simp
        have f3 : W4.cell? ⟨wo.heap.size, 3, none⟩ = some (.string q) := by subst hW4; go_simp
        have f4 : W4.cell? ⟨wo.heap.size, 4, none⟩ = some (.int .u64 qn) := by subst hW4; go_simp
        have f5 : W4.cell? ⟨wo.heap.size, 5, none⟩ = some (.slice ha ks.length hc) := by subst hW4; go_simp
        clear hW4 k0 k1 k2 k3 k4 k5
        have HW := Lib.hid (HR.out.still gW)
        have HKW := Lib.hid (HQ7.out.keep (GO.out.trans gW fun _ _ h => h))
        have zb : lab wo.heap.size = 0 := HR.out.dr.low (Nat.le_refl _)
        have zr : lr wo.heap.size = 0 := HR.out.rd.low (Nat.le_refl _)
        have ZB := Lib.hid (And.intro zb zr)
        have l4 := cell_lt f0
        clear gW zb zr
        by_cases h20 : (20 : Int) < ↑ks.length
        · go_wp2
          go_ret
          exact ⟨rfl, Chg.below (G1.out.trans HW.out.g fun _ _ h => h)⟩
        by_cases h300 : (300 : Int) < ↑q.size
        · go_wp2
          go_ret
          exact ⟨rfl, Chg.below (G1.out.trans HW.out.g fun _ _ h => h)⟩
        have h20' : ks.length ≤ 20 := by omega
        by_cases hkd : kd = 0
        · subst hkd
          go_upto_region 20 with fail
          go_cut [11, 12] (fun o11 o12 wx => ∃ (a9 : Option Addr) (c9 : Nat) (lab9 : Nat → Nat) (N9 : Nat), o11 = .bool (offB all share T K ns (y, m, q, qn) ks) ∧ o12 = .slice a9 (offG all share T K ns (y, m, q, qn) ks).length c9 ∧ Hid (PlH w1 lab lr lab9 d b all share N9 T K (offT all share T K ns (y, m, q, qn) ks) (offK all share T K ns (y, m, q, qn) ks) ns ns wx ∧ (N9 + 3 * (offT all share T K ns (y, m, q, qn) ks ++ offK all share T K ns (y, m, q, qn) ks).length ≤ 6 * (k + 1) ∧ (offT all share T K ns (y, m, q, qn) ks ++ offK all share T K ns (y, m, q, qn) ks).length ≤ k + 1) ∧ IsK wx a9 c9 (keyT (offG all share T K ns (y, m, q, qn) ks)) ∧ (∀ g, (Value.slice a9 (offG all share T K ns (y, m, q, qn) ks).length c9).ownBlock = some g → lab9 g = 0 ∧ lr g = 0) ∧
            wx.cell? ⟨wo.heap.size, 0, none⟩ = some (.int .i64 0) ∧ wx.cell? ⟨wo.heap.size, 1, none⟩ = some (.int .i64 y) ∧ wx.cell? ⟨wo.heap.size, 2, none⟩ = some (.int .i64 m) ∧ wx.cell? ⟨wo.heap.size, 3, none⟩ = some (.string q) ∧ wx.cell? ⟨wo.heap.size, 4, none⟩ = some (.int .u64 qn) ∧ wx.cell? ⟨wo.heap.size, 5, none⟩ = some (.slice ha ks.length hc)))
          case first =>
            go_region_law (first
              | (refine step_calls (f := 12) (args := #[.agg #[.int .i64 y, .int .i64 m, .string q, .int .u64 qn]]) (by rfl) ?hr ?_
                 case hr => (go_simp; done)
                 refine (thing_any _ y m q qn).mono ?_
                 rintro e V1 ⟨rfl, jT⟩
                 refine ⟨.agg #[.int .i64 y, .int .i64 m, .string q, .int .u64 qn], rfl, ?_⟩
                 have jV : Chg (fun _ => False) W4 V1 := Chg.trans (show Chg (fun _ => False) W4 _ from (by repeat (first | with_reducible exact Chg.refl _ _ | with_reducible assumption | with_reducible refine Chg.drewN ?_ _ | with_reducible refine Chg.drew ?_ | with_reducible refine Chg.alloc ?_ _ | with_reducible refine Chg.setCell ?_ (by first | (left; rfl) | (left; left; rfl) | (left; right; rfl) | (left; right; left; rfl) | (left; right; right; rfl) | (right; exact Nat.le_refl _) | (right; simp; done) | (right; omega) | (right; simp at *; omega) | (simp at *; omega)) _ | with_reducible refine Chg.trans ?_ (by with_reducible assumption) (by intro i hi hT; first | exact hT | exact False.elim hT | omega | (simp at *; omega))))) jT fun _ _ h => h
                 have x5 := (jV.cell l4 id _).trans f5
                 have lV := cell_lt x5
                 have sV := jV.size)
              | (refine step_held (by rfl) _ _ 35 (by rfl) W4.heap.size 2 ie _ Try.underlying35 hie ez0 ez1 ez2 rfl (hs := ks) (ax := ha) (cx := hc) (by rfl) (by rfl) ?rs (by omega) HQ6.out.2.2 ?hh ?hb ?_
                 case rs => (first | exact own_drew (row_empty (w := W4) (by simp) (by simp) (by unfold maxLen; omega)) | exact own_chg (own_drew (row_empty (w := W4) (by simp) (by simp) (by unfold maxLen; omega))) jT (fun _ _ _ _ => id) | exact row_empty (by simp) (by first | assumption | simp | omega) (by unfold maxLen; omega))
                 case hh => (exact HKW.out.keep (show Chg (fun _ => False) W4 _ from (by repeat (first | with_reducible exact Chg.refl _ _ | with_reducible assumption | with_reducible refine Chg.drewN ?_ _ | with_reducible refine Chg.drew ?_ | with_reducible refine Chg.alloc ?_ _ | with_reducible refine Chg.setCell ?_ (by first | (left; rfl) | (left; left; rfl) | (left; right; rfl) | (left; right; left; rfl) | (left; right; right; rfl) | (right; exact Nat.le_refl _) | (right; simp; done) | (right; omega) | (right; simp at *; omega) | (simp at *; omega)) _ | with_reducible refine Chg.trans ?_ (by with_reducible assumption) (by intro i hi hT; first | exact hT | exact False.elim hT | omega | (simp at *; omega))))))
                 case hb => (first | omega | (simp; omega))
                 intro X1 D1 V2 hh1 hg1
                 have s1 := hg1.size
                 have j1 : Chg (fun _ => False) W4 V2 := Chg.grown (by repeat (first | with_reducible exact Chg.refl _ _ | with_reducible assumption | with_reducible refine Chg.drewN ?_ _ | with_reducible refine Chg.drew ?_ | with_reducible refine Chg.alloc ?_ _ | with_reducible refine Chg.setCell ?_ (by first | (left; rfl) | (left; left; rfl) | (left; right; rfl) | (left; right; left; rfl) | (left; right; right; rfl) | (right; exact Nat.le_refl _) | (right; simp; done) | (right; omega) | (right; simp at *; omega) | (simp at *; omega)) _ | with_reducible refine Chg.trans ?_ (by with_reducible assumption) (by intro i hi hT; first | exact hT | exact False.elim hT | omega | (simp at *; omega)))) hg1 (fun k hk => .inr (by simp [Value.ownBlock] at hk; omega))
                 have x1 := (j1.cell l4 id 1).trans f1)
              | (refine step_calls (f := 11) (args := #[.pointer (some ⟨d, 0, none⟩), .agg #[.int .i64 y, .int .i64 m, .string q, .int .u64 qn], .slice X1 ks.length D1]) (by rfl) ?hr ?_
                 case hr => (go_simp; done)
                 refine name_calls ?_; intro V8 hV8
                 have j8 : Chg (fun _ => False) W4 V8 := by rw [hV8]; exact (by repeat (first | with_reducible exact Chg.refl _ _ | with_reducible assumption | with_reducible refine Chg.drewN ?_ _ | with_reducible refine Chg.drew ?_ | with_reducible refine Chg.alloc ?_ _ | with_reducible refine Chg.setCell ?_ (by first | (left; rfl) | (left; left; rfl) | (left; right; rfl) | (left; right; left; rfl) | (left; right; right; rfl) | (right; exact Nat.le_refl _) | (right; simp; done) | (right; omega) | (right; simp at *; omega) | (simp at *; omega)) _ | with_reducible refine Chg.trans ?_ (by with_reducible assumption) (by intro i hi hT; first | exact hT | exact False.elim hT | omega | (simp at *; omega))))
                 have h8 : IsH V8 X1 ks := hh1.keep (by rw [hV8]; exact (by repeat (first | with_reducible exact Chg.refl _ _ | with_reducible assumption | with_reducible refine Chg.drewN ?_ _ | with_reducible refine Chg.drew ?_ | with_reducible refine Chg.alloc ?_ _ | with_reducible refine Chg.setCell ?_ (by first | (left; rfl) | (left; left; rfl) | (left; right; rfl) | (left; right; left; rfl) | (left; right; right; rfl) | (right; exact Nat.le_refl _) | (right; simp; done) | (right; omega) | (right; simp at *; omega) | (simp at *; omega)) _ | with_reducible refine Chg.trans ?_ (by with_reducible assumption) (by intro i hi hT; first | exact hT | exact False.elim hT | omega | (simp at *; omega)))))
                 clear hV8
                 have HV := Lib.hid (HW.out.still j8)
                 refine (offer_dr V8 lab d N all share T K ns y m q qn X1 D1 ks HV.out.dr (by omega) (wfI64 HWF.out.1) (wfU64 HWF.out.2.2.2) HWF.out.2.2.1 (by omega) h8 (by omega) (fun z hz => wfI64 (HKS.out z hz))).mono ?_
                 rintro e V9 hP
                 obtain ⟨a9, c9, lab9, N9, rfl, k9, q9, hd9, hl9, F1, F2⟩ := off_nf hP HV.out.dr
                 refine ⟨_, rfl, ?_⟩
                 have l8 : wo.heap.size < V8.heap.size := Nat.lt_of_lt_of_le l4 j8.size
                 have z8 : ¬ (1 ≤ lab wo.heap.size ∧ lab wo.heap.size ≤ 5) := by have := ZB.out.1; omega
                 have HPH : Hid (PlH w1 lab lr lab9 d b all share N9 T K (offT all share T K ns (y, m, q, qn) ks) (offK all share T K ns (y, m, q, qn) ks) ns ns V9 ∧ (N9 + 3 * (offT all share T K ns (y, m, q, qn) ks ++ offK all share T K ns (y, m, q, qn) ks).length ≤ 6 * (k + 1) ∧ (offT all share T K ns (y, m, q, qn) ks ++ offK all share T K ns (y, m, q, qn) ks).length ≤ k + 1) ∧ IsK V9 a9 c9 (keyT (offG all share T K ns (y, m, q, qn) ks)) ∧ (∀ g, (Value.slice a9 (offG all share T K ns (y, m, q, qn) ks).length c9).ownBlock = some g → lab9 g = 0 ∧ lr g = 0) ∧
                   V9.cell? ⟨wo.heap.size, 0, none⟩ = some (.int .i64 0) ∧ V9.cell? ⟨wo.heap.size, 1, none⟩ = some (.int .i64 y) ∧ V9.cell? ⟨wo.heap.size, 2, none⟩ = some (.int .i64 m) ∧ V9.cell? ⟨wo.heap.size, 3, none⟩ = some (.string q) ∧ V9.cell? ⟨wo.heap.size, 4, none⟩ = some (.int .u64 qn) ∧ V9.cell? ⟨wo.heap.size, 5, none⟩ = some (.slice ha ks.length hc)) :=
                   ⟨HV.out.half hd9 hl9, ⟨by omega, by omega⟩, k9, fun g hg => ⟨(q9 g hg).1, HV.out.rd.low (q9 g hg).2⟩, (hl9.2.cell l8 z8 _).trans ((j8.cell l4 id _).trans f0), (hl9.2.cell l8 z8 _).trans ((j8.cell l4 id _).trans f1), (hl9.2.cell l8 z8 _).trans ((j8.cell l4 id _).trans f2), (hl9.2.cell l8 z8 _).trans ((j8.cell l4 id _).trans f3), (hl9.2.cell l8 z8 _).trans ((j8.cell l4 id _).trans f4), (hl9.2.cell l8 z8 _).trans ((j8.cell l4 id _).trans f5)⟩
                 clear hP hd9 hl9 k9 q9 F1 F2 l8 z8))
            all_goals go_wp2
            all_goals go_meet
            all_goals exact ⟨a9, c9, lab9, N9, rfl, rfl, HPH.out⟩
          case rest =>
            obtain ⟨a9, c9, lab9, N9, rfl, rfl, HX⟩ := hcut
            obtain ⟨wx, hwx⟩ : ∃ wx, wx = wc := ⟨_, rfl⟩
            subst hwx
            have f1s := HX.out.2.2.2.2.2.1
            have f2s := HX.out.2.2.2.2.2.2.1
            have f3s := HX.out.2.2.2.2.2.2.2.1
            have f4s := HX.out.2.2.2.2.2.2.2.2.1
            have f5s := HX.out.2.2.2.2.2.2.2.2.2
            have hbd := HX.out.2.1
            obtain ⟨ob, hob⟩ : ∃ u, u = offB all share T K ns (y, m, q, qn) ks := ⟨_, rfl⟩
            obtain ⟨G, hG⟩ : ∃ u, u = offG all share T K ns (y, m, q, qn) ks := ⟨_, rfl⟩
            obtain ⟨T9, hT⟩ : ∃ u, u = offT all share T K ns (y, m, q, qn) ks := ⟨_, rfl⟩
            obtain ⟨K9, hK⟩ : ∃ u, u = offK all share T K ns (y, m, q, qn) ks := ⟨_, rfl⟩
            rw [← hob, ← hG]
            rw [← hT, ← hK] at hbd
            have HE := Lib.hid (And.intro hob (And.intro hG (And.intro hT hK)))
            have lx := cell_lt f1s
            clear hob hG hT hK f0 f1 f2 f3 f4 f5
            go_wp2_with fail
            refine (roffer_any wx lr b all share T K ns y m q qn ha hc ks HX.out.1.rd (by omega) (wfI64 HWF.out.1) (wfU64 HWF.out.2.2.2) (by omega) (HQ7.out.keep (G1.out.trans HX.out.1.g fun _ _ h => h)) (by omega)).mono ?_; rintro e w10 hR
            obtain ⟨a10, c10, lr10, rfl, k10, _, hd10, hl10⟩ := roff_nf hR HX.out.1.rd
            rw [← HE.out.1, ← HE.out.2.1]
            rw [← HE.out.2.1] at k10
            have hS := HX.out.1.whole (k' := k + 1) hd10 hl10 (by rw [← HE.out.2.2.1, ← HE.out.2.2.2]; omega) (by omega) (by rw [← HE.out.2.2.1, ← HE.out.2.2.2]; omega)
            rw [← HE.out.2.2.1, ← HE.out.2.2.2] at hS
            have HS := Lib.hid hS
            have k9 : IsK w10 a9 c9 (keyT G) := by
              have h1 := HX.out.2.2.1
              have h2 := HX.out.2.2.2.1
              rw [← HE.out.2.1] at h1 h2
              exact h1.keep hl10.2 fun g hg e => by
                rw [keyT_len] at hg
                have := (h2 g hg).2; omega
            have HK9 := Lib.hid (And.intro k9 k10)
            have gl : G.length ≤ 9223372036854775807 := by
              have h10 : (keyT G).length ≤ maxLen := Nat.le_trans k9.le.1 k9.le.2
              rw [keyT_len] at h10
              unfold maxLen at h10
              exact h10
            replace f3s := (hl10.2.cell lx (by have := ZB.out.2; omega) _).trans f3s
            clear hR hd10 hl10 hS k9 k10 f1s f2s f4s f5s
            go_wp2_with fail
            have hnum := numbers_any w10 a9 a10 c9 c10 (keyT G) (keyT G) HK9.out.1 HK9.out.2
            rw [keyT_len, decP rfl] at hnum
            refine hnum.mono ?_; rintro e ws ⟨rfl, g11⟩
            have HS1 := Lib.hid (HS.out.still g11)
            replace f3s := (g11.cell (cell_lt f3s) id _).trans f3s
            clear g11 hnum
            go_wp2_with fail
            refine (same_any ws lab9 d N9 lr10 b all share T9 K9 ns ns q HS1.out.dr HS1.out.rd (by omega) (by omega) HWF.out.2.2.1).mono ?_; rintro e wz ⟨rfl, gz⟩
            have HZ := Lib.hid (HS1.out.still gz)
            clear gz f3s
            go_wp2
            go_roundw
            case rel => exact ⟨k + 1, lab9, lr10, N9, T9, K9, ns, by omega, by go_num, HZ.out⟩
            case measure => simp [intOf]; omega
        · have q0' : (kd == 0) = false := by simpa using hkd
          have HF := Lib.hid (And.intro f1 (And.intro f3 f4))
          have hlen9 : (touchX (all - all / 5) T K y).1.length + (touchX (all - all / 5) T K y).2.length = (T ++ K).length := by
            have h9 := (touch_perm (most := all - all / 5) (x := y) HW.out.rd.inv.nodup).length_eq
            simp only [List.length_append] at h9 ⊢
            omega
          have HL9 := Lib.hid hlen9
          have hdl := del_len T K y
          clear hlen9
          by_cases hk1 : kd = 1
          · subst hk1
            clear hkd
            go_wp2_with fail
            refine (ask_dr W4 lab d N all share T K ns y qn HW.out.dr HWF.out.1 (wfU64 HWF.out.2.2.2) (by omega) (by omega)).mono ?_; rintro e w5 ⟨rfl, lab5, hd5, hl5⟩
            obtain ⟨⟨T9, K9⟩, hTK⟩ : ∃ D, D = touchX (all - all / 5) T K y := ⟨_, rfl⟩
            rw [← hTK] at hd5
            have HH5 := Lib.hid (HW.out.half hd5 hl5)
            have HTK := Lib.hid hTK
            have hl9' : (T9 ++ K9).length = (T ++ K).length := by have := HL9.out; rw [← hTK] at this; rw [List.length_append]; exact this
            replace f1 := (hl5.2.cell l4 (by have := ZB.out.1; omega) _).trans f1
            replace f4 := (hl5.2.cell l4 (by have := ZB.out.1; omega) _).trans f4
            have f3s := (hl5.2.cell l4 (by have := ZB.out.1; omega) _).trans f3
            have l5 := cell_lt f1
            clear hd5 hl5 hTK f0 f2 f3 f5
            go_wp2_with fail
            refine (rask_any w5 lr b all share T K ns y qn HH5.out.rd (by omega) (wfU64 HWF.out.2.2.2) (by omega)).mono ?_; rintro e ws ⟨rfl, lr5, hd6, hl6⟩
            rw [← HTK.out] at hd6
            have HS1 := Lib.hid (HH5.out.whole (k' := k + 1) hd6 hl6 (by rw [hl9']; omega) (by simp; omega) (by omega))
            replace f3s := (hl6.2.cell l5 (by have := ZB.out.2; omega) _).trans f3s
            clear hd6 hl6 f1 f4
            go_wp2_with fail
            refine (same_any ws lab5 d (N + 1) lr5 b all share T9 K9 (ns ++ [qn]) (ns ++ [qn]) q HS1.out.dr HS1.out.rd (by omega) (by omega) HWF.out.2.2.1).mono ?_; rintro e wz ⟨rfl, gz⟩
            have HZ := Lib.hid (HS1.out.still gz)
            clear gz f3s
            go_wp2
            go_roundw
            case rel => exact ⟨k + 1, lab5, lr5, (N + 1), T9, K9, (ns ++ [qn]), by omega, by go_num, HZ.out⟩
            case measure => simp [intOf]; omega
          · have q1' : (kd == 1) = false := by simpa using hk1
            go_upto_region 17 with fail
            obtain ⟨r, hr⟩ : ∃ r, r = (getX (T ++ K) y).isSome := ⟨_, rfl⟩
            have HR9 := Lib.hid hr
            clear hr f0 f2 f4 f5 hkd hk1
            go_cut [77] (fun o77 wx => ∃ (lab9 lr9 : Nat → Nat), o77 = .bool false ∧ Hid (PlI w1 lab9 lr9 d b all share (N + 3) (delX T y) (delX K y) ns (k + 1) wx ∧ wx.cell? ⟨wo.heap.size, 3, none⟩ = some (.string q)))
            case first =>
              go_region_law (first
                | (refine step_calls (f := 17) (args := #[.pointer (some ⟨d, 0, none⟩), .int .i64 y]) (by rfl) ?hr ?_
                   case hr => (go_simp; done)
                   refine name_calls ?_; intro V8 hV8
                   have j8 : Chg (fun _ => False) W4 V8 := by rw [hV8]; exact (by repeat (first | with_reducible exact Chg.refl _ _ | with_reducible assumption | with_reducible refine Chg.drewN ?_ _ | with_reducible refine Chg.drew ?_ | with_reducible refine Chg.alloc ?_ _ | with_reducible refine Chg.setCell ?_ (by first | (left; rfl) | (left; left; rfl) | (left; right; rfl) | (left; right; left; rfl) | (left; right; right; rfl) | (right; exact Nat.le_refl _) | (right; simp; done) | (right; omega) | (right; simp at *; omega) | (simp at *; omega)) _ | with_reducible refine Chg.trans ?_ (by with_reducible assumption) (by intro i hi hT; first | exact hT | exact False.elim hT | omega | (simp at *; omega))))
                   clear hV8
                   have HV := Lib.hid (HW.out.still j8)
                   refine (drop_nf V8 lab d N all share T K ns y HV.out.dr HWF.out.1 (by omega)).mono ?_
                   rintro e V9 ⟨rfl, lab9, hd9, hl9⟩
                   rw [← HR9.out]
                   refine ⟨_, rfl, ?_⟩
                   have l8 : wo.heap.size < V8.heap.size := Nat.lt_of_lt_of_le l4 j8.size
                   have z8 : ¬ (1 ≤ lab wo.heap.size ∧ lab wo.heap.size ≤ 5) := by have := ZB.out.1; omega
                   have x1 := (hl9.2.cell l8 z8 _).trans ((j8.cell l4 id _).trans f1)
                   have HV9 := Lib.hid (And.intro (HV.out.half hd9 hl9) ((hl9.2.cell l8 z8 _).trans ((j8.cell l4 id _).trans f3)))
                   clear hd9 hl9 l8 z8)
                | (refine step_calls (f := 18) (args := #[.pointer (some ⟨b, 0, none⟩), .int .i64 y]) (by rfl) ?hr ?_
                   case hr => (go_simp; done)
                   refine (rdrop_any V9 lr b all share T K ns y HV9.out.1.rd (by omega)).mono ?_
                   rintro e V10 ⟨rfl, lr9, hd9, hl9⟩
                   rw [← HR9.out]
                   refine ⟨_, rfl, ?_⟩
                   have HZ10 : Hid (PlI w1 lab9 lr9 d b all share (N + 3) (delX T y) (delX K y) ns (k + 1) V10 ∧ V10.cell? ⟨wo.heap.size, 3, none⟩ = some (.string q)) := ⟨HV9.out.1.whole (k' := k + 1) hd9 hl9 (by omega) (by omega) (by omega), (hl9.2.cell (cell_lt HV9.out.2) (by have := ZB.out.2; omega) _).trans HV9.out.2⟩
                   clear hd9 hl9))
              all_goals go_wp2
              all_goals go_meet
              all_goals exact ⟨lab9, lr9, by simp, HZ10.out⟩
            case rest =>
              obtain ⟨lab9, lr9, rfl, HZ9⟩ := hcut
              obtain ⟨ws, hws⟩ : ∃ ws, ws = wc := ⟨_, rfl⟩
              subst hws
              have f3s := HZ9.out.2
              have HS1 : Hid (PlI w1 lab9 lr9 d b all share (N + 3) (delX T y) (delX K y) ns (k + 1) ws) := HZ9.out.1
              clear HZ9 f1 f3
              go_wp2_with fail
              refine (same_any ws lab9 d (N + 3) lr9 b all share (delX T y) (delX K y) ns ns q HS1.out.dr HS1.out.rd (by omega) (by omega) HWF.out.2.2.1).mono ?_; rintro e wz ⟨rfl, gz⟩
              have HZ := Lib.hid (HS1.out.still gz)
              clear gz f3s
              go_wp2
              go_roundw
              case rel => exact ⟨k + 1, lab9, lr9, (N + 3), (delX T y), (delX K y), ns, by omega, by go_num, HZ.out⟩
              case measure => simp [intOf]; omega
      · obtain rfl : k = xs.length := by omega
        go_wp2
        go_ret
        exact ⟨rfl, Chg.below GO.out⟩
  · have HSZ := Lib.hid hsz
    clear hsz
    go_wp2_with fail
    refine (new_none w1 all share HSZ.out).mono ?_; rintro e w2 ⟨rfl, rfl⟩
    go_wp2_with fail
    refine (rnew_none w1 all share HSZ.out).mono ?_; rintro e w2 ⟨rfl, g2⟩
    have G2 := Lib.hid (G1.out.trans g2 fun _ _ h => h)
    clear g2
    go_wp2
    go_ret
    exact ⟨rfl, Chg.below G2.out⟩
end Go.Proofs.Ytdoepjokaekckaa
