/- The law Limits. -/
import Derived.Test.YtdoepjokaekckaaBu
import Derived.Test.YtdoepjokaekckaaMid
import Derived.Maps.RangeWalk
namespace Go.Proofs.Ytdoepjokaekckaa
set_option linter.unusedVariables false
open Go.RowKit

section
variable {w : World} {ops : Array Oper} {rest : List Oper} {o : Oper} {a : Act} {Q : Exit → Act → World → Prop}
theorem list_nrange (hg : o.guard = none) (m : Operand) (hop : o.op = Op.range 49 m) (b n : Nat) (D : DataW Unit) (hm : a.eval m = .map (some b)) (h : w.ownsMap Try.prog 9 (plainElem Try.prog 2) b n D)
    (hK : ∀ w' left cnt, w'.ranges Try.prog 9 (plainElem Try.prog 2) b w.heap.size n D left cnt → Chg (fun _ => False) w w' → wpList Try.prog ops Q rest (a.put o.dst (.pointer (some ⟨w.heap.size, 0, none⟩))) w') : wpList Try.prog ops Q (o :: rest) a w :=
  wpList_range_own w hg m _ hop _ _ keyS Try.underlying49 _ b n D hm h fun w' h1 h2 _ => hK w' _ _ h1 (grown_chg h2 fun k hk => by cases hk)
set_option maxRecDepth 8000 in
theorem list_nnext (hg : o.guard = none) (it : Operand) (hop : o.op = Op.next it false) (b r n : Nat) (D : DataW Unit) (F : List UInt8 → Int) (left : Lit → Bool) (cnt : Nat) (hit : a.eval it = .pointer (some ⟨r, 0, none⟩)) (hD : NmD D F) (h : w.ranges Try.prog 9 (plainElem Try.prog 2) b r n D left cnt)
    (hDone : wpList Try.prog ops Q rest (a.put o.dst (.tuple #[.bool false])) w)
    (hMore : ∀ (s : ByteArray) (w' : World) (left' : Lit → Bool) (cnt' : Nat), s.size ≤ maxLen → w'.ranges Try.prog 9 (plainElem Try.prog 2) b r n D left' cnt' → cnt' < cnt → Chg (fun j => j = r) w w' →
      (Instr.entry (.pointer (some ⟨r, 0, none⟩))).run Try.prog w' = .ok (.tuple #[.string s, .int .i64 (F s.data.toList)]) w' → wpList Try.prog ops Q rest (a.put o.dst (.tuple #[.bool true, .string s, .int .i64 (F s.data.toList)])) w') : wpList Try.prog ops Q (o :: rest) a w := by
  have inv : ∀ key kl, keyOf Try.prog 9 key = some kl → ∃ s : ByteArray, key = .string s ∧ kl = kS s.data.toList ∧ s.size ≤ maxLen := fun key kl hk => by
    rw [keyOf_string Try.underlying9] at hk
    cases key <;> simp [mapKey, Try.underlying9] at hk
    obtain ⟨h1, h2⟩ := hk
    exact ⟨_, rfl, h2.symm, h1⟩
  refine wpList_next_ranges w hg it hop _ keyS _ Value.string (Value.int .i64) (fun key kl hk => by obtain ⟨s, rfl, _⟩ := inv key kl hk; exact ⟨s, rfl⟩) (fun v y hv => by obtain ⟨c, rfl, _⟩ := plainElem_int_inv Try.underlying2 hv; exact ⟨c, rfl⟩)
    b r n D left cnt hit h (fun _ _ => hDone) ?_
  intro s c kl y w' cnt' hkey _ hv hat hrg hlt hgr hsz hen
  obtain ⟨s', e1, rfl, hs⟩ := inv _ _ hkey
  injection e1 with e1
  subst e1
  obtain ⟨c', ec, e3, _⟩ := plainElem_int_inv Try.underlying2 hv
  injection ec with _ ec
  subst ec
  have h9 := hat (vI 0)
  rw [hD, e3] at h9
  have h8 : F s.data.toList = c := vI_inj h9
  have h7 := hMore s w' _ cnt' hs hrg hlt (grown_chg hgr fun k hk => by injection hk with hk; exact hk.symm)
  rw [h8] at h7
  exact h7 hen
theorem ranges_chg {P : Program} {k : TypeId} {R : Value → Option (DataW Unit × List MemPlace)} {b r n : Nat} {D : DataW Unit} {left : Lit → Bool} {cnt : Nat} {S : Nat → Prop} {w' : World} (h : w.ranges P k R b r n D left cnt) (c : Chg S w w') (hb : ¬ S b) (hr : ¬ S r) : w'.ranges P k R b r n D left cnt := by
  have l1 := h.owns.lt
  have l2 := h.lt
  obtain ⟨es, clock, since, seen, c0, h1, F, hs, hD, h2, rest⟩ := h
  exact ⟨es, clock, since, seen, c0, (c.block b l1 hb).trans h1, F, hs, hD, (c.block r l2 hr).trans h2, rest⟩
end
/-- Those of the held numbers so far that are in. -/
structure StI (w3 : World) (X : List Tg) (hs : List Int) (k : Nat) (wr : World) (a : Option Addr) (c : Nat) (ys : List Int) : Prop where
  row : wr.ownsRow w3.heap.size 2 1 (.slice a ys.length c) ys.length (nums ys)
  g : Chg (fun _ => False) w3 wr
  len : ys.length ≤ k
  mem : ∀ y ∈ ys, y ∈ hs ∧ (getX X y).isSome = true
theorem thing_below (w : World) (x n : Int) (s : ByteArray) (nm : Int) : Calls Try.prog 12 #[.agg #[.int .i64 x, .int .i64 n, .string s, .int .u64 nm]] w fun e w' => e = .returned (.agg #[.int .i64 x, .int .i64 n, .string s, .int .u64 nm]) ∧ Below w.heap.size w w' :=
  (thing_any w x n s nm).mono fun _ _ ⟨h1, h2⟩ => ⟨h1, Chg.below h2⟩
set_option maxHeartbeats 8000000 in
set_option maxRecDepth 4000 in
theorem admitLimits_any (al sh : Int) (v : Value) (xs : List Av) (w : World) (hal : (Lit.int .u16 al).wf = true) (hsh : (Lit.int .u16 sh).wf = true) (hL : IsLA w v xs) :
    Calls Try.prog 4 #[.int .u16 al, .int .u16 sh, v] w fun e w' => e = .returned (.bool true) ∧ Below w.heap.size w w' := by
  have hab := wfU16 hal
  have hsb := wfU16 hsh
  obtain ⟨a, c, rfl, hlen, _⟩ := id hL.2
  have HL := Lib.hid hL
  obtain ⟨ie, hie, ez0, ez1, ez2⟩ := info_parts infoI64
  have hmm := @run_makeMap Try.prog
  clear hL
  go_enter Try.func4, Try.ntmps4
  go_wp2_with fail
  refine (alive_any w).mono ?_; rintro e w1 ⟨rfl, g1⟩
  by_cases h60 : (60 : Int) < ↑xs.length
  · have G1 := Lib.hid g1
    clear g1
    go_wp2
    go_ret
    exact ⟨rfl, Chg.below G1.out⟩
  have G1 := Lib.hid g1
  have h60' : xs.length ≤ 60 := by omega
  clear g1
  obtain ⟨room, hroom⟩ : ∃ o, o = max al sh := ⟨_, rfl⟩
  obtain ⟨own, hown⟩ : ∃ o, o = min al sh := ⟨_, rfl⟩
  have ob : 0 ≤ own ∧ own ≤ room ∧ room ≤ 65535 := by omega
  have HMX := Lib.hid (And.intro hroom hown)
  clear hroom hown
  go_upto_region 5 with fail
  go_cut [7] (fun o7 wx => o7 = .int .i64 room ∧ w1 = wx)
  case first =>
    have e1 : IntKind.i64.wrap al = al := IntWalk.i64_in _ (by omega)
    have e2 : IntKind.i64.wrap sh = sh := IntWalk.i64_in _ (by omega)
    go_wp2
    all_goals
      go_meet
      exact ⟨by rw [HMX.out.1]; congr 1; omega, rfl⟩
  case rest =>
    obtain ⟨rfl, rfl⟩ := hcut
    go_upto_region 6 with fail
    go_cut [8] (fun o8 wx => o8 = .int .i64 own ∧ w1 = wx)
    case first =>
      have e1 : IntKind.i64.wrap al = al := IntWalk.i64_in _ (by omega)
      have e2 : IntKind.i64.wrap sh = sh := IntWalk.i64_in _ (by omega)
      go_wp2
      all_goals
        go_meet
        exact ⟨by rw [HMX.out.2]; congr 1; omega, rfl⟩
    case rest =>
      obtain ⟨rfl, rfl⟩ := hcut
      go_wp2_with fail
      refine (new_door w1 room own (by omega)).mono ?_; rintro e w2 ⟨d, lab0, rfl, hd, hl, g2⟩
      have H2 := Lib.hid hd
      have L2 := Lib.hid (And.intro hl g2)
      have hl1 := G1.out.size
      clear hd hl g2 h60
      go_wp2_with fail
      go_loopw [54] (fun i wr => ∃ (k : Nat) (lab : Nat → Nat) (N : Nat) (T K : List Tg) (ns : List Int), k ≤ xs.length ∧ i = .int .i64 (↑k : Int) ∧ Hid (LmI w lab d room own N T K ns k wr)) (fun i _ => xs.length - (intOf i).toNat)
      case atStart => exact ⟨0, lab0, 0, [], [], [], by omega, rfl, H2.out, G1.out.trans L2.out.2 fun _ _ h => h, fun i hi => L2.out.1 i (by omega), by simp, by simp, by simp⟩
      case round =>
        obtain ⟨k, lab, N, T, K, ns, hk, rfl, HR⟩ := hrel
        obtain ⟨wo, hwo⟩ : ∃ wo, wo = wr := ⟨_, rfl⟩
        subst hwo
        by_cases hkt : k < xs.length
        · obtain ⟨⟨kd, ⟨x, n, s, nm⟩, hs⟩, ht⟩ : ∃ t, xs[k]? = some t := ⟨_, List.getElem?_eq_getElem hkt⟩
          obtain ⟨g, o, rfl, lg, q0, q1, q2, q3, q4, ha, hc, q5, q6, q7⟩ := HL.out.at ht
          obtain ⟨wkd, ⟨hxw, hnw, hsw, hmw⟩, hhs, hhb⟩ := HL.out.1 _ (List.mem_of_getElem? ht)
          simp only at q0 q1 q2 q3 q4 q5 q6 q7 wkd hxw hnw hsw hmw hhs hhb
          have HWF := Lib.hid (And.intro wkd (And.intro hxw (And.intro hnw (And.intro hsw hmw))))
          have HHS := Lib.hid hhs
          have hhb' : hs.length * 8 ≤ 140737488351232 := hhb
          have HH0 := Lib.hid (q7.keep HR.out.g)
          have k0 := (HR.out.g.cell lg id _).trans q0
          have k1 := (HR.out.g.cell lg id _).trans q1
          have k2 := (HR.out.g.cell lg id _).trans q2
          have k3 := (HR.out.g.cell lg id _).trans q3
          have k4 := (HR.out.g.cell lg id _).trans q4
          have k5 := (HR.out.g.cell lg id _).trans q5
          clear q0 q1 q2 q3 q4 q5 q6 q7 ht lg wkd hnw hsw hmw hhs hhb
          go_upto_region 13 with fail
          refine name_region ?_; intro W hW
          have gW : Chg (fun _ => False) wo W := by subst hW; exact (by repeat (first | with_reducible exact Chg.refl _ _ | with_reducible assumption | with_reducible refine Chg.drewN ?_ _ | with_reducible refine Chg.drew ?_ | with_reducible refine Chg.alloc ?_ _ | with_reducible refine Chg.setCell ?_ (by first | (left; rfl) | (left; left; rfl) | (left; right; rfl) | (left; right; left; rfl) | (left; right; right; rfl) | (right; exact Nat.le_refl _) | (right; simp; done) | (right; omega) | (right; simp at *; omega) | (simp at *; omega)) _ | with_reducible refine Chg.trans ?_ (by with_reducible assumption) (by intro i hi hT; first | exact hT | exact False.elim hT | omega | (simp at *; omega))))
          have f0 : W.cell? ⟨wo.heap.size, 0, none⟩ = some (.int .i64 kd) := by subst hW; go_simp
          have f1 : W.cell? ⟨wo.heap.size, 1, none⟩ = some (.int .i64 x) := by subst hW; go_simp
          have f2 : W.cell? ⟨wo.heap.size, 2, none⟩ = some (.int .i64 n) := by subst hW; go_simp
          have f3 : W.cell? ⟨wo.heap.size, 3, none⟩ = some (.string s) := by subst hW; go_simp
          have f4 : W.cell? ⟨wo.heap.size, 4, none⟩ = some (.int .u64 nm) := by subst hW; go_simp
          have f5 : W.cell? ⟨wo.heap.size, 5, none⟩ = some (.slice ha hs.length hc) := by subst hW; go_simp
          clear hW k0 k1 k2 k3 k4 k5
          have HW := Lib.hid (HR.out.still gW)
          have HHW := Lib.hid (HH0.out.keep gW)
          have zb : lab wo.heap.size = 0 := HR.out.dr.low (Nat.le_refl _)
          have ZB := Lib.hid zb
          have lW := cell_lt f0
          have hrn := HR.out.n
          have hrs := HR.out.s
          have hrl := HR.out.l
          clear gW zb HH0
          by_cases hkd : kd = 0
          · subst hkd
            have HF := Lib.hid (And.intro f1 (And.intro f2 (And.intro f3 (And.intro f4 f5))))
            go_upto_region 16 with fail
            clear f0 f1 f2 f3 f4
            go_wp2_with fail
            go_loopw [13, 72] (fun o13 i wr => ∃ (k2 : Nat) (a2 : Option Addr) (c2 : Nat) (ys : List Int), k2 ≤ hs.length ∧ o13 = .slice a2 ys.length c2 ∧ i = .int .i64 (↑k2 : Int) ∧ Hid (StI W (T ++ K) hs k2 wr a2 c2 ys)) (fun _ i _ => hs.length - (intOf i).toNat)
            case atStart => exact ⟨0, none, 0, [], by omega, rfl, rfl, World.ownsRow_nil _ _ _ _, Chg.refl _ _, Nat.le_refl _, fun y hy => by cases hy⟩
            case round =>
              obtain ⟨k2, a2, c2, ys, hk2, rfl, rfl, HS⟩ := hrel
              obtain ⟨wa, hwa⟩ : ∃ wa, wa = wr := ⟨_, rfl⟩
              subst hwa
              have hyl := HS.out.len
              by_cases hkt2 : k2 < hs.length
              · obtain ⟨y, hy⟩ : ∃ y, hs[k2]? = some y := ⟨_, List.getElem?_eq_getElem hkt2⟩
                have hyw : (Lit.int .i64 y).wf = true := HHS.out y (List.mem_of_getElem? hy)
                have HY : Hid (y ∈ hs) := List.mem_of_getElem? hy
                obtain ⟨g2, o2, rfl, kk⟩ := (HHW.out.keep HS.out.g).at hy
                clear hy
                go_wp2_with fail
                refine (has_dr wa lab d N room own T K ns y (HW.out.still HS.out.g).dr hyw).mono ?_; rintro e w3 ⟨rfl, g3⟩
                have HS3 : Hid (StI W (T ++ K) hs k2 w3 a2 c2 ys) := ⟨own_chg HS.out.row g3 fun _ _ _ _ => id, HS.out.g.trans g3 fun _ _ h => h, HS.out.len, HS.out.mem⟩
                clear g3 kk
                cases hin : (getX (T ++ K) y).isSome with
                | false =>
                  clear hin
                  go_wp2
                  go_roundw
                  case rel => exact ⟨k2 + 1, a2, c2, ys, by omega, rfl, by go_num, HS3.out.row, HS3.out.g, by have := HS3.out.len; omega, HS3.out.mem⟩
                  case measure => simp [intOf]; omega
                | true =>
                  have HIN := Lib.hid hin
                  have hWs := HS3.out.g.size
                  clear hin
                  go_wp2_with (at_builtin; go_loud (refine list_owned rfl _ _ 35 rfl W.heap.size 2 ie _ 1 8 Try.underlying35 hie ez0 ez1 ez2 rfl (by decide) rfl rfl (HS3.out.row.alloc _) (nums_one _) (rd_one (u := .int .i64 y) (by go_simp) rfl) (by unfold maxLen; omega) (by omega) (by simp; omega) ?_; intro a4 c4 w4 ho4 hg4 hone4; have HO4 := Lib.hid ho4; have HG4 : Hid (Chg (fun _ => False) W w4) := Chg.grown (HS3.out.g.alloc _) hg4 (fun q hq => .inr (own_below HS3.out.row hq).1); clear ho4 hg4 hone4))
                  go_roundw
                  case rel =>
                    refine ⟨k2 + 1, a4, c4, ys ++ [y], by omega, by simp, by go_num, ?_, HG4.out, by simp; omega, fun u hu => ?_⟩
                    · rw [nums_snoc, List.length_append]; exact HO4.out
                    · rcases List.mem_append.1 hu with hu | hu
                      · exact HS3.out.mem u hu
                      · rw [List.mem_singleton.1 hu]; exact ⟨HY.out, HIN.out⟩
                  case measure => simp [intOf]; omega
              · obtain rfl : k2 = hs.length := by omega
                have l3 := HS.out.g.size
                have f1 := (HS.out.g.cell lW id _).trans HF.out.1
                have f2 := (HS.out.g.cell lW id _).trans HF.out.2.1
                have f3 := (HS.out.g.cell lW id _).trans HF.out.2.2.1
                have f4 := (HS.out.g.cell lW id _).trans HF.out.2.2.2.1
                have f5 := (HS.out.g.cell lW id _).trans HF.out.2.2.2.2
                have HA := Lib.hid (HW.out.still HS.out.g)
                have HHA := Lib.hid (HHW.out.keep HS.out.g)
                have la := cell_lt f1
                go_wp2_with fail
                refine (has_dr wa lab d N room own T K ns x HA.out.dr hxw).mono ?_; rintro e w3 ⟨rfl, g3⟩
                replace f1 := (g3.cell la id _).trans f1
                replace f2 := (g3.cell la id _).trans f2
                replace f3 := (g3.cell la id _).trans f3
                replace f4 := (g3.cell la id _).trans f4
                replace f5 := (g3.cell la id _).trans f5
                have H3 := Lib.hid (HA.out.still g3)
                have HH3 := Lib.hid (HHA.out.keep g3)
                have HY3 : Hid (w3.ownsRow W.heap.size 2 1 (.slice a2 ys.length c2) ys.length (nums ys)) := own_chg HS.out.row g3 fun _ _ _ _ => id
                have l3w := cell_lt f1
                obtain ⟨was, hwas⟩ : ∃ b, b = (getX (T ++ K) x).isSome := ⟨_, rfl⟩
                rw [← hwas]
                have HWAS := Lib.hid hwas
                clear g3 hwas HHA HA
                go_upto_region 23 with fail
                (have hN : w3.heap.size ≤ (World.heap w3).size := by first | assumption | exact Nat.le_refl _ | (simp; done) | omega | (simp; omega) | (simp at *; omega)); (have kr := fun d os b o (h : b < w3.heap.size) => (below_regrown w3 d os).cell (p := ⟨b, o, none⟩) (Nat.lt_of_lt_of_le h hN)); (refine wp_region_below_mid 6 _ (by kernel_rfl) (by kernel_rfl) rfl ?_); (simp only [List.take_succ_cons, List.take_zero, List.drop_succ_cons, List.drop_zero]); (repeat (first | go_big_quiet_step ((first | (go_at_call 12; exact Calls.regrown_of (thing_below _ x n s nm)))) | quiet_step ((first | (go_at_call 12; exact Calls.regrown_of (thing_below _ x n s nm)))))); (refine wpQuiet_nil ?_); (intro wA hw9); (obtain ⟨⟨dq, osq⟩, hw9⟩ := hw9); (have g9 := below_regrown w3 dq osq); (rw [← hw9] at g9); (have gA : Below (w3.heap.size) _ wA := g9.mono hN); (have zA : w3.heap.size ≤ wA.heap.size := Nat.le_trans hN g9.size); (have cA := fun b o h => gA.cell (p := ⟨b, o, none⟩) h); (have fA := fun b o h => gA.frozen (p := ⟨b, o, none⟩) h); (clear hw9 kr hN g9)
                have gA' : Chg (fun _ => False) w3 wA := ⟨gA.os, gA.tape, gA.output, zA, fun k hk _ => gA.block k hk⟩
                have HA := Lib.hid (H3.out.still gA')
                have HHA := Lib.hid (HH3.out.keep gA')
                have HYA : Hid (wA.ownsRow W.heap.size 2 1 (.slice a2 ys.length c2) ys.length (nums ys)) := own_chg HY3.out gA' fun _ _ _ _ => id
                replace f1 := (gA'.cell l3w id _).trans f1
                have lA := cell_lt f1
                have zA0 : lab wo.heap.size = 0 := ZB.out
                clear gA gA' zA cA fA f2 f3 f4 f5 H3 HH3
                go_wp2_with fail
                refine (offer_dr wA lab d N room own T K ns x n s nm ha hc hs HA.out.dr (by omega) (wfI64 hxw) (wfU64 HWF.out.2.2.2.2) HWF.out.2.2.2.1 (by omega) HHA.out (by omega) (fun y hy => wfI64 (HHS.out y hy))).mono ?_; rintro e w9 hP
                obtain ⟨ok, G, a9, c9, lab9, N9, T9, K9, rfl, hk9, hf9, hd9, hl9, F1, F2, F3, F4, F5⟩ := off_all hP HA.out.dr
                simp only at F1
                rw [← HWAS.out] at F1
                replace f1 := (hl9.2.cell lA (by omega) _).trans f1
                have l9 := cell_lt f1
                have HEND := Lib.hid (HA.out.next (k' := k + 1) hl9 hd9 (by omega) (by omega) (by omega))
                have HY9 : Hid (w9.ownsRow W.heap.size 2 1 (.slice a2 ys.length c2) ys.length (nums ys)) := own_chg HYA.out hl9.2 fun g hg _ e => by have := HW.out.dr.low hg; omega
                have HK9 := Lib.hid hk9
                have HD9 := Lib.hid hd9
                have HF2 := Lib.hid F2
                have HF3 := Lib.hid F3
                have hgl : G.length ≤ 9223372036854775807 := by
                  have h9 : (keyT G).length = G.length := by simp [keyT]
                  have h10 : (keyT G).length ≤ maxLen := Nat.le_trans hk9.le.1 hk9.le.2
                  unfold maxLen at h10
                  omega
                obtain ⟨X9, hX9⟩ : ∃ X, X = T9 ++ K9 := ⟨_, rfl⟩
                obtain ⟨in9, hin9⟩ : ∃ b, b = (getX (T9 ++ K9) x).isSome := ⟨_, rfl⟩
                rw [← hin9] at F1
                have HX9 := Lib.hid (And.intro hX9 hin9)
                clear hP hk9 hd9 hl9 hf9 F2 F3 F4 F5 hX9 hin9
                go_wp2_with fail
                (refine quietAfter_of ?_; (repeat (go_big_quiet_step (fail))); refine wpQuiet_nil ?_)
                go_upto_region 24 with fail
                go_cut [126] (fun o126 wx => o126 = .bool false ∧ Hid (Chg (fun _ => False) w9 wx))
                case first =>
                  rcases F1 with ⟨rfl, rfl, rfl⟩ | ⟨rfl, rfl, rfl, hg0⟩ | ⟨rfl, rfl, rfl, hg0⟩
                  · go_wp2_with fail
                    refine (has_dr w9 lab9 d N9 room own T9 K9 ns x HD9.out hxw).mono ?_; rintro e w10 ⟨rfl, g10⟩
                    rw [← HX9.out.2]
                    have G10 := Lib.hid g10
                    clear g10
                    go_wp2
                    go_meet
                    exact ⟨rfl, G10.out⟩
                  · have hg1 : ¬ (0 : Int) < ↑G.length := by omega
                    clear hg0
                    go_wp2_with fail
                    refine (has_dr w9 lab9 d N9 room own T9 K9 ns x HD9.out hxw).mono ?_; rintro e w10 ⟨rfl, g10⟩
                    rw [← HX9.out.2]
                    have G10 := Lib.hid g10
                    clear g10
                    go_wp2
                    go_meet
                    exact ⟨congrArg Value.bool (decN (by omega)), G10.out⟩
                  · have hg1 : ¬ (0 : Int) < ↑G.length := by omega
                    clear hg0
                    go_wp2_with fail
                    refine (has_dr w9 lab9 d N9 room own T9 K9 ns x HD9.out hxw).mono ?_; rintro e w10 ⟨rfl, g10⟩
                    rw [← HX9.out.2]
                    have G10 := Lib.hid g10
                    clear g10
                    go_wp2
                    go_meet
                    exact ⟨congrArg Value.bool (decN (by omega)), G10.out⟩
                case rest =>
                  obtain ⟨rfl, HGX⟩ := hcut
                  clear F1
                  have hyb : ys.length ≤ 9223372036854775807 := by omega
                  go_wp2_with fail
                  go_loopw [129] (fun i wr => ∃ k3 : Nat, k3 ≤ ys.length ∧ i = .int .i64 (↑k3 : Int) ∧ Hid (Chg (fun _ => False) w9 wr)) (fun i _ => ys.length - (intOf i).toNat)
                  case atStart => exact ⟨0, by omega, rfl, HGX.out⟩
                  case round =>
                    obtain ⟨k3, hk3, rfl, HG3⟩ := hrel
                    obtain ⟨wb, hwb⟩ : ∃ wb, wb = wr := ⟨_, rfl⟩
                    subst hwb
                    by_cases hkt3 : k3 < ys.length
                    · obtain ⟨y, hy⟩ : ∃ y, ys[k3]? = some y := ⟨_, List.getElem?_eq_getElem hkt3⟩
                      have hym := HS.out.mem y (List.mem_of_getElem? hy)
                      have hyw := HHS.out y hym.1
                      have HIN : Hid ((getX (T9 ++ K9) y).isSome = true) := HF3.out y hym.1 hym.2
                      obtain ⟨g2, o2, rfl, kk⟩ := (show IsK wb a2 c2 ys from (show IsK w9 a2 c2 ys from RdS.row HY9.out (nums_one _)).keep HG3.out fun _ _ => id).at hy
                      clear hy hym
                      go_wp2_with fail
                      refine (has_dr wb lab9 d N9 room own T9 K9 ns y (HD9.out.still HG3.out) hyw).mono ?_; rintro e w3 ⟨rfl, g3⟩
                      rw [HIN.out]
                      have G3 := Lib.hid (HG3.out.trans g3 fun _ _ h => h)
                      clear g3 kk
                      go_wp2
                      go_roundw
                      case rel => exact ⟨k3 + 1, by omega, by go_num, G3.out⟩
                      case measure => simp [intOf]; omega
                    · obtain rfl : k3 = ys.length := by omega
                      go_wp2_with fail
                      go_loopw [140] (fun i wr => ∃ k4 : Nat, k4 ≤ G.length ∧ i = .int .i64 (↑k4 : Int) ∧ Hid (Chg (fun _ => False) w9 wr)) (fun i _ => G.length - (intOf i).toNat)
                      case atStart => exact ⟨0, by omega, rfl, HG3.out⟩
                      case round =>
                        obtain ⟨k4, hk4, rfl, HG4⟩ := hrel
                        obtain ⟨wc, hwc⟩ : ∃ wc, wc = wr := ⟨_, rfl⟩
                        subst hwc
                        by_cases hkt4 : k4 < G.length
                        · obtain ⟨⟨gx, gn, gs, gm⟩, hgt⟩ : ∃ g, G[k4]? = some g := ⟨_, List.getElem?_eq_getElem hkt4⟩
                          have hgm := HF2.out _ (List.mem_of_getElem? hgt)
                          have hgw : (Lit.int .i64 gx).wf = true := WalkArith.wf_i64 hgm.2
                          have HIN : Hid ((getX (T9 ++ K9) gx).isSome = false) := hgm.1
                          obtain ⟨g2, o2, rfl, kk⟩ := (HK9.out.keep HG4.out fun _ _ => id).at (show (keyT G)[k4]? = some gx by unfold keyT; rw [List.getElem?_map, hgt]; rfl)
                          clear hgt hgm
                          go_wp2_with fail
                          refine (has_dr wc lab9 d N9 room own T9 K9 ns gx (HD9.out.still HG4.out) hgw).mono ?_; rintro e w3 ⟨rfl, g3⟩
                          rw [HIN.out]
                          have G3 := Lib.hid (HG4.out.trans g3 fun _ _ h => h)
                          clear g3 kk
                          go_wp2
                          go_roundw
                          case rel => exact ⟨k4 + 1, by omega, by go_num, G3.out⟩
                          case measure => simp [intOf]; omega
                        · obtain rfl : k4 = G.length := by omega
                          go_upto_region 40 with fail
                          refine name_region ?_; intro W5 hW5
                          have gW5 : Chg (fun _ => False) wc W5 := by subst hW5; exact (by repeat (first | with_reducible exact Chg.refl _ _ | with_reducible assumption | with_reducible refine Chg.drewN ?_ _ | with_reducible refine Chg.drew ?_ | with_reducible refine Chg.alloc ?_ _ | with_reducible refine Chg.setCell ?_ (by first | (left; rfl) | (left; left; rfl) | (left; right; rfl) | (left; right; left; rfl) | (left; right; right; rfl) | (right; exact Nat.le_refl _) | (right; simp; done) | (right; omega) | (right; simp at *; omega) | (simp at *; omega)) _ | with_reducible refine Chg.trans ?_ (by with_reducible assumption) (by intro i hi hT; first | exact hT | exact False.elim hT | omega | (simp at *; omega))))
                          have HM5 : Hid (NmM W5 wc.heap.size 0 (fun _ => 0)) := by subst hW5; exact nmM_made wc
                          have HG5 := Lib.hid (HG4.out.trans gW5 fun _ _ h => h)
                          have hen := HEND.out.n
                          have lmb := HM5.out.lt
                          clear hW5 gW5
                          go_wp2_with fail
                          refine (things_dr W5 lab9 d N9 room own T9 K9 ns (HD9.out.still HG5.out) (by omega)).mono ?_; rintro e w6 ⟨a6, c6, rfl, ho6, g6⟩
                          rw [← HX9.out.1] at ho6 ⊢
                          have HO6 : Hid (IsT w6 a6 c6 X9) := RdS.row ho6 (flatT_one _)
                          have HOB : Hid (∀ q, (Value.slice a6 X9.length c6).ownBlock = some q → W5.heap.size ≤ q) := fun q hq => (own_below ho6 hq).1
                          have HM6 := Lib.hid (HM5.out.chg g6 id)
                          have HG6 := Lib.hid (HG5.out.trans g6 fun _ _ h => h)
                          have HI9 : Hid (DInv room own T9 K9) := by obtain ⟨bb, lb, sb, mb, z1, z2⟩ := HD9.out; exact z2
                          have hxl : X9.length ≤ 61 := by have := HEND.out.l; rw [HX9.out.1]; omega
                          have HB1 : Hid (∀ t ∈ X9, 1 ≤ t.2.1) := fun t ht => (HI9.out.each t (by rw [← HX9.out.1]; exact ht)).1.1
                          obtain ⟨mb, hmb⟩ : ∃ m, m = wc.heap.size := ⟨_, rfl⟩
                          rw [← hmb] at HM6 lmb
                          have s6 := g6.size
                          have HMB := Lib.hid hmb
                          have hmb9 : w9.heap.size ≤ mb := by rw [hmb]; exact HG4.out.size
                          rw [← hmb]
                          clear ho6 g6 hmb
                          go_wp2_with fail
                          go_loopw [24, 152] (fun s i wr => ∃ (k5 : Nat) (S : Int), k5 ≤ X9.length ∧ s = .int .i64 S ∧ i = .int .i64 (↑k5 : Int) ∧ Hid (S = sumX (X9.take k5)) ∧ Hid (NmM wr mb k5 (ofX (X9.take k5))) ∧ Hid (Chg (fun j => j = mb) w6 wr)) (fun _ i _ => X9.length - (intOf i).toNat)
                          case atStart => exact ⟨0, 0, by omega, rfl, rfl, by show (0 : Int) = _; simp [sumX, pts, sumP], HM6.out.congr fun z => by simp [ofX, sumX, pts, sumP], Chg.refl _ _⟩
                          case round =>
                            obtain ⟨k5, S, hk5, rfl, rfl, HS5, HN5, HG7⟩ := hrel
                            obtain ⟨wd, hwd⟩ : ∃ wd, wd = wr := ⟨_, rfl⟩
                            subst hwd
                            by_cases hkt5 : k5 < X9.length
                            · obtain ⟨⟨y, m, q, qn⟩, hyt⟩ : ∃ t, X9[k5]? = some t := ⟨_, List.getElem?_eq_getElem hkt5⟩
                              have he := HI9.out.each (y, m, q, qn) (by rw [← HX9.out.1]; exact List.mem_of_getElem? hyt)
                              have hqs : q.size ≤ maxLen := by have := he.2.1; unfold maxLen; simp only at this; omega
                              obtain ⟨g3, o3, rfl, p0, p1, p2, p3⟩ := (HO6.out.keep HG7.out fun g hg e => by have := HOB.out g hg; omega).at hyt
                              have HT1 := Lib.hid (sumX_take hyt)
                              have HT2 : Hid (∀ s, ofX (X9.take (k5 + 1)) s = if s = q.data.toList then ofX (X9.take k5) q.data.toList + m else ofX (X9.take k5) s) := fun s => ofX_take hyt s
                              obtain ⟨b0, hb0⟩ : ∃ b, b = ofX (X9.take k5) q.data.toList := ⟨_, rfl⟩
                              have HB0 := Lib.hid hb0
                              have hsb : 0 ≤ S + m ∧ S + m ≤ 65535 ∧ 0 ≤ b0 + m ∧ b0 + m ≤ 65535 := by
                                have r1 := sumX_take_le HB1.out (k5 + 1)
                                have r2 := ofX_take_le HB1.out (k5 + 1) q.data.toList
                                rw [HT1.out, ← HS5.out] at r1
                                rw [HT2.out, if_pos rfl, ← hb0] at r2
                                have r3 := HI9.out.all
                                have r4 := HI9.out.own q.data.toList
                                rw [← HX9.out.1] at r3 r4
                                simp only at r1
                                omega
                              have e1 : IntKind.i64.wrap (S + m) = S + m := IntWalk.i64_in _ (by omega)
                              have e2 : IntKind.i64.wrap (b0 + m) = b0 + m := IntWalk.i64_in _ (by omega)
                              have hbw : (Lit.int .i64 (b0 + m)).wf = true := WalkArith.wf_i64 (by omega)
                              have l7 := HG7.out.size
                              clear hyt he hb0
                              go_upto_region 43 with fail
                              refine name_region ?_; intro W8 hW8
                              have gW8 : Chg (fun _ => False) wd W8 := by subst hW8; exact (by repeat (first | with_reducible exact Chg.refl _ _ | with_reducible assumption | with_reducible refine Chg.drewN ?_ _ | with_reducible refine Chg.drew ?_ | with_reducible refine Chg.alloc ?_ _ | with_reducible refine Chg.setCell ?_ (by first | (left; rfl) | (left; left; rfl) | (left; right; rfl) | (left; right; left; rfl) | (left; right; right; rfl) | (right; exact Nat.le_refl _) | (right; simp; done) | (right; omega) | (right; simp at *; omega) | (simp at *; omega)) _ | with_reducible refine Chg.trans ?_ (by with_reducible assumption) (by intro i hi hT; first | exact hT | exact False.elim hT | omega | (simp at *; omega))))
                              have h1' : W8.cell? ⟨wd.heap.size, 1, none⟩ = some (.int .i64 m) := by subst hW8; go_simp
                              have h2' : W8.cell? ⟨wd.heap.size, 2, none⟩ = some (.string q) := by subst hW8; go_simp
                              have HN8 := Lib.hid (HN5.out.chg gW8 id)
                              have HG8 := Lib.hid (HG7.out.trans gW8 fun _ _ h => h.elim)
                              clear hW8 gW8 p0 p1 p2 p3
                              go_wp2_with (first
                                | (at_lookup; go_loud (refine list_nget rfl _ _ rfl (.map (some mb)) k5 _ rfl (.inr ⟨mb, rfl, HN8.out⟩) q rfl hqs ?_; rw [← HB0.out]))
                                | (at_mapUpdate; go_loud (refine list_nput rfl _ _ _ rfl mb k5 _ rfl HN8.out (by omega) q rfl hqs (b0 + m) rfl hbw ?_; intro w7 hm7 hg7; have HN9 := Lib.hid hm7; have HG9 := Lib.hid (HG8.out.trans hg7 fun _ _ h => h); clear hm7 hg7)))
                              go_roundw
                              case rel => exact ⟨k5 + 1, S + m, by omega, rfl, by go_num, (by show S + m = _; rw [HT1.out, ← HS5.out]), HN9.out.congr fun z => (by rw [HT2.out, ← HB0.out]), HG9.out⟩
                              case measure => simp [intOf]; omega
                            · obtain rfl : k5 = X9.length := by omega
                              rw [List.take_length] at HS5 HN5
                              obtain ⟨D, hown, hD⟩ := HN5.out
                              have HOW := Lib.hid hown
                              have HND := Lib.hid hD
                              clear hown hD
                              go_wp2_with (at_range; go_loud (refine list_nrange rfl _ rfl mb X9.length D rfl HOW.out ?_; intro w0 left cnt hrg hg0; have HRG := Lib.hid hrg; have HG0 := Lib.hid (HG7.out.trans hg0 fun _ _ h => h.elim); clear hrg hg0))
                              go_frame
                              obtain ⟨r0, hr0⟩ : ∃ r, r = wd.heap.size := ⟨_, rfl⟩
                              rw [← hr0] at HRG ⊢
                              have hr6 : w6.heap.size ≤ r0 := by rw [hr0]; exact HG7.out.size
                              have hSr : S ≤ room := by
                                have r3 := HI9.out.all
                                rw [← HX9.out.1, ← HS5.out] at r3
                                exact r3
                              have HW6 := Lib.hid HG6.out.size
                              have hw6 := HG6.out.size
                              clear hr0
                              go_loopw [] (fun wr => ∃ (left : Lit → Bool) (cnt : Nat), Hid (wr.ranges Try.prog 9 (plainElem Try.prog 2) mb r0 X9.length D left cnt) ∧ Hid (Chg (fun j => j = mb ∨ j = r0) w6 wr)) (fun wr => wr.rangeLeft mb r0)
                              case atStart => exact ⟨left, cnt, HRG.out, HG0.out.mono fun i _ h => .inl h⟩
                              case round =>
                                obtain ⟨left1, cnt1, HR1, HG1⟩ := hrel
                                obtain ⟨we, hwe⟩ : ∃ we, we = wr := ⟨_, rfl⟩
                                subst hwe
                                go_wp2_with (at_next; go_loud (refine list_nnext rfl _ rfl mb r0 X9.length D _ left1 cnt1 rfl HND.out HR1.out ?_ ?_; rotate_left; (intro s2 w7 left2 cnt2 hs2 hrg2 hlt2 hg2 hen2; obtain ⟨c2, hc2⟩ : ∃ c, c = ofX X9 s2.data.toList := ⟨_, rfl⟩; rw [← hc2] at hen2 ⊢; have HR2 := Lib.hid hrg2; have HG2 := Lib.hid (HG1.out.trans hg2 fun _ _ h => Or.inr h); have HC2 := Lib.hid hc2; clear hrg2 hg2 hc2); rotate_right))
                                · go_roundw
                                  case rel => exact ⟨k + 1, lab9, N9, T9, K9, ns, by omega, by go_num, HEND.out.still ((HG6.out.trans HG1.out fun i hi h => by omega))⟩
                                  case measure => simp [intOf]; omega
                                · refine (bytes_dr w7 lab9 d N9 room own T9 K9 ns s2 (HD9.out.still (HG6.out.trans HG2.out fun i hi h => by omega)) hs2).mono ?_; rintro e w8 ⟨rfl, g8⟩
                                  rw [← HX9.out.1, ← HS5.out, ← HC2.out]
                                  have HR8 := Lib.hid (ranges_chg HR2.out g8 id id)
                                  have HG8 := Lib.hid (HG2.out.trans g8 fun _ _ h => h.elim)
                                  have hc2 : c2 ≤ own := by
                                    have r4 := HI9.out.own s2.data.toList
                                    rw [← HX9.out.1, ← HC2.out] at r4
                                    exact r4
                                  clear g8 hen2
                                  go_wp2
                                  go_roundw
                                  case rel => exact ⟨left2, cnt2, HR8.out, HG8.out⟩
                                  case measure => rw [HR8.out.left_eq, HR1.out.left_eq]; omega
          · have q1 : (kd == 0) = false := by simpa using hkd
            go_wp2_with fail
            refine (ask_dr W lab d N room own T K ns x nm HW.out.dr hxw (wfU64 HWF.out.2.2.2.2) (by omega) (by omega)).mono ?_; rintro e w4 ⟨rfl, lab4, hd4, hl4⟩
            obtain ⟨⟨T4, K4⟩, h4⟩ : ∃ D, D = touchX (room - room / 5) T K x := ⟨_, rfl⟩
            have hlen4 : (T4 ++ K4).length = (T ++ K).length := by
              obtain ⟨bb, lb, sb, mb, z1, z2⟩ := HW.out.dr
              have := (touch_perm (most := room - room / 5) (x := x) z2.nodup).length_eq
              rw [← h4] at this
              exact this.symm
            rw [← h4] at hd4
            have HEND : Hid (LmI w lab4 d room own (N + 1) T4 K4 (ns ++ [nm]) (k + 1) w4) := HW.out.next hl4 hd4 (by rw [hlen4]; omega) (by simp; omega) (by omega)
            clear hd4 hl4 h4 hlen4
            go_wp2
            go_roundw
            case rel => exact ⟨k + 1, lab4, N + 1, T4, K4, ns ++ [nm], by omega, by go_num, HEND.out⟩
            case measure => simp [intOf]; omega
        · obtain rfl : k = xs.length := by omega
          go_wp2
          go_ret
          exact ⟨rfl, Chg.below HR.out.g⟩
end Go.Proofs.Ytdoepjokaekckaa
