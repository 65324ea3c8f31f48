/- The law Room. -/
import Derived.Test.YtdoepjokaekckaaBr
namespace Go.Proofs.Ytdoepjokaekckaa
set_option linter.unusedVariables false
open Go.RowKit

/-- The door behind k things of the law. -/
structure RmI (w0 : World) (lab : Nat → Nat) (d : Nat) (own : Int) (N : Nat) (T K : List Tg) (ns : List Int) (k : Nat) (wr : World) : Prop where
  dr : Dr wr lab d (200 * own) own N T K ns
  g : Chg (fun _ => False) w0 wr
  z : ∀ i, i < w0.heap.size → lab i = 0
  n : N + 3 * (T ++ K).length ≤ 9 * k
  s : ns.length ≤ 3 * k
  l : (T ++ K).length ≤ k
  b : ∀ t ∈ T ++ K, t.2.1 ≤ own
theorem RmI.next {w0 wr w' : World} {lab lab' : Nat → Nat} {d : Nat} {own : Int} {N : Nat} {T K : List Tg} {ns : List Int} {k : Nat} (h : RmI w0 lab d own N T K ns k wr) (hl : Lab wr lab lab' w') {N' : Nat} {T' K' : List Tg} {ns' : List Int} {k' : Nat} (hd : Dr w' lab' d (200 * own) own N' T' K' ns') (hn : N' + 3 * (T' ++ K').length ≤ 9 * k') (hs : ns'.length ≤ 3 * k') (hk : (T' ++ K').length ≤ k') (hb : ∀ t ∈ T' ++ K', t.2.1 ≤ own) : RmI w0 lab' d own N' T' K' ns' k' w' :=
  ⟨hd, h.g.trans hl.2 fun i hi e => by have := h.z i hi; omega, fun i hi => by rw [hl.1 i (Nat.lt_of_lt_of_le hi h.g.size)]; exact h.z i hi, hn, hs, hk, hb⟩
theorem RmI.still {w0 wr w' : World} {lab : Nat → Nat} {d : Nat} {own : Int} {N : Nat} {T K : List Tg} {ns : List Int} {k : Nat} (h : RmI w0 lab d own N T K ns k wr) (c : Chg (fun _ => False) wr w') : RmI w0 lab d own N T K ns k w' := ⟨h.dr.still c, h.g.trans c fun _ _ h => h, h.z, h.n, h.s, h.l, h.b⟩
theorem touchX_no {most : Int} {T K : List Tg} {x : Int} (h : (getX (T ++ K) x).isSome = false) : touchX most T K x = (T, K) := by
  unfold touchX
  cases e : getX (T ++ K) x with
  | none => rfl
  | some t => rw [e] at h; cases h
set_option maxHeartbeats 4000000 in
set_option maxRecDepth 4000 in
theorem admitRoom_any (sh : Int) (v : Value) (xs : List Tg) (ak : Int) (w : World) (hsh : (Lit.int .u8 sh).wf = true) (hL : IsLT w v xs) (has : (Lit.int .u8 ak).wf = true) :
    Calls Try.prog 5 #[.int .u8 sh, v, .int .u8 ak] w fun e w' => e = .returned (.bool true) ∧ Below w.heap.size w w' := by
  have hsb := wfU8 hsh
  have hab := wfU8 has
  obtain ⟨a, c, rfl, hlen, _⟩ := id hL.2
  have HL := Lib.hid hL
  obtain ⟨ie, hie, ez0, ez1, ez2⟩ := info_parts infoTg
  clear hL
  go_enter Try.func5, Try.ntmps5
  go_wp2_with fail
  refine (alive_any w).mono ?_; rintro e w1 ⟨rfl, g1⟩
  by_cases h30 : (30 : Int) < ↑xs.length
  · have G1 := Lib.hid g1
    clear g1
    go_wp2
    go_ret
    exact ⟨rfl, Chg.below G1.out⟩
  have G1 := Lib.hid g1
  have h30' : xs.length ≤ 30 := by omega
  clear g1
  obtain ⟨own, hown⟩ : ∃ o, o = 1 + sh := ⟨_, rfl⟩
  have ob : 1 ≤ own ∧ own ≤ 256 := by omega
  have e1 : IntKind.i64.wrap sh = sh := IntWalk.i64_in _ (by omega)
  have e2 : IntKind.i64.wrap (1 + sh) = own := by rw [hown]; exact IntWalk.i64_in _ (by omega)
  have e3 : IntKind.i64.wrap (200 * own) = 200 * own := IntWalk.i64_in _ (by omega)
  clear hown
  go_wp2_with fail
  refine (new_door w1 (200 * own) own (by omega)).mono ?_; rintro e w2 ⟨d, lab0, rfl, hd, hl, g2⟩
  have H2 := Lib.hid hd
  have L2 := Lib.hid (And.intro hl g2)
  have hl1 := G1.out.size
  clear hd hl g2 e1 e2 e3 h30
  go_wp2_with fail
  go_loopw [41] (fun i wr => ∃ (k : Nat) (lab : Nat → Nat) (N : Nat) (T K : List Tg) (ns : List Int), k ≤ xs.length ∧ i = .int .i64 (↑k : Int) ∧ Hid (RmI w lab d own N T K ns k wr)) (fun i _ => xs.length - (intOf i).toNat)
  case atStart => exact ⟨0, lab0, 0, [], [], [], by omega, rfl, H2.out, G1.out.trans L2.out.2 fun _ _ h => h, fun i hi => L2.out.1 i (by omega), by simp, by simp, by simp, by simp⟩
  case round =>
    obtain ⟨k, lab, N, T, K, ns, hk, rfl, HR⟩ := hrel
    obtain ⟨wo, hwo⟩ : ∃ wo, wo = wr := ⟨_, rfl⟩
    subst hwo
    by_cases hkt : k < xs.length
    · obtain ⟨⟨x, n, s, nm⟩, ht⟩ : ∃ t, xs[k]? = some t := ⟨_, List.getElem?_eq_getElem hkt⟩
      obtain ⟨g, o, rfl, lg, q0, q1, q2, q3⟩ := HL.out.at ht
      have hwf := HL.out.1 _ (List.mem_of_getElem? ht)
      simp only at q0 q1 q2 q3 hwf
      have HWF := Lib.hid hwf
      have hxw := hwf.1
      have k0 := (HR.out.g.cell lg id _).trans q0
      have k1 := (HR.out.g.cell lg id _).trans q1
      have k2 := (HR.out.g.cell lg id _).trans q2
      have k3 := (HR.out.g.cell lg id _).trans q3
      clear q0 q1 q2 q3 ht hwf lg
      go_upto_region 12 with fail
      refine name_region ?_; intro W hW
      have gW : Chg (fun _ => False) wo W := by subst hW; exact (by repeat (first | with_reducible exact Chg.refl _ _ | with_reducible assumption | with_reducible refine Chg.drewN ?_ _ | with_reducible refine Chg.drew ?_ | with_reducible refine Chg.alloc ?_ _ | with_reducible refine Chg.setCell ?_ (by first | (left; rfl) | (left; left; rfl) | (left; right; rfl) | (left; right; left; rfl) | (left; right; right; rfl) | (right; exact Nat.le_refl _) | (right; simp; done) | (right; omega) | (right; simp at *; omega) | (simp at *; omega)) _ | with_reducible refine Chg.trans ?_ (by with_reducible assumption) (by intro i hi hT; first | exact hT | exact False.elim hT | omega | (simp at *; omega))))
      have f0 : W.cell? ⟨wo.heap.size, 0, none⟩ = some (.int .i64 x) := by subst hW; go_simp
      have f1 : W.cell? ⟨wo.heap.size, 1, none⟩ = some (.int .i64 n) := by subst hW; go_simp
      have f2 : W.cell? ⟨wo.heap.size, 2, none⟩ = some (.string s) := by subst hW; go_simp
      have f3 : W.cell? ⟨wo.heap.size, 3, none⟩ = some (.int .u64 nm) := by subst hW; go_simp
      clear hW k0 k1 k2 k3
      have HW := Lib.hid (HR.out.still gW)
      have zb : lab wo.heap.size = 0 := HR.out.dr.low (Nat.le_refl _)
      have ZB := Lib.hid zb
      have lW := cell_lt f0
      clear gW zb
      by_cases h1 : n < 1
      · go_wp2
        go_roundw
        case rel => exact ⟨k + 1, lab, N, T, K, ns, by omega, by go_num, HW.out.dr, HW.out.g, HW.out.z, by have := HW.out.n; omega, by have := HW.out.s; omega, by have := HW.out.l; omega, HW.out.b⟩
        case measure => simp [intOf]; omega
      by_cases h2 : own < n
      · go_wp2
        go_roundw
        case rel => exact ⟨k + 1, lab, N, T, K, ns, by omega, by go_num, HW.out.dr, HW.out.g, HW.out.z, by have := HW.out.n; omega, by have := HW.out.s; omega, by have := HW.out.l; omega, HW.out.b⟩
        case measure => simp [intOf]; omega
      by_cases h3 : (200 : Int) < ↑s.size
      · go_wp2
        go_roundw
        case rel => exact ⟨k + 1, lab, N, T, K, ns, by omega, by go_num, HW.out.dr, HW.out.g, HW.out.z, by have := HW.out.n; omega, by have := HW.out.s; omega, by have := HW.out.l; omega, HW.out.b⟩
        case measure => simp [intOf]; omega
      have HBD : Hid ((1 ≤ n ∧ n ≤ own) ∧ s.size ≤ 200) := ⟨by omega, by omega⟩
      go_wp2_with fail
      refine (has_dr W lab d N (200 * own) own T K ns x HW.out.dr hxw).mono ?_; rintro e w3 ⟨rfl, g3⟩
      have H3 := Lib.hid (HW.out.still g3)
      replace f0 := (g3.cell lW id _).trans f0
      replace f1 := (g3.cell lW id _).trans f1
      replace f2 := (g3.cell lW id _).trans f2
      replace f3 := (g3.cell lW id _).trans f3
      have l3 := cell_lt f0
      clear g3
      cases hhas : (getX (T ++ K) x).isSome with
      | true =>
        clear hhas
        go_wp2
        go_roundw
        case rel => exact ⟨k + 1, lab, N, T, K, ns, by omega, by go_num, H3.out.dr, H3.out.g, H3.out.z, by have := H3.out.n; omega, by have := H3.out.s; omega, by have := H3.out.l; omega, H3.out.b⟩
        case measure => simp [intOf]; omega
      | false =>
        have HHAS := Lib.hid hhas
        have HF := Lib.hid (And.intro f0 (And.intro f1 (And.intro f2 f3)))
        clear hhas f0 f1 f2 f3
        obtain ⟨mm, hmm⟩ : ∃ m, m = ak.tmod 4 := ⟨_, rfl⟩
        have hmb : 0 ≤ mm ∧ mm ≤ 3 := by rw [hmm, Int.tmod_eq_emod_of_nonneg hab.1]; omega
        have e1 : IntKind.i64.wrap ak = ak := IntWalk.i64_in _ (by omega)
        have e2 : IntKind.i64.wrap mm = mm := IntWalk.i64_in _ (by omega)
        have e3 : ak.tmod 4 = mm := hmm.symm
        have g3 := HF.out
        clear hmm
        go_wp2_with fail
        go_loopw [12] (fun i wr => ∃ (j : Nat) (lab2 : Nat → Nat) (N2 : Nat) (ns2 : List Int), (↑j : Int) ≤ mm ∧ i = .int .i64 (↑j : Int) ∧ Hid (Dr wr lab2 d (200 * own) own N2 T K ns2) ∧ Hid (Lab w3 lab lab2 wr) ∧ N2 ≤ N + j ∧ ns2.length ≤ ns.length + j) (fun i _ => (mm - intOf i).toNat)
        case atStart => exact ⟨0, lab, N, ns, by omega, rfl, H3.out.dr, Lab.refl _ _, by omega, by omega⟩
        case round =>
          obtain ⟨j, lab2, N2, ns2, hj, rfl, HDr, HLb, hN2, hs2⟩ := hrel
          have zb := ZB.out
          have f0 := (HLb.out.2.cell l3 (by omega) _).trans HF.out.1
          have f1 := (HLb.out.2.cell l3 (by omega) _).trans HF.out.2.1
          have f2 := (HLb.out.2.cell l3 (by omega) _).trans HF.out.2.2.1
          have f3 := (HLb.out.2.cell l3 (by omega) _).trans HF.out.2.2.2
          have hrn := HR.out.n
          have hrs := HR.out.s
          by_cases hjt : (↑j : Int) < mm
          · go_wp2_with fail
            refine (ask_dr wr lab2 d N2 (200 * own) own T K ns2 x nm HDr.out hxw (wfU64 HWF.out.2.2.2) (by omega) (by omega)).mono ?_; rintro e w4 ⟨rfl, lab4, hd4, hl4⟩
            rw [touchX_no HHAS.out] at hd4
            have HD4 := Lib.hid hd4
            have HL4 := Lib.hid (HLb.out.trans hl4)
            clear hd4 hl4
            go_wp2_with fail
            go_roundw
            case rel => exact ⟨j + 1, lab4, N2 + 1, ns2 ++ [nm], by push_cast; omega, by go_num, HD4.out, HL4.out, by omega, by simp; omega⟩
            case measure => simp [intOf]; omega
          · obtain ⟨w4, hw4⟩ : ∃ w4, w4 = wr := ⟨_, rfl⟩
            subst hw4
            have l4 := cell_lt f0
            go_wp2_with fail
            refine (bytes_dr w4 lab2 d N2 (200 * own) own T K ns2 s HDr.out HWF.out.2.2.1).mono ?_; rintro e w5 ⟨rfl, g5⟩
            obtain ⟨X, hX⟩ : ∃ X, X = T ++ K := ⟨_, rfl⟩
            obtain ⟨S0, hS0⟩ : ∃ u, u = sumX (T ++ K) := ⟨_, rfl⟩
            obtain ⟨mine, hmine⟩ : ∃ u, u = ofX (T ++ K) s.data.toList := ⟨_, rfl⟩
            rw [← hS0, ← hmine]
            have H5 := Lib.hid (HDr.out.still g5)
            have HX := Lib.hid (And.intro hX (And.intro hS0 hmine))
            replace f0 := (g5.cell l4 id _).trans f0
            replace f1 := (g5.cell l4 id _).trans f1
            replace f2 := (g5.cell l4 id _).trans f2
            replace f3 := (g5.cell l4 id _).trans f3
            have l5 := cell_lt f0
            have LB5 := Lib.hid (HLb.out.trans (Lab.still g5))
            have hxl : X.length ≤ 30 := by have := HR.out.l; rw [hX]; omega
            clear g5 hX hS0 hmine
            go_wp2_with fail
            refine (things_dr w5 lab2 d N2 (200 * own) own T K ns2 H5.out (by omega)).mono ?_; rintro e w6 ⟨a6, c6, rfl, ho6, g6⟩
            rw [← HX.out.1] at ho6 ⊢
            have H6 := Lib.hid (H5.out.still g6)
            have HO6 : Hid (IsT w6 a6 c6 X) := RdS.row ho6 (flatT_one _)
            replace f0 := (g6.cell l5 id _).trans f0
            replace f1 := (g6.cell l5 id _).trans f1
            replace f2 := (g6.cell l5 id _).trans f2
            replace f3 := (g6.cell l5 id _).trans f3
            have l6 := cell_lt f0
            have LB6 := Lib.hid (LB5.out.trans (Lab.still g6))
            clear ho6 g6
            go_wp2_with (at_builtin; go_loud (refine list_owned rfl _ _ 50 rfl w6.heap.size 40 ie _ 4 40 Try.underlying50 hie ez0 ez1 ez2 rfl (by decide) rfl rfl (World.ownsRow_nil _ _ _ _) (by simp) HO6.out (by unfold maxLen; omega) (by omega) (Nat.le_refl _) ?_; intro a7 c7 w7 ho7 hg7 hone7; rw [Nat.zero_add] at ho7 ⊢; have HO7 : Hid (w7.ownsRow w6.heap.size 40 4 (.slice a7 X.length c7) X.length (flatT X)) := ho7; have HG7 : Hid (Chg (fun _ => False) w6 w7) := grown_chg hg7 (fun q hq => by cases hq); replace f0 := (HG7.out.cell l6 id _).trans f0; replace f1 := (HG7.out.cell l6 id _).trans f1; replace f2 := (HG7.out.cell l6 id _).trans f2; replace f3 := (HG7.out.cell l6 id _).trans f3; clear ho7 hg7 hone7))
            refine (thing_any w7 x n s nm).mono ?_; rintro e w8 ⟨rfl, g8⟩
            have l7 := cell_lt f0
            have G78 : Hid (Chg (fun _ => False) w6 w8) := HG7.out.trans g8 fun _ _ h => h
            have HO8 : Hid (w8.ownsRow w6.heap.size 40 4 (.slice a7 X.length c7) X.length (flatT X)) := own_chg HO7.out g8 fun _ _ _ _ => id
            have H8 := Lib.hid (H6.out.still G78.out)
            have LB8 := Lib.hid (LB6.out.trans (Lab.still G78.out))
            replace f1 := (g8.cell l7 id _).trans f1
            replace f2 := (g8.cell l7 id _).trans f2
            clear g8 f0 f3
            go_wp2_with fail
            have hln := HR.out.l
            refine (offer_dr w8 lab2 d N2 (200 * own) own T K ns2 x n s nm none 0 [] H8.out (by omega) (wfI64 hxw) (wfU64 HWF.out.2.2.2) HWF.out.2.2.1 (by omega) (isH_nil _ _) (by simp) (by simp)).mono ?_; rintro e w9 hP
            have hsum : sumX (T ++ K) + n ≤ 200 * own := by
              have h1 := sumX_le HR.out.b
              have h2 : own * ((T ++ K).length : Int) ≤ own * 30 := Int.mul_le_mul_of_nonneg_left (by omega) (by omega)
              omega
            obtain ⟨ok, G, a9, c9, lab9, N9, T9, K9, rfl, hk9, hf9, hd9, hl9, F1, F2, F3, F4, F5, F6⟩ := off_room hP H8.out hsum ⟨HBD.out.1.1, (show n ≤ 1099511627776 by have := HBD.out.1.2; omega), HBD.out.2⟩ HHAS.out
            have l8 := cell_lt f1
            have zb8 : lab2 wo.heap.size = 0 := by rw [HLb.out.1 _ l3]; exact ZB.out
            replace f1 := (hl9.2.cell l8 (by omega) _).trans f1
            replace f2 := (hl9.2.cell l8 (by omega) _).trans f2
            have HO9 : Hid (IsT w9 a7 c7 X) := RdS.row (own_chg HO8.out hl9.2 fun g hg _ e => by have := H6.out.low hg; omega) (flatT_one _)
            have HK9 := Lib.hid hk9
            have HD9 := Lib.hid hd9
            have HL9 := Lib.hid (LB8.out.trans hl9)
            have HFF := Lib.hid (And.intro F1 (And.intro F2 F3))
            have HFN := Lib.hid (And.intro F4 (And.intro F5 F6))
            have HMB : Hid (0 ≤ mine ∧ mine ≤ own) := by
              obtain ⟨bb, lb, sb, mb, q1, q2⟩ := H8.out
              have q3 := q2.own s.data.toList
              have q4 := ofX_nonneg (X := T ++ K) (fun u hu => (q2.each u hu).1.1) s.data.toList
              rw [← HX.out.2.2] at q3 q4
              exact ⟨q4, q3⟩
            have hmb2 := HMB.out
            have hgl : G.length ≤ 9223372036854775807 := by
              have h9 : (keyT G).length = G.length := by simp [keyT]
              have h10 : (keyT G).length ≤ maxLen := Nat.le_trans hk9.le.1 hk9.le.2
              unfold maxLen at h10
              omega
            clear hP hk9 hd9 hl9 hf9 F1 F2 F3 F4 F5 F6 zb8 hsum hln
            have HC : Hid (mine + n ≤ own → ok = true ∧ G.length = 0) := fun hf => by
              obtain ⟨q1, q2⟩ := HFF.out.1 (by have := HX.out.2.2; simp only; omega)
              exact ⟨q1, by rw [q2]; rfl⟩
            have split : Hid ((mine + n ≤ own ∧ ok = true ∧ G.length = 0) ∨ (¬ mine + n ≤ own ∧ ok = true) ∨ (¬ mine + n ≤ own ∧ ok = false)) := by
              by_cases hf : mine + n ≤ own
              · exact .inl ⟨hf, HC.out hf⟩
              · cases ok with
                | true => exact .inr (.inl ⟨hf, rfl⟩)
                | false => exact .inr (.inr ⟨hf, rfl⟩)
            rcases split.out with ⟨hf, rfl, hg⟩ | ⟨hf, rfl⟩ | ⟨hf, rfl⟩
            · have hg0 : ¬ (0 : Int) < ↑G.length := by omega
              clear hg
              go_wp2_with fail
              go_loopw [114] (fun i wr => ∃ j2 : Nat, j2 ≤ G.length ∧ i = .int .i64 (↑j2 : Int) ∧ Hid (Chg (fun _ => False) w9 wr)) (fun i _ => G.length - (intOf i).toNat)
              case atStart => exact ⟨0, by omega, rfl, Chg.refl _ _⟩
              case round =>
                obtain ⟨j2, hj2, rfl, HG2⟩ := hrel
                obtain ⟨wa, hwa⟩ : ∃ wa, wa = wr := ⟨_, rfl⟩
                subst hwa
                by_cases hjt2 : j2 < G.length
                · exact absurd hjt2 (by omega)
                · obtain rfl : j2 = G.length := by omega
                  go_wp2_with fail
                  have hjm : (↑j : Int) ≤ 3 := by omega
                  have hrn := HR.out.n
                  have hrs := HR.out.s
                  have hrl := HR.out.l
                  have hfn := HFN.out
                  refine (things_dr wa lab9 d N9 (200 * own) own T9 K9 ns2 (HD9.out.still HG2.out) (by omega)).mono ?_; rintro e w10 ⟨a10, c10, rfl, _, g10⟩
                  have hq : G.length + (T9 ++ K9).length = X.length + 1 := by have := HFF.out.2.2 (by trivial); rw [HX.out.1]; exact this
                  obtain ⟨l10, hl10⟩ : ∃ l, l = (T9 ++ K9).length := ⟨_, rfl⟩
                  rw [← hl10] at hq ⊢
                  have hl10' : l10 ≤ 31 := by omega
                  have hq1 : (↑G.length : Int) = ↑X.length + 1 - ↑l10 := by omega
                  have q1 : ((↑G.length : Int) == ↑X.length + 1 - ↑l10) = true := by simpa using hq1
                  have q2 : IntKind.i64.wrap ((↑X.length : Int) + 1 - ↑l10) = ↑X.length + 1 - ↑l10 := IntWalk.i64_in _ (by omega)
                  have HEND : Hid (RmI w lab9 d own N9 T9 K9 ns2 (k + 1) w10) := ((H3.out.next HL9.out HD9.out (by omega) (by omega) (by omega) fun u hu => (hfn.2.2 u hu).elim (fun h => HR.out.b u h) (fun h => by rw [h]; exact HBD.out.1.2)).still HG2.out).still g10
                  clear hl10 hfn hq g10
                  go_wp2
                  go_roundw
                  case rel => exact ⟨k + 1, lab9, N9, T9, K9, ns2, by omega, by go_num, HEND.out⟩
                  case measure => simp [intOf]; omega
            · go_wp2_with fail
              go_loopw [114] (fun i wr => ∃ j2 : Nat, j2 ≤ G.length ∧ i = .int .i64 (↑j2 : Int) ∧ Hid (Chg (fun _ => False) w9 wr)) (fun i _ => G.length - (intOf i).toNat)
              case atStart => exact ⟨0, by omega, rfl, Chg.refl _ _⟩
              case round =>
                obtain ⟨j2, hj2, rfl, HG2⟩ := hrel
                obtain ⟨wa, hwa⟩ : ∃ wa, wa = wr := ⟨_, rfl⟩
                subst hwa
                by_cases hjt2 : j2 < G.length
                · obtain ⟨⟨gx, gn, gs, gm⟩, hgt⟩ : ∃ g, G[j2]? = some g := ⟨_, List.getElem?_eq_getElem hjt2⟩
                  have HGM : Hid ((gx, gn, gs, gm) ∈ T ++ K ∧ gs = s) := HFF.out.2.1 _ (List.mem_of_getElem? hgt)
                  obtain ⟨g2, o2, rfl, kk⟩ := (HK9.out.keep HG2.out fun _ _ => id).at (show (keyT G)[j2]? = some gx by unfold keyT; rw [List.getElem?_map, hgt]; rfl)
                  clear hgt
                  go_wp2_with fail
                  clear kk
                  go_loopw [120] (fun i wr => ∃ i2 : Nat, i2 ≤ X.length ∧ i = .int .i64 (↑i2 : Int) ∧ Hid (Chg (fun _ => False) w9 wr)) (fun i _ => X.length - (intOf i).toNat)
                  case atStart => exact ⟨0, by omega, rfl, HG2.out⟩
                  case round =>
                    obtain ⟨i2, hi2, rfl, HG3⟩ := hrel
                    by_cases hit2 : i2 < X.length
                    · obtain ⟨⟨y, m, q, qn⟩, hyt⟩ : ∃ t, X[i2]? = some t := ⟨_, List.getElem?_eq_getElem hit2⟩
                      have HYM : Hid ((y, m, q, qn) ∈ T ++ K) := by show _ ∈ _; rw [← HX.out.1]; exact List.mem_of_getElem? hyt
                      obtain ⟨g3, o3, rfl, k0, k1, k2, k3⟩ := (HO9.out.keep HG3.out fun _ _ => id).at hyt
                      clear hyt
                      go_upto_region 29 with fail
                      refine name_region ?_; intro W3 hW3
                      have gW3 : Chg (fun _ => False) wr W3 := by subst hW3; exact (by repeat (first | with_reducible exact Chg.refl _ _ | with_reducible assumption | with_reducible refine Chg.drewN ?_ _ | with_reducible refine Chg.drew ?_ | with_reducible refine Chg.alloc ?_ _ | with_reducible refine Chg.setCell ?_ (by first | (left; rfl) | (left; left; rfl) | (left; right; rfl) | (left; right; left; rfl) | (left; right; right; rfl) | (right; exact Nat.le_refl _) | (right; simp; done) | (right; omega) | (right; simp at *; omega) | (simp at *; omega)) _ | with_reducible refine Chg.trans ?_ (by with_reducible assumption) (by intro i hi hT; first | exact hT | exact False.elim hT | omega | (simp at *; omega))))
                      have h0 : W3.cell? ⟨wr.heap.size, 0, none⟩ = some (.int .i64 y) := by subst hW3; go_simp
                      have h2' : W3.cell? ⟨wr.heap.size, 2, none⟩ = some (.string q) := by subst hW3; go_simp
                      clear hW3 k0 k1 k2 k3
                      have HG4 := Lib.hid (HG3.out.trans gW3 fun _ _ h => h)
                      have e2 := (HG4.out.cell (cell_lt f2) id _).trans f2
                      clear gW3
                      by_cases hyx : y = gx
                      · have q1 : (y == gx) = true := by simpa using hyx
                        have hqs : q = s := by
                          obtain ⟨bb, lb, sb, mb, z1, z2⟩ := H8.out
                          have z3 := (getX_mem z2.nodup).2 HYM.out
                          have z4 := (getX_mem z2.nodup).2 HGM.out.1
                          simp only at z3 z4
                          rw [hyx, z4] at z3
                          injection z3 with z3
                          injection z3 with _ z3
                          injection z3 with _ z3
                          injection z3 with z3 _
                          rw [← z3]; exact HGM.out.2
                        have q2 : (q.toList == s.toList) = true := by rw [hqs]; simp
                        have q3 : q.toList = s.toList := by rw [hqs]
                        clear hqs
                        go_wp2
                        go_roundw
                        case rel => exact ⟨i2 + 1, by omega, by go_num, HG4.out.trans (show Chg (fun _ => False) W3 _ from (by repeat (first | with_reducible exact Chg.refl _ _ | with_reducible assumption | with_reducible refine Chg.drewN ?_ _ | with_reducible refine Chg.drew ?_ | with_reducible refine Chg.alloc ?_ _ | with_reducible refine Chg.setCell ?_ (by first | (left; rfl) | (left; left; rfl) | (left; right; rfl) | (left; right; left; rfl) | (left; right; right; rfl) | (right; exact Nat.le_refl _) | (right; simp; done) | (right; omega) | (right; simp at *; omega) | (simp at *; omega)) _ | with_reducible refine Chg.trans ?_ (by with_reducible assumption) (by intro i hi hT; first | exact hT | exact False.elim hT | omega | (simp at *; omega))))) fun _ _ h => h⟩
                        case measure => simp [intOf]; omega
                      · have q1 : (y == gx) = false := by simpa using hyx
                        go_wp2
                        go_roundw
                        case rel => exact ⟨i2 + 1, by omega, by go_num, HG4.out.trans (show Chg (fun _ => False) W3 _ from (by repeat (first | with_reducible exact Chg.refl _ _ | with_reducible assumption | with_reducible refine Chg.drewN ?_ _ | with_reducible refine Chg.drew ?_ | with_reducible refine Chg.alloc ?_ _ | with_reducible refine Chg.setCell ?_ (by first | (left; rfl) | (left; left; rfl) | (left; right; rfl) | (left; right; left; rfl) | (left; right; right; rfl) | (right; exact Nat.le_refl _) | (right; simp; done) | (right; omega) | (right; simp at *; omega) | (simp at *; omega)) _ | with_reducible refine Chg.trans ?_ (by with_reducible assumption) (by intro i hi hT; first | exact hT | exact False.elim hT | omega | (simp at *; omega))))) fun _ _ h => h⟩
                        case measure => simp [intOf]; omega
                    · obtain rfl : i2 = X.length := by omega
                      go_wp2
                      go_roundw
                      case rel => exact ⟨j2 + 1, by omega, by go_num, HG3.out⟩
                      case measure => simp [intOf]; omega
                · obtain rfl : j2 = G.length := by omega
                  go_wp2_with fail
                  have hjm : (↑j : Int) ≤ 3 := by omega
                  have hrn := HR.out.n
                  have hrs := HR.out.s
                  have hrl := HR.out.l
                  have hfn := HFN.out
                  refine (things_dr wa lab9 d N9 (200 * own) own T9 K9 ns2 (HD9.out.still HG2.out) (by omega)).mono ?_; rintro e w10 ⟨a10, c10, rfl, _, g10⟩
                  have hq : G.length + (T9 ++ K9).length = X.length + 1 := by have := HFF.out.2.2 (by trivial); rw [HX.out.1]; exact this
                  obtain ⟨l10, hl10⟩ : ∃ l, l = (T9 ++ K9).length := ⟨_, rfl⟩
                  rw [← hl10] at hq ⊢
                  have hl10' : l10 ≤ 31 := by omega
                  have hq1 : (↑G.length : Int) = ↑X.length + 1 - ↑l10 := by omega
                  have q1 : ((↑G.length : Int) == ↑X.length + 1 - ↑l10) = true := by simpa using hq1
                  have q2 : IntKind.i64.wrap ((↑X.length : Int) + 1 - ↑l10) = ↑X.length + 1 - ↑l10 := IntWalk.i64_in _ (by omega)
                  have HEND : Hid (RmI w lab9 d own N9 T9 K9 ns2 (k + 1) w10) := ((H3.out.next HL9.out HD9.out (by omega) (by omega) (by omega) fun u hu => (hfn.2.2 u hu).elim (fun h => HR.out.b u h) (fun h => by rw [h]; exact HBD.out.1.2)).still HG2.out).still g10
                  clear hl10 hfn hq g10
                  go_wp2
                  go_roundw
                  case rel => exact ⟨k + 1, lab9, N9, T9, K9, ns2, by omega, by go_num, HEND.out⟩
                  case measure => simp [intOf]; omega
            · go_wp2_with fail
              go_loopw [114] (fun i wr => ∃ j2 : Nat, j2 ≤ G.length ∧ i = .int .i64 (↑j2 : Int) ∧ Hid (Chg (fun _ => False) w9 wr)) (fun i _ => G.length - (intOf i).toNat)
              case atStart => exact ⟨0, by omega, rfl, Chg.refl _ _⟩
              case round =>
                obtain ⟨j2, hj2, rfl, HG2⟩ := hrel
                obtain ⟨wa, hwa⟩ : ∃ wa, wa = wr := ⟨_, rfl⟩
                subst hwa
                by_cases hjt2 : j2 < G.length
                · obtain ⟨⟨gx, gn, gs, gm⟩, hgt⟩ : ∃ g, G[j2]? = some g := ⟨_, List.getElem?_eq_getElem hjt2⟩
                  have HGM : Hid ((gx, gn, gs, gm) ∈ T ++ K ∧ gs = s) := HFF.out.2.1 _ (List.mem_of_getElem? hgt)
                  obtain ⟨g2, o2, rfl, kk⟩ := (HK9.out.keep HG2.out fun _ _ => id).at (show (keyT G)[j2]? = some gx by unfold keyT; rw [List.getElem?_map, hgt]; rfl)
                  clear hgt
                  go_wp2_with fail
                  clear kk
                  go_loopw [120] (fun i wr => ∃ i2 : Nat, i2 ≤ X.length ∧ i = .int .i64 (↑i2 : Int) ∧ Hid (Chg (fun _ => False) w9 wr)) (fun i _ => X.length - (intOf i).toNat)
                  case atStart => exact ⟨0, by omega, rfl, HG2.out⟩
                  case round =>
                    obtain ⟨i2, hi2, rfl, HG3⟩ := hrel
                    by_cases hit2 : i2 < X.length
                    · obtain ⟨⟨y, m, q, qn⟩, hyt⟩ : ∃ t, X[i2]? = some t := ⟨_, List.getElem?_eq_getElem hit2⟩
                      have HYM : Hid ((y, m, q, qn) ∈ T ++ K) := by show _ ∈ _; rw [← HX.out.1]; exact List.mem_of_getElem? hyt
                      obtain ⟨g3, o3, rfl, k0, k1, k2, k3⟩ := (HO9.out.keep HG3.out fun _ _ => id).at hyt
                      clear hyt
                      go_upto_region 29 with fail
                      refine name_region ?_; intro W3 hW3
                      have gW3 : Chg (fun _ => False) wr W3 := by subst hW3; exact (by repeat (first | with_reducible exact Chg.refl _ _ | with_reducible assumption | with_reducible refine Chg.drewN ?_ _ | with_reducible refine Chg.drew ?_ | with_reducible refine Chg.alloc ?_ _ | with_reducible refine Chg.setCell ?_ (by first | (left; rfl) | (left; left; rfl) | (left; right; rfl) | (left; right; left; rfl) | (left; right; right; rfl) | (right; exact Nat.le_refl _) | (right; simp; done) | (right; omega) | (right; simp at *; omega) | (simp at *; omega)) _ | with_reducible refine Chg.trans ?_ (by with_reducible assumption) (by intro i hi hT; first | exact hT | exact False.elim hT | omega | (simp at *; omega))))
                      have h0 : W3.cell? ⟨wr.heap.size, 0, none⟩ = some (.int .i64 y) := by subst hW3; go_simp
                      have h2' : W3.cell? ⟨wr.heap.size, 2, none⟩ = some (.string q) := by subst hW3; go_simp
                      clear hW3 k0 k1 k2 k3
                      have HG4 := Lib.hid (HG3.out.trans gW3 fun _ _ h => h)
                      have e2 := (HG4.out.cell (cell_lt f2) id _).trans f2
                      clear gW3
                      by_cases hyx : y = gx
                      · have q1 : (y == gx) = true := by simpa using hyx
                        have hqs : q = s := by
                          obtain ⟨bb, lb, sb, mb, z1, z2⟩ := H8.out
                          have z3 := (getX_mem z2.nodup).2 HYM.out
                          have z4 := (getX_mem z2.nodup).2 HGM.out.1
                          simp only at z3 z4
                          rw [hyx, z4] at z3
                          injection z3 with z3
                          injection z3 with _ z3
                          injection z3 with _ z3
                          injection z3 with z3 _
                          rw [← z3]; exact HGM.out.2
                        have q2 : (q.toList == s.toList) = true := by rw [hqs]; simp
                        have q3 : q.toList = s.toList := by rw [hqs]
                        clear hqs
                        go_wp2
                        go_roundw
                        case rel => exact ⟨i2 + 1, by omega, by go_num, HG4.out.trans (show Chg (fun _ => False) W3 _ from (by repeat (first | with_reducible exact Chg.refl _ _ | with_reducible assumption | with_reducible refine Chg.drewN ?_ _ | with_reducible refine Chg.drew ?_ | with_reducible refine Chg.alloc ?_ _ | with_reducible refine Chg.setCell ?_ (by first | (left; rfl) | (left; left; rfl) | (left; right; rfl) | (left; right; left; rfl) | (left; right; right; rfl) | (right; exact Nat.le_refl _) | (right; simp; done) | (right; omega) | (right; simp at *; omega) | (simp at *; omega)) _ | with_reducible refine Chg.trans ?_ (by with_reducible assumption) (by intro i hi hT; first | exact hT | exact False.elim hT | omega | (simp at *; omega))))) fun _ _ h => h⟩
                        case measure => simp [intOf]; omega
                      · have q1 : (y == gx) = false := by simpa using hyx
                        go_wp2
                        go_roundw
                        case rel => exact ⟨i2 + 1, by omega, by go_num, HG4.out.trans (show Chg (fun _ => False) W3 _ from (by repeat (first | with_reducible exact Chg.refl _ _ | with_reducible assumption | with_reducible refine Chg.drewN ?_ _ | with_reducible refine Chg.drew ?_ | with_reducible refine Chg.alloc ?_ _ | with_reducible refine Chg.setCell ?_ (by first | (left; rfl) | (left; left; rfl) | (left; right; rfl) | (left; right; left; rfl) | (left; right; right; rfl) | (right; exact Nat.le_refl _) | (right; simp; done) | (right; omega) | (right; simp at *; omega) | (simp at *; omega)) _ | with_reducible refine Chg.trans ?_ (by with_reducible assumption) (by intro i hi hT; first | exact hT | exact False.elim hT | omega | (simp at *; omega))))) fun _ _ h => h⟩
                        case measure => simp [intOf]; omega
                    · obtain rfl : i2 = X.length := by omega
                      go_wp2
                      go_roundw
                      case rel => exact ⟨j2 + 1, by omega, by go_num, HG3.out⟩
                      case measure => simp [intOf]; omega
                · obtain rfl : j2 = G.length := by omega
                  go_wp2_with fail
                  have hjm : (↑j : Int) ≤ 3 := by omega
                  have hrn := HR.out.n
                  have hrs := HR.out.s
                  have hrl := HR.out.l
                  have hfn := HFN.out
                  refine (things_dr wa lab9 d N9 (200 * own) own T9 K9 ns2 (HD9.out.still HG2.out) (by omega)).mono ?_; rintro e w10 ⟨a10, c10, rfl, _, g10⟩
                  obtain ⟨l10, hl10⟩ : ∃ l, l = (T9 ++ K9).length := ⟨_, rfl⟩
                  rw [← hl10]
                  have hl10' : l10 ≤ 31 := by omega
                  have q2 : IntKind.i64.wrap ((↑X.length : Int) + 1 - ↑l10) = ↑X.length + 1 - ↑l10 := IntWalk.i64_in _ (by omega)
                  have HEND : Hid (RmI w lab9 d own N9 T9 K9 ns2 (k + 1) w10) := ((H3.out.next HL9.out HD9.out (by omega) (by omega) (by omega) fun u hu => (hfn.2.2 u hu).elim (fun h => HR.out.b u h) (fun h => by rw [h]; exact HBD.out.1.2)).still HG2.out).still g10
                  clear hl10 hfn g10
                  go_wp2
                  all_goals
                    go_roundw
                    case rel => exact ⟨k + 1, lab9, N9, T9, K9, ns2, by omega, by go_num, HEND.out⟩
                    case measure => simp [intOf]; omega
    · obtain rfl : k = xs.length := by omega
      go_wp2
      go_ret
      exact ⟨rfl, Chg.below HR.out.g⟩
end Go.Proofs.Ytdoepjokaekckaa
