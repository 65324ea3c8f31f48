/- The reference's call Offer, walked. (Printed by genoffr.py.) -/
import Derived.Test.YtdoepjokaekckaaCb
import Derived.Deep.RegionLaw
import Derived.Deep.DeepCutAuto
namespace Go.Proofs.Ytdoepjokaekckaa
set_option linter.unusedVariables false
open Go.RowKit

theorem drops_len (T K : List Tg) (G : List Tg) : ((dropsX T K G).1 ++ (dropsX T K G).2).length ≤ (T ++ K).length := by
  have one : ∀ (G T : List Tg), (G.foldl (fun T t => delX T t.1) T).length ≤ T.length := by
    intro G
    induction G with
    | nil => intro T; exact Nat.le_refl _
    | cons g G ih =>
      intro T
      refine Nat.le_trans (ih (delX T g.1)) ?_
      unfold delX
      exact List.eraseP_sublist.length_le
  have h1 := one G T
  have h2 := one G K
  rw [List.length_append, List.length_append]
  show (G.foldl (fun T t => delX T t.1) T).length + (G.foldl (fun K t => delX K t.1) K).length ≤ _
  omega
/-- What the reference's Offer leaves. -/
def ROffPost (w : World) (lr : Nat → Nat) (b : Nat) (room share : Int) (T K : List Tg) (ns : List Int) (t : Tg) (hs : List Int) (e : Ending) (w' : World) : Prop :=
  (offB room share T K ns t hs = false ∧ e = .returned (.tuple #[.bool false, .slice none 0 0]) ∧ Chg (fun _ => False) w w') ∨
  (offB room share T K ns t hs = true ∧ ∃ a c lr', e = .returned (.tuple #[.bool true, .slice a (goesX room share T K t hs).G.length c]) ∧ w'.ownsRow w.heap.size 2 1 (.slice a (goesX room share T K t hs).G.length c) (goesX room share T K t hs).G.length (nums (keyT (goesX room share T K t hs).G)) ∧ (∀ q, (Value.slice a (goesX room share T K t hs).G.length c).ownBlock = some q → lr' q = 0) ∧ Rd w' lr' b room share ((dropsX T K (goesX room share T K t hs).G).1 ++ [t]) (dropsX T K (goesX room share T K t hs).G).2 ns ∧ Lab w lr lr' w')
set_option maxHeartbeats 16000000 in
set_option maxRecDepth 4000 in
theorem roffer_any (w : World) (lr : Nat → Nat) (b : Nat) (room share : Int) (T K : List Tg) (ns : List Int) (x n : Int) (s : ByteArray) (nm : Int) (a : Option Addr) (c : Nat) (hs : List Int) (h : Rd w lr b room share T K ns) (hN : (T ++ K).length ≤ 890) (hx : -9223372036854775808 ≤ x ∧ x ≤ 9223372036854775807) (hnm : 0 ≤ nm ∧ nm ≤ 18446744073709551615) (hns : ns.length ≤ 10000) (hh : IsH w a hs) (hl : hs.length ≤ 9223372036854775807) :
    Calls Try.prog 13 #[.pointer (some ⟨b, 0, none⟩), tv (x, n, s, nm), .slice a hs.length c] w (ROffPost w lr b room share T K ns (x, n, s, nm) hs) := by
  show Calls _ _ #[_, .agg #[.int .i64 x, .int .i64 n, .string s, .int .u64 nm], _] _ _
  obtain ⟨ie, hie, ez0, ez1, ez2⟩ := info_parts infoRg
  have hxw : (Lit.int .i64 x).wf = true := WalkArith.wf_i64 hx
  have HD := Lib.hid h
  have HI : Hid (DInv room share T K) := h.inv
  have HH := Lib.hid hh
  clear h hh
  go_enter Try.func13, Try.ntmps13
  go_upto_region 1 with fail
  refine name_region ?_; intro W hW
  have gW : Chg (fun _ => False) w W := by subst hW; exact (by repeat (first | with_reducible exact Chg.refl _ _ | with_reducible assumption | with_reducible refine Chg.drewN ?_ _ | with_reducible refine Chg.drew ?_ | with_reducible refine Chg.alloc ?_ _ | with_reducible refine Chg.setCell ?_ (by first | (left; rfl) | (left; left; rfl) | (left; right; rfl) | (left; right; left; rfl) | (left; right; right; rfl) | (right; exact Nat.le_refl _) | (right; simp; done) | (right; omega) | (right; simp at *; omega) | (simp at *; omega)) _ | with_reducible refine Chg.trans ?_ (by with_reducible assumption) (by intro i hi hT; first | exact hT | exact False.elim hT | omega | (simp at *; omega))))
  have b0 : W.cell? ⟨w.heap.size, 0, none⟩ = some (.int .i64 x) := by subst hW; go_simp
  have b1 : W.cell? ⟨w.heap.size, 1, none⟩ = some (.int .i64 n) := by subst hW; go_simp
  have b2 : W.cell? ⟨w.heap.size, 2, none⟩ = some (.string s) := by subst hW; go_simp
  have b3 : W.cell? ⟨w.heap.size, 3, none⟩ = some (.int .u64 nm) := by subst hW; go_simp
  clear hW
  have HW := Lib.hid (HD.out.still gW)
  have GW := Lib.hid gW
  have lW1 := cell_lt b0
  have HB := Lib.hid (And.intro b0 (And.intro b1 (And.intro b2 b3)))
  clear gW
  by_cases h1 : n < 1
  · have HF : Hid (offB room share T K ns (x, n, s, nm) hs = false) := offB_bad (.inl h1)
    go_wp2
    go_ret2
    exact .inl ⟨HF.out, rfl, GW.out⟩
  by_cases h2 : 1099511627776 < n
  · have HF : Hid (offB room share T K ns (x, n, s, nm) hs = false) := offB_bad (.inr (.inl h2))
    go_wp2
    go_ret2
    exact .inl ⟨HF.out, rfl, GW.out⟩
  by_cases h3 : (200 : Int) < ↑s.size
  · have HF : Hid (offB room share T K ns (x, n, s, nm) hs = false) := offB_bad (.inr (.inr (.inl (by simp only; omega))))
    go_wp2
    go_ret2
    exact .inl ⟨HF.out, rfl, GW.out⟩
  have HBD : Hid ((1 ≤ n ∧ n ≤ 1099511627776) ∧ s.size ≤ 200) := ⟨by omega, by omega⟩
  go_wp2_with fail
  refine (rhas_any W lr b room share T K ns x HW.out).mono ?_; rintro e w1 ⟨rfl, g1⟩
  have G1 := Lib.hid (GW.out.trans g1 fun _ _ h => h)
  have H1 := Lib.hid (HW.out.still g1)
  clear b0 b1 b2 b3
  have b0 := (g1.cell lW1 id _).trans HB.out.1
  have b1 := (g1.cell lW1 id _).trans HB.out.2.1
  have b2 := (g1.cell lW1 id _).trans HB.out.2.2.1
  have b3 := (g1.cell lW1 id _).trans HB.out.2.2.2
  have HB1 := Lib.hid (And.intro b0 (And.intro b1 (And.intro b2 b3)))
  have lw1 := cell_lt b0
  clear g1
  cases hhas : (getX (T ++ K) x).isSome with
  | true =>
    have HF : Hid (offB room share T K ns (x, n, s, nm) hs = false) := offB_bad (.inr (.inr (.inr hhas)))
    clear hhas
    go_wp2
    go_ret2
    exact .inl ⟨HF.out, rfl, G1.out⟩
  | false =>
    have HHAS := Lib.hid hhas
    clear hhas
    go_wp2_with fail
    refine (rgoes_any w1 lr b room share T K ns x n s nm a c hs H1.out (by omega) HBD.out.1 (HH.out.keep G1.out) hl).mono ?_; rintro e w3 ⟨a3, c3, rfl, ho, g3⟩
    obtain ⟨z, hz⟩ : ∃ z, z = goesX room share T K (x, n, s, nm) hs := ⟨_, rfl⟩
    have hsq := stQ_room (room := room) (share := share) (n := n) (s := s) (hs := hs) (X := T ++ K) (by rw [← keyT_pts]; exact HI.out.nodup) fun t ht => (HI.out.each t ht).1.1
    rw [show roomP room share (T ++ K) n s hs = z from hz.symm] at hsq
    rw [hsq.1] at ho ⊢
    rw [hsq.2]
    have HZE := Lib.hid hz
    have HO := Lib.hid ho
    have H3 := Lib.hid (H1.out.still g3)
    have G3 := Lib.hid (G1.out.trans g3 fun _ _ h => h)
    clear b0 b1 b2 b3 hsq
    have b0 := (g3.cell lw1 id _).trans HB1.out.1
    have b1 := (g3.cell lw1 id _).trans HB1.out.2.1
    have b2 := (g3.cell lw1 id _).trans HB1.out.2.2.1
    have b3 := (g3.cell lw1 id _).trans HB1.out.2.2.2
    have HB3 := Lib.hid (And.intro b0 (And.intro b1 (And.intro b2 b3)))
    have lw3 := cell_lt b0
    clear hz ho g3 b0 b1 b2 b3 h1 h2 h3
    cases hrb : roomB room share n z with
    | false =>
      have HF : Hid (offB room share T K ns (x, n, s, nm) hs = false) := offB_room (by rw [← HZE.out]; exact hrb)
      clear hrb
      go_wp2
      go_ret2
      exact .inl ⟨HF.out, rfl, G3.out⟩
    | true =>
      have HRB := Lib.hid hrb
      clear hrb
      obtain ⟨⟨T2, K2⟩, hd⟩ : ∃ D, D = dropsX T K z.G := ⟨_, rfl⟩
      have HD2 := Lib.hid hd
      have hfit := offer_fit (room := room) (share := share) (n := n) (s := s) (hs := hs) HI.out (by show roomB _ _ _ (goesX room share T K (x, n, s, nm) hs) = true; rw [← HZE.out]; exact HRB.out) (T2 := T2) (K2 := K2) (by show dropsX T K (goesX room share T K (x, n, s, nm) hs).G = _; rw [← HZE.out]; exact hd.symm)
      rw [show roomP room share (T ++ K) n s hs = z from HZE.out.symm] at hfit
      have HFIT := Lib.hid hfit
      have hgl : z.G.length ≤ (T ++ K).length := by have h9 := hfit.2.2.2.2.length_eq; have h8 : (z.G ++ (T2 ++ K2)).length = z.G.length + (T2 ++ K2).length := List.length_append; omega
      have HK3 : Hid (IsK w3 a3 c3 (keyT z.G)) := by
        show RdS w3 1 a3 (keyT z.G).length c3 (nums (keyT z.G))
        rw [keyT_len]; exact RdS.row HO.out (nums_one _)
      clear hd hfit
      go_wp2_with fail
      go_loopw [47] (fun i wr => ∃ k : Nat, k ≤ z.G.length ∧ i = .int .i64 (↑k : Int) ∧ Hid (∀ g ∈ z.G.take k, tell ns g.2.2.2 < tell ns nm) ∧ Hid (Chg (fun _ => False) w3 wr)) (fun i _ => z.G.length - (intOf i).toNat)
      case atStart => exact ⟨0, by omega, rfl, fun g hg => by simp at hg, Chg.refl _ _⟩
      case round =>
        obtain ⟨k, hk, rfl, HT, HG⟩ := hrel
        by_cases hkt : k < z.G.length
        · obtain ⟨⟨y, m, q, qn⟩, ht⟩ : ∃ t, z.G[k]? = some t := ⟨_, List.getElem?_eq_getElem hkt⟩
          have HM : Hid ((y, m, q, qn) ∈ z.G) := List.mem_of_getElem? ht
          have HTK : Hid (z.G.take (k + 1) = z.G.take k ++ [(y, m, q, qn)]) := by show _ = _; rw [List.take_add_one, ht]; rfl
          have he := HI.out.each (y, m, q, qn) (HFIT.out.2.2.1 _ HM.out)
          have HE := Lib.hid he
          have HGX : Hid (getX (T ++ K) y = some (y, m, q, qn)) := (getX_mem (t := (y, m, q, qn)) HI.out.nodup).2 (HFIT.out.2.2.1 _ HM.out)
          obtain ⟨g, o, rfl, k0⟩ := (HK3.out.keep HG.out fun _ _ => id).at (show (keyT z.G)[k]? = some y by unfold keyT; rw [List.getElem?_map, ht]; rfl)
          obtain ⟨lb, sb, aL, cL, L, h4, hp4, hi4⟩ := H3.out.still HG.out
          have HLG : Hid (getX L y = some (y, m, q, qn)) := by show _ = _; rw [get_perm hp4 hi4]; exact HGX.out
          have H4 := Lib.hid h4
          have lr3 := HG.out.size
          clear ht he h4 hp4 hi4
          go_wp2_with fail
          refine (rfind_any wr lr b lb sb aL cL room share L T K ns y H4.out).mono ?_; rintro e wf ⟨rfl, gf⟩
          rw [HLG.out]
          simp only [tv, Option.getD_some, Option.isSome_some]
          have HGF := Lib.hid (HG.out.trans gf fun _ _ h => h)
          have H5 := Lib.hid (H4.out.still gf)
          clear gf k0
          go_upto_region 10 with fail
          refine name_region ?_; intro W4 hW4
          have gW4 : Chg (fun _ => False) wf W4 := by subst hW4; exact (by repeat (first | with_reducible exact Chg.refl _ _ | with_reducible assumption | with_reducible refine Chg.drewN ?_ _ | with_reducible refine Chg.drew ?_ | with_reducible refine Chg.alloc ?_ _ | with_reducible refine Chg.setCell ?_ (by first | (left; rfl) | (left; left; rfl) | (left; right; rfl) | (left; right; left; rfl) | (left; right; right; rfl) | (right; exact Nat.le_refl _) | (right; simp; done) | (right; omega) | (right; simp at *; omega) | (simp at *; omega)) _ | with_reducible refine Chg.trans ?_ (by with_reducible assumption) (by intro i hi hT; first | exact hT | exact False.elim hT | omega | (simp at *; omega))))
          have f3 : W4.cell? ⟨wf.heap.size, 3, none⟩ = some (.int .u64 qn) := by subst hW4; go_simp
          clear hW4
          have HG4 := Lib.hid (HGF.out.trans gW4 fun _ _ h => h)
          have b3 := (HG4.out.cell lw3 id _).trans HB3.out.2.2.2
          have h4 := H5.out.still gW4
          have c4 := h4.c4
          obtain ⟨ta, hta⟩ : ∃ u, u = tell ns nm := ⟨_, rfl⟩
          obtain ⟨tb, htb⟩ : ∃ u, u = tell ns qn := ⟨_, rfl⟩
          have HTT := Lib.hid (And.intro hta htb)
          have pos : ∀ i j, 0 ≤ tabN ns i j := fun i j => (tabN_bd ns i j).1
          have HA : Hid (∀ m, Calls Try.prog 35 #[.pointer (some ⟨sb, 0, none⟩), .int .u64 nm] (W4.drewN m) fun e w' => e = .returned (.int .i64 ta) ∧ W4.drewN m = w') := fun m => by rw [hta]; exact Sk.rcount_o _ _ sb 4 1024 16384 ns.length (tabN ns) (4 * ns.length) (4 * ns.length) nm (h4.sk.chg (S := fun _ => False) (by repeat (first | with_reducible exact Chg.refl _ _ | with_reducible assumption | with_reducible refine Chg.drewN ?_ _ | with_reducible refine Chg.drew ?_ | with_reducible refine Chg.alloc ?_ _ | with_reducible refine Chg.setCell ?_ (by first | (left; rfl) | (left; left; rfl) | (left; right; rfl) | (left; right; left; rfl) | (left; right; right; rfl) | (right; exact Nat.le_refl _) | (right; simp; done) | (right; omega) | (right; simp at *; omega) | (simp at *; omega)) _ | with_reducible refine Chg.trans ?_ (by with_reducible assumption) (by intro i hi hT; first | exact hT | exact False.elim hT | omega | (simp at *; omega)))) fun _ _ => id) (by omega) (by omega) hnm (by omega) (by omega) pos
          have HC : Hid (∀ m, Calls Try.prog 35 #[.pointer (some ⟨sb, 0, none⟩), .int .u64 qn] (W4.drewN m) fun e w' => e = .returned (.int .i64 tb) ∧ W4.drewN m = w') := fun m => by rw [htb]; exact Sk.rcount_o _ _ sb 4 1024 16384 ns.length (tabN ns) (4 * ns.length) (4 * ns.length) qn (h4.sk.chg (S := fun _ => False) (by repeat (first | with_reducible exact Chg.refl _ _ | with_reducible assumption | with_reducible refine Chg.drewN ?_ _ | with_reducible refine Chg.drew ?_ | with_reducible refine Chg.alloc ?_ _ | with_reducible refine Chg.setCell ?_ (by first | (left; rfl) | (left; left; rfl) | (left; right; rfl) | (left; right; left; rfl) | (left; right; right; rfl) | (right; exact Nat.le_refl _) | (right; simp; done) | (right; omega) | (right; simp at *; omega) | (simp at *; omega)) _ | with_reducible refine Chg.trans ?_ (by with_reducible assumption) (by intro i hi hT; first | exact hT | exact False.elim hT | omega | (simp at *; omega)))) fun _ _ => id) (by omega) (by omega) HE.out.2.2.2 (by omega) (by omega) pos
          clear h4 gW4 hta htb pos
          go_quiet ((first | (go_at_call 35; first | with_reducible exact quiet_add (HA.out _) | with_reducible exact quiet_same (HA.out _) | with_reducible exact quiet_add (HC.out _) | with_reducible exact quiet_same (HC.out _))))
          clear b3 c4 f3
          by_cases hB : ta ≤ tb
          · have qB := decP hB
            have hB' : ¬ tb < ta := by omega
            have HF : Hid (offB room share T K ns (x, n, s, nm) hs = false) := offB_name (g := (y, m, q, qn)) (by rw [← HZE.out]; exact HM.out) (by show tell ns nm ≤ tell ns qn; rw [← HTT.out.1, ← HTT.out.2]; exact hB)
            go_wp2
            go_ret2
            exact .inl ⟨HF.out, rfl, (G3.out.trans HG4.out fun _ _ h => h).trans (show Chg (fun _ => False) W4 _ from (by repeat (first | with_reducible exact Chg.refl _ _ | with_reducible assumption | with_reducible refine Chg.drewN ?_ _ | with_reducible refine Chg.drew ?_ | with_reducible refine Chg.alloc ?_ _ | with_reducible refine Chg.setCell ?_ (by first | (left; rfl) | (left; left; rfl) | (left; right; rfl) | (left; right; left; rfl) | (left; right; right; rfl) | (right; exact Nat.le_refl _) | (right; simp; done) | (right; omega) | (right; simp at *; omega) | (simp at *; omega)) _ | with_reducible refine Chg.trans ?_ (by with_reducible assumption) (by intro i hi hT; first | exact hT | exact False.elim hT | omega | (simp at *; omega))))) fun _ _ h => h⟩
          · have qB := decN hB
            have hB' : tb < ta := by omega
            have HBB : Hid (tell ns qn < tell ns nm) := by show _ < _; rw [← HTT.out.1, ← HTT.out.2]; exact hB'
            go_wp2
            go_roundw
            case rel => exact ⟨k + 1, by omega, by go_num, fun g hg => by
              rw [HTK.out] at hg
              rcases List.mem_append.1 hg with hg | hg
              · exact HT.out g hg
              · rw [List.mem_singleton.1 hg]; exact HBB.out, HG4.out.trans (show Chg (fun _ => False) W4 _ from (by repeat (first | with_reducible exact Chg.refl _ _ | with_reducible assumption | with_reducible refine Chg.drewN ?_ _ | with_reducible refine Chg.drew ?_ | with_reducible refine Chg.alloc ?_ _ | with_reducible refine Chg.setCell ?_ (by first | (left; rfl) | (left; left; rfl) | (left; right; rfl) | (left; right; left; rfl) | (left; right; right; rfl) | (right; exact Nat.le_refl _) | (right; simp; done) | (right; omega) | (right; simp at *; omega) | (simp at *; omega)) _ | with_reducible refine Chg.trans ?_ (by with_reducible assumption) (by intro i hi hT; first | exact hT | exact False.elim hT | omega | (simp at *; omega))))) fun _ _ h => h⟩
            case measure => simp [intOf]; omega
        · obtain rfl : k = z.G.length := by omega
          rw [List.take_length] at HT
          obtain ⟨w5, hw5⟩ : ∃ w5, w5 = wr := ⟨_, rfl⟩
          subst hw5
          have HALL : Hid (∀ g ∈ z.G, tell ns g.2.2.2 < tell ns nm) := HT.out
          have H5 := Lib.hid (H3.out.still HG.out)
          have G5 := Lib.hid (G3.out.trans HG.out fun _ _ h => h)
          have HB5 : Hid (w5.cell? ⟨w.heap.size, 0, none⟩ = some (.int .i64 x) ∧ w5.cell? ⟨w.heap.size, 1, none⟩ = some (.int .i64 n) ∧ w5.cell? ⟨w.heap.size, 2, none⟩ = some (.string s) ∧ w5.cell? ⟨w.heap.size, 3, none⟩ = some (.int .u64 nm)) := ⟨(HG.out.cell lw3 id _).trans HB3.out.1, (HG.out.cell lw3 id _).trans HB3.out.2.1, (HG.out.cell lw3 id _).trans HB3.out.2.2.1, (HG.out.cell lw3 id _).trans HB3.out.2.2.2⟩
          have lw5 := cell_lt HB5.out.1
          have HO5 : Hid (w5.ownsRow w1.heap.size 2 1 (.slice a3 z.G.length c3) z.G.length (nums (keyT z.G))) := own_chg HO.out HG.out fun _ _ _ _ => id
          have HL5 : Hid (∀ q, (Value.slice a3 z.G.length c3).ownBlock = some q → w.heap.size ≤ q ∧ q < w5.heap.size ∧ lr q = 0) := fun q hq => by
            have h1 := own_below HO5.out hq
            have h2 := G1.out.size
            exact ⟨by omega, h1.2, by rcases Nat.eq_zero_or_pos (lr q) with e | e; exact e; obtain ⟨_, _, _, _, _, z1, _⟩ := HD.out; exact absurd (z1.low q (by omega)) (by omega)⟩
          have zb : lr w.heap.size = 0 := HD.out.low (Nat.le_refl _)
          have ZB := Lib.hid zb
          clear HT hkt zb
          go_wp2_with fail
          go_loopw [75] (fun i wr => ∃ (k : Nat) (lr2 : Nat → Nat), k ≤ z.G.length ∧ i = .int .i64 (↑k : Int) ∧ Hid (Rd wr lr2 b room share (dropsX T K (z.G.take k)).1 (dropsX T K (z.G.take k)).2 ns) ∧ Hid (Lab w5 lr lr2 wr)) (fun i _ => z.G.length - (intOf i).toNat)
          case atStart => exact ⟨0, lr, by omega, rfl, H5.out, Lab.refl _ _⟩
          case round =>
            obtain ⟨k, lr2, hk, rfl, HR2, HLb⟩ := hrel
            by_cases hkt : k < z.G.length
            · obtain ⟨⟨y, m, q, qn⟩, ht⟩ : ∃ t, z.G[k]? = some t := ⟨_, List.getElem?_eq_getElem hkt⟩
              have HTK : Hid (z.G.take (k + 1) = z.G.take k ++ [(y, m, q, qn)]) := by show _ = _; rw [List.take_add_one, ht]; rfl
              have HOk : IsK wr a3 c3 (keyT z.G) := by
                have h1 := own_chg HO5.out HLb.out.2 fun g _ _ hg e => by have := (HL5.out g hg).2.2; omega
                show RdS wr 1 a3 (keyT z.G).length c3 (nums (keyT z.G))
                rw [keyT_len]; exact RdS.row h1 (nums_one _)
              obtain ⟨g, o, rfl, k0⟩ := HOk.at (show (keyT z.G)[k]? = some y by unfold keyT; rw [List.getElem?_map, ht]; rfl)
              have hdl := drops_len T K (z.G.take k)
              clear ht HOk
              go_wp2_with fail
              refine (rdrop_any wr lr2 b room share _ _ ns y HR2.out (by omega)).mono ?_; rintro e w7 ⟨rfl, lr3, hD, hL⟩
              obtain ⟨rb, hrb⟩ : ∃ r, r = (getX ((dropsX T K (z.G.take k)).1 ++ (dropsX T K (z.G.take k)).2) y).isSome := ⟨_, rfl⟩
              rw [← hrb]
              have HE7 := Lib.hid hD
              have HL7 := Lib.hid (HLb.out.trans hL)
              clear hD hL hrb k0
              go_wp2
              go_roundw
              case rel => exact ⟨k + 1, lr3, by omega, by go_num, (by rw [HTK.out, drops_snoc]; exact HE7.out), HL7.out⟩
              case measure => simp [intOf]; omega
            · obtain rfl : k = z.G.length := by omega
              rw [List.take_length, ← HD2.out] at HR2
              obtain ⟨lb, sb, aL, cL, L, h8, hp8, hi8⟩ := HR2.out
              have HR := Lib.hid h8
              have HP8 := Lib.hid hp8
              have HI8 := Lib.hid hi8
              have HX8 : Hid (getX (T2 ++ K2) x = none) := by
                show _ = _
                cases e : getX (T2 ++ K2) x with
                | none => rfl
                | some u =>
                  obtain ⟨e1, e2, _⟩ := getX_at e
                  have h1 := (getX_mem HI.out.nodup).2 (HFIT.out.2.2.2.2.mem_iff.2 (List.mem_append_right _ e2))
                  have h2 := HHAS.out
                  rw [← e1, h1] at h2
                  cases h2
              obtain ⟨W, hWr⟩ : ∃ W, W = wr := ⟨_, rfl⟩
              subst hWr
              have t0 := (HLb.out.2.cell lw5 (by have := ZB.out; omega) _).trans HB5.out.1
              have t1 := (HLb.out.2.cell lw5 (by have := ZB.out; omega) _).trans HB5.out.2.1
              have t2 := (HLb.out.2.cell lw5 (by have := ZB.out; omega) _).trans HB5.out.2.2.1
              have t3 := (HLb.out.2.cell lw5 (by have := ZB.out; omega) _).trans HB5.out.2.2.2
              have m2 := HR.out.c2
              have mf := HR.out.fz
              have lrb := cell_lt m2
              have lt := cell_lt t0
              have hLl : L.length ≤ 890 := by
                rw [hp8.length_eq]
                have h9 := HFIT.out.2.2.2.2.length_eq
                simp only [List.length_append] at h9 hN ⊢
                omega
              have zb2 : lr2 w.heap.size = 0 := by rw [HLb.out.1 _ lw5]; exact ZB.out
              have ZB2 := Lib.hid zb2
              clear h8 hp8 hi8 zb2 hkt hk
              go_upto_region 18 with fail
              go_cut [83] (fun _ wx => Hid (∃ (a4 : Option Addr) (c4 : Nat) (lr4 : Nat → Nat), RdR wx lr4 b lb sb a4 c4 room share (L ++ [(x, n, s, nm)]) T2 K2 ns ∧ Lab W lr2 lr4 wx))
              case first =>
                go_region_law (first
        | (refine step_owned (by rfl) _ _ 55 (by rfl) W.heap.size 34 ie _ 4 40 Try.underlying55 hie ez0 ez1 ez2 rfl (by decide) (by rfl) (by rfl) ho1 hone1 (rd_four (x := x) (y := n) (s := s) (z := nm) (by first | assumption | go_simp) (by first | assumption | go_simp) (by first | assumption | go_simp) (by first | assumption | go_simp)) (by unfold maxLen; omega) (by omega) (by first | omega | (simp; omega)) ?_; intro X2 D2 V2 ho2 hg2 hone2; have j2 : Chg (fun _ => False) W V2 := Chg.grown (by first | exact j1 | exact Chg.alloc j1 _) hg2 (fun k hk => .inr (own_below ho1 hk).1); have u2 := (j2.cell lrb id 2).trans m2; have uf : ∀ o, V2.frozen? ⟨b, o, none⟩ = false := fun o => (j2.frozen lrb id o).trans (mf o); have w0 := (j2.cell lt id 0).trans t0)
        | (refine step_owned (by rfl) _ _ 55 (by rfl) W.heap.size 34 ie _ 4 40 Try.underlying55 hie ez0 ez1 ez2 rfl (by decide) (by rfl) (by rfl) (ho1.alloc _) hone1 (rd_four (x := x) (y := n) (s := s) (z := nm) (by first | assumption | go_simp) (by first | assumption | go_simp) (by first | assumption | go_simp) (by first | assumption | go_simp)) (by unfold maxLen; omega) (by omega) (by first | omega | (simp; omega)) ?_; intro X2 D2 V2 ho2 hg2 hone2; have j2 : Chg (fun _ => False) W V2 := Chg.grown (by first | exact j1 | exact Chg.alloc j1 _) hg2 (fun k hk => .inr (own_below ho1 hk).1); have u2 := (j2.cell lrb id 2).trans m2; have uf : ∀ o, V2.frozen? ⟨b, o, none⟩ = false := fun o => (j2.frozen lrb id o).trans (mf o); have w0 := (j2.cell lt id 0).trans t0)
        | (refine step_owned (by rfl) _ _ 55 (by rfl) W.heap.size 34 ie _ 4 40 Try.underlying55 hie ez0 ez1 ez2 rfl (by decide) (by rfl) (by rfl) (own_drew (row_empty (w := W.alloc (.cells #[.int .i64 x, .int .i64 n, .string s, .int .u64 nm] 34)) (by simp) (by simp <;> omega) (by unfold maxLen; omega))) (by simp) (RdS.block HR.out.row (S := fun _ => False) (by repeat (first | with_reducible exact Chg.refl _ _ | with_reducible assumption | with_reducible refine Chg.drewN ?_ _ | with_reducible refine Chg.drew ?_ | with_reducible refine Chg.alloc ?_ _ | with_reducible refine Chg.setCell ?_ (by first | (left; rfl) | (left; left; rfl) | (left; right; rfl) | (left; right; left; rfl) | (left; right; right; rfl) | (right; exact Nat.le_refl _) | (right; simp; done) | (right; omega) | (right; simp at *; omega) | (simp at *; omega)) _ | with_reducible refine Chg.trans ?_ (by with_reducible assumption) (by intro i hi hT; first | exact hT | exact False.elim hT | omega | (simp at *; omega)))) (fun _ _ h => h)) (by unfold maxLen; omega) (by omega) (by simp <;> omega) ?_; intro X1 D1 V1 ho1 hg1 hone1; rw [Nat.zero_add, List.nil_append] at ho1; rw [List.nil_append] at hone1; have s1 := hg1.size; simp at s1; have j1 : Chg (fun _ => False) W V1 := Chg.grown (by repeat (first | with_reducible exact Chg.refl _ _ | with_reducible assumption | with_reducible refine Chg.drewN ?_ _ | with_reducible refine Chg.drew ?_ | with_reducible refine Chg.alloc ?_ _ | with_reducible refine Chg.setCell ?_ (by first | (left; rfl) | (left; left; rfl) | (left; right; rfl) | (left; right; left; rfl) | (left; right; right; rfl) | (right; exact Nat.le_refl _) | (right; simp; done) | (right; omega) | (right; simp at *; omega) | (simp at *; omega)) _ | with_reducible refine Chg.trans ?_ (by with_reducible assumption) (by intro i hi hT; first | exact hT | exact False.elim hT | omega | (simp at *; omega)))) hg1 (fun k hk => .inr (by simp [Value.ownBlock] at hk; omega)); have z0 := (j1.cell lt id 0).trans t0; have z1 := (j1.cell lt id 1).trans t1; have z2 := (j1.cell lt id 2).trans t2; have z3 := (j1.cell lt id 3).trans t3; have y0 : V1.cell? ⟨W.heap.size, 0, none⟩ = some (.int .i64 x) := Eq.trans (hg1.cell_far ⟨W.heap.size, 0, none⟩ (by simp <;> omega) (by simp [Value.ownBlock] <;> omega)) (by go_simp); have y1 : V1.cell? ⟨W.heap.size, 1, none⟩ = some (.int .i64 n) := Eq.trans (hg1.cell_far ⟨W.heap.size, 1, none⟩ (by simp <;> omega) (by simp [Value.ownBlock] <;> omega)) (by go_simp); have y2 : V1.cell? ⟨W.heap.size, 2, none⟩ = some (.string s) := Eq.trans (hg1.cell_far ⟨W.heap.size, 2, none⟩ (by simp <;> omega) (by simp [Value.ownBlock] <;> omega)) (by go_simp); have y3 : V1.cell? ⟨W.heap.size, 3, none⟩ = some (.int .u64 nm) := Eq.trans (hg1.cell_far ⟨W.heap.size, 3, none⟩ (by simp <;> omega) (by simp [Value.ownBlock] <;> omega)) (by go_simp))
        | (refine step_owned (by rfl) _ _ 55 (by rfl) W.heap.size 34 ie _ 4 40 Try.underlying55 hie ez0 ez1 ez2 rfl (by decide) (by rfl) (by rfl) (own_drew (World.ownsRow.alloc (row_empty (w := W) (by simp) (by simp <;> omega) (by unfold maxLen; omega)) _)) (by simp) (RdS.block HR.out.row (S := fun _ => False) (by repeat (first | with_reducible exact Chg.refl _ _ | with_reducible assumption | with_reducible refine Chg.drewN ?_ _ | with_reducible refine Chg.drew ?_ | with_reducible refine Chg.alloc ?_ _ | with_reducible refine Chg.setCell ?_ (by first | (left; rfl) | (left; left; rfl) | (left; right; rfl) | (left; right; left; rfl) | (left; right; right; rfl) | (right; exact Nat.le_refl _) | (right; simp; done) | (right; omega) | (right; simp at *; omega) | (simp at *; omega)) _ | with_reducible refine Chg.trans ?_ (by with_reducible assumption) (by intro i hi hT; first | exact hT | exact False.elim hT | omega | (simp at *; omega)))) (fun _ _ h => h)) (by unfold maxLen; omega) (by omega) (by simp <;> omega) ?_; intro X1 D1 V1 ho1 hg1 hone1; rw [Nat.zero_add, List.nil_append] at ho1; rw [List.nil_append] at hone1; have s1 := hg1.size; simp at s1; have j1 : Chg (fun _ => False) W V1 := Chg.grown (by repeat (first | with_reducible exact Chg.refl _ _ | with_reducible assumption | with_reducible refine Chg.drewN ?_ _ | with_reducible refine Chg.drew ?_ | with_reducible refine Chg.alloc ?_ _ | with_reducible refine Chg.setCell ?_ (by first | (left; rfl) | (left; left; rfl) | (left; right; rfl) | (left; right; left; rfl) | (left; right; right; rfl) | (right; exact Nat.le_refl _) | (right; simp; done) | (right; omega) | (right; simp at *; omega) | (simp at *; omega)) _ | with_reducible refine Chg.trans ?_ (by with_reducible assumption) (by intro i hi hT; first | exact hT | exact False.elim hT | omega | (simp at *; omega)))) hg1 (fun k hk => .inr (by simp [Value.ownBlock] at hk; omega)); have z0 := (j1.cell lt id 0).trans t0; have z1 := (j1.cell lt id 1).trans t1; have z2 := (j1.cell lt id 2).trans t2; have z3 := (j1.cell lt id 3).trans t3; have y0 : V1.cell? ⟨W.heap.size + 1, 0, none⟩ = some (.int .i64 x) := Eq.trans (hg1.cell_far ⟨W.heap.size + 1, 0, none⟩ (by simp <;> omega) (by simp [Value.ownBlock] <;> omega)) (by go_simp); have y1 : V1.cell? ⟨W.heap.size + 1, 1, none⟩ = some (.int .i64 n) := Eq.trans (hg1.cell_far ⟨W.heap.size + 1, 1, none⟩ (by simp <;> omega) (by simp [Value.ownBlock] <;> omega)) (by go_simp); have y2 : V1.cell? ⟨W.heap.size + 1, 2, none⟩ = some (.string s) := Eq.trans (hg1.cell_far ⟨W.heap.size + 1, 2, none⟩ (by simp <;> omega) (by simp [Value.ownBlock] <;> omega)) (by go_simp); have y3 : V1.cell? ⟨W.heap.size + 1, 3, none⟩ = some (.int .u64 nm) := Eq.trans (hg1.cell_far ⟨W.heap.size + 1, 3, none⟩ (by simp <;> omega) (by simp [Value.ownBlock] <;> omega)) (by go_simp))
        | (refine step_owned (by rfl) _ _ 55 (by rfl) W.heap.size 34 ie _ 4 40 Try.underlying55 hie ez0 ez1 ez2 rfl (by decide) (by rfl) (by rfl) (own_drew (row_empty (w := W) (by simp) (by simp <;> omega) (by unfold maxLen; omega))) (by simp) (RdS.block HR.out.row (S := fun _ => False) (by repeat (first | with_reducible exact Chg.refl _ _ | with_reducible assumption | with_reducible refine Chg.drewN ?_ _ | with_reducible refine Chg.drew ?_ | with_reducible refine Chg.alloc ?_ _ | with_reducible refine Chg.setCell ?_ (by first | (left; rfl) | (left; left; rfl) | (left; right; rfl) | (left; right; left; rfl) | (left; right; right; rfl) | (right; exact Nat.le_refl _) | (right; simp; done) | (right; omega) | (right; simp at *; omega) | (simp at *; omega)) _ | with_reducible refine Chg.trans ?_ (by with_reducible assumption) (by intro i hi hT; first | exact hT | exact False.elim hT | omega | (simp at *; omega)))) (fun _ _ h => h)) (by unfold maxLen; omega) (by omega) (by simp <;> omega) ?_; intro X1 D1 V1 ho1 hg1 hone1; rw [Nat.zero_add, List.nil_append] at ho1; rw [List.nil_append] at hone1; have s1 := hg1.size; simp at s1; have j1 : Chg (fun _ => False) W V1 := Chg.grown (by repeat (first | with_reducible exact Chg.refl _ _ | with_reducible assumption | with_reducible refine Chg.drewN ?_ _ | with_reducible refine Chg.drew ?_ | with_reducible refine Chg.alloc ?_ _ | with_reducible refine Chg.setCell ?_ (by first | (left; rfl) | (left; left; rfl) | (left; right; rfl) | (left; right; left; rfl) | (left; right; right; rfl) | (right; exact Nat.le_refl _) | (right; simp; done) | (right; omega) | (right; simp at *; omega) | (simp at *; omega)) _ | with_reducible refine Chg.trans ?_ (by with_reducible assumption) (by intro i hi hT; first | exact hT | exact False.elim hT | omega | (simp at *; omega)))) hg1 (fun k hk => .inr (by simp [Value.ownBlock] at hk; omega)); have z0 := (j1.cell lt id 0).trans t0; have z1 := (j1.cell lt id 1).trans t1; have z2 := (j1.cell lt id 2).trans t2; have z3 := (j1.cell lt id 3).trans t3))
                all_goals go_wp2
                all_goals go_meet
                all_goals
                  have e : flatT L ++ flatT [(x, n, s, nm)] = flatT (L ++ [(x, n, s, nm)]) := by rw [flatT_append]
                  have el : L.length + 1 = (L ++ [(x, n, s, nm)]).length := by simp
                  rw [e, el] at ho2
                  have hth := (HR.out.still j2).things (RdS.row ho2 (flatT_one _)) (fun g hg => by
                    obtain ⟨q1, q2⟩ := own_below ho2 hg
                    exact ⟨HR2.out.low q1, q2⟩)
                  have hlab : Lab W lr2 (relabT lr2 (.slice X2 (L ++ [(x, n, s, nm)]).length D2)) (V2.setCell ⟨b, 2, none⟩ (.slice X2 (L ++ [(x, n, s, nm)]).length D2)) := by
                    refine ⟨fun k hk => ?_, (j2.mono fun _ _ h => h.elim).setCell (p := ⟨b, 2, none⟩) (.inl (by show 1 ≤ lr2 b ∧ lr2 b ≤ 5; rw [HR.out.l1]; omega)) _⟩
                    unfold relabT
                    rw [if_neg fun e => by have := (own_below ho2 e).1; omega]
                  rw [← el] at hth hlab
                  exact ⟨X2, D2, _, hth, hlab⟩
              case rest =>
                obtain ⟨a4, c4, lr4, hRn, hLn⟩ := hcut.out
                have HRn := Lib.hid hRn
                have HLn := Lib.hid (HLb.out.trans hLn)
                have b0 := (hLn.2.cell lt (by have := ZB2.out; omega) _).trans t0
                have b1 := (hLn.2.cell lt (by have := ZB2.out; omega) _).trans t1
                have d3 := hRn.c3
                have zb4 : lr4 w.heap.size = 0 := by rw [hLn.1 _ lt]; exact ZB2.out
                have hlp : (pts T2).length + (pts K2).length ≤ 998 := by
                  rw [pts_len, pts_len]
                  have h9 := HFIT.out.2.2.2.2.length_eq
                  simp only [List.length_append] at h9 hN
                  omega
                have lxb := cell_lt b0
                have ldd := cell_lt d3
                clear hcut hRn hLn t0 t1 t2 t3 m2 mf lrb lt
                go_upto_region 19 with fail
                (have hN : wc.heap.size ≤ (World.heap wc).size := by first | assumption | exact Nat.le_refl _ | (simp; done) | omega | (simp; omega) | (simp at *; omega)); (have kr := fun d os b o (h : b < wc.heap.size) => (below_regrown wc d os).cell (p := ⟨b, o, none⟩) (Nat.lt_of_lt_of_le h hN)); (refine wp_region_below_tail 8 (by kernel_rfl) (by kernel_rfl) ?_); (simp only [List.take_succ_cons, List.take_zero, List.drop_succ_cons, List.drop_zero]); (repeat (first | go_big_quiet_step ((first | fail)) | quiet_step ((first | fail)))); (refine wpQuiet_nil ?_); (intro wF hw9); (obtain ⟨⟨dq, osq⟩, hw9⟩ := hw9); (have g9 := below_regrown wc dq osq); (rw [← hw9] at g9); (have gF : Below (wc.heap.size) _ wF := g9.mono hN); (have zF : wc.heap.size ≤ wF.heap.size := Nat.le_trans hN g9.size); (have cF := fun b o h => gF.cell (p := ⟨b, o, none⟩) h); (have fF := fun b o h => gF.frozen (p := ⟨b, o, none⟩) h); (clear hw9 kr hN g9)
                have gF' : Chg (fun _ => False) wc wF := ⟨gF.os, gF.tape, gF.output, zF, fun k hk _ => gF.block k hk⟩
                have HFR := Lib.hid (HRn.out.still gF')
                have HLF := Lib.hid (HLn.out.trans (Lab.still gF'))
                clear gF gF' zF cF fF d3 ldd
                go_wp2_with fail
                refine (radd_rf wF _ lb (room - room / 5) (pts T2) (pts K2) x n HFR.out.ls hlp).mono ?_; rintro e w9 ⟨rfl, hP⟩
                have hadd : addC (pts T2) (pts K2) x n = 0 := by
                  have h1 := HBD.out.1
                  have h2 := getX_has (T2 ++ K2) x
                  rw [HX8.out, pts_append, hasK_append] at h2
                  rw [addC, if_neg (by omega), ← h2]; rfl
                have haddT : addT (pts T2) (pts K2) x n = pts (T2 ++ [(x, n, s, nm)]) := by rw [addT, if_pos hadd, pts_append]; rfl
                rw [haddT] at hP
                obtain ⟨q1, q2⟩ := HFR.out.list hP
                have HQ1 := Lib.hid q1
                have HLX : Hid (Lab w5 lr (relab lr4 wF w9 3) w9) := HLF.out.trans (Lab.re (i := 3) (by omega) q2)
                rw [hadd]
                clear hP q1 q2 hadd haddT
                go_wp2
                go_ret2
                obtain ⟨s0, _, _, _⟩ := offer_inv (x := x) (nm := nm) HI8.out HFIT.out.1 HFIT.out.2.1 HBD.out.1 HBD.out.2 hx hnm HX8.out
                have hY : offB room share T K ns (x, n, s, nm) hs = true := offB_yes ⟨HBD.out.1.1, HBD.out.1.2, HBD.out.2⟩ HHAS.out (by rw [← HZE.out]; exact HRB.out) (by rw [← HZE.out]; exact HALL.out)
                refine .inr ⟨hY, a3, c3, relab lr4 wF w9 3, ?_⟩
                rw [← HZE.out, ← HD2.out]
                refine ⟨rfl, own_mono (own_chg HO5.out HLX.out.2 fun g _ _ hg e => by have := (HL5.out g hg).2.2; omega) G1.out.size, fun q hq => by rw [HLX.out.1 q (HL5.out q hq).2.1]; exact (HL5.out q hq).2.2, ⟨lb, sb, a4, c4, _, HQ1.out, ?_, s0⟩, (Lab.still G5.out).trans HLX.out⟩
                have p1 : (T2 ++ [(x, n, s, nm)] ++ K2).Perm ((x, n, s, nm) :: (T2 ++ K2)) := by rw [List.append_assoc]; exact List.perm_middle
                exact (List.perm_append_singleton _ _).trans ((HP8.out.cons _).trans p1.symm)
end Go.Proofs.Ytdoepjokaekckaa
