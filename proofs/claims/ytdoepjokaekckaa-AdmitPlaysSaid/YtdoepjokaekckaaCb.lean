/- The reference's call Goes, walked. (Printed by gengoes.py.) -/
import Derived.Test.YtdoepjokaekckaaDj
namespace Go.Proofs.Ytdoepjokaekckaa
set_option linter.unusedVariables false
open Go.RowKit

/-- What is known of a pass's state in memory, behind so many things. -/
structure QsM (w2 wr : World) (p : Qs) (k : Nat) (a : Option Addr) (c : Nat) : Prop where
  row : wr.ownsRow w2.heap.size 2 1 (.slice a p.G.length c) p.G.length (nums (keyT p.G))
  chg : Chg (fun _ => False) w2 wr
  bd : -(1099511627776 * k) ≤ p.own ∧ p.own ≤ 1125899906842624 ∧ -(1099511627776 * k) ≤ p.al ∧ p.al ≤ 1125899906842624 ∧ p.G.length ≤ k
theorem QsM.mono {w2 wr : World} {p : Qs} {k k' : Nat} {a : Option Addr} {c : Nat} (h : QsM w2 wr p k a c) (hk : k ≤ k') : QsM w2 wr p k' a c := ⟨h.row, h.chg, by have := h.bd; omega⟩
theorem QsM.still {w2 wr w3 : World} {p : Qs} {k : Nat} {a : Option Addr} {c : Nat} (h : QsM w2 wr p k a c) (g : Chg (fun _ => False) wr w3) : QsM w2 w3 p k a c := ⟨own_chg h.row g fun _ _ _ _ => id, h.chg.trans g fun _ _ h => h, h.bd⟩
theorem keyT_len (X : List Tg) : (keyT X).length = X.length := by simp [keyT]
theorem QsM.isH {w2 wr : World} {p : Qs} {k : Nat} {a : Option Addr} {c : Nat} (h : QsM w2 wr p k a c) : IsH wr a (keyT p.G) := by
  have : RdS wr 1 a p.G.length c (nums (keyT p.G)) := RdS.row h.row (nums_one _)
  have h2 : IsK wr a c (keyT p.G) := by
    show RdS wr 1 a (keyT p.G).length c (nums (keyT p.G))
    rw [keyT_len]; exact this
  exact h2.held
def GoesPost (w : World) (r : Qs) (ok : Bool) (e : Ending) (w' : World) : Prop := ∃ a c, e = .returned (.tuple #[.slice a r.G.length c, .bool ok]) ∧ w'.ownsRow w.heap.size 2 1 (.slice a r.G.length c) r.G.length (nums (keyT r.G)) ∧ Chg (fun _ => False) w w'
set_option maxHeartbeats 16000000 in
set_option maxRecDepth 4000 in
theorem rgoes_any (w : World) (lr : Nat → Nat) (b : Nat) (room share : Int) (T K : List Tg) (ns : List Int) (x n : Int) (s : ByteArray) (nm : Int) (a : Option Addr) (c : Nat) (hs : List Int) (h : Rd w lr b room share T K ns) (hN : (T ++ K).length ≤ 990) (hn : 1 ≤ n ∧ n ≤ 1099511627776) (hh : IsH w a hs) (hl : hs.length ≤ 9223372036854775807) :
    Calls Try.prog 33 #[.pointer (some ⟨b, 0, none⟩), tv (x, n, s, nm), .slice a hs.length c] w (GoesPost w (stQ room share n s hs (T ++ K) 2) (decide ((stQ room share n s hs (T ++ K) 2).own + n ≤ share) && decide ((stQ room share n s hs (T ++ K) 2).al + n ≤ room))) := by
  show Calls _ _ #[_, .agg #[.int .i64 x, .int .i64 n, .string s, .int .u64 nm], _] _ _
  obtain ⟨ie, hie, ez0, ez1, ez2⟩ := info_parts infoI64
  have HI : Hid (DInv room share T K) := h.inv
  obtain ⟨X, hX⟩ : ∃ X, X = T ++ K := ⟨_, rfl⟩
  have HD := Lib.hid h
  have hlp : (pts T).length + (pts K).length ≤ 998 := by rw [pts_len, pts_len]; rw [List.length_append] at hN; omega
  rw [← hX] at hN ⊢
  have HX := Lib.hid hX
  have HH := Lib.hid hh
  obtain ⟨z, hz⟩ : ∃ z, z = stQ room share n s hs X 2 := ⟨_, rfl⟩
  rw [← hz]
  have HZ := Lib.hid hz
  clear h hX hh hz
  go_enter Try.func33, Try.ntmps33
  go_upto_region 1 with fail
  refine name_region ?_; intro W hW
  have gW : Chg (fun _ => False) w W := by subst hW; exact (by repeat (first | with_reducible exact Chg.refl _ _ | with_reducible assumption | with_reducible refine Chg.drewN ?_ _ | with_reducible refine Chg.drew ?_ | with_reducible refine Chg.alloc ?_ _ | with_reducible refine Chg.setCell ?_ (by first | (left; rfl) | (left; left; rfl) | (left; right; rfl) | (left; right; left; rfl) | (left; right; right; rfl) | (right; exact Nat.le_refl _) | (right; simp; done) | (right; omega) | (right; simp at *; omega) | (simp at *; omega)) _ | with_reducible refine Chg.trans ?_ (by with_reducible assumption) (by intro i hi hT; first | exact hT | exact False.elim hT | omega | (simp at *; omega))))
  have b1 : W.cell? ⟨w.heap.size, 1, none⟩ = some (.int .i64 n) := by subst hW; go_simp
  have b2 : W.cell? ⟨w.heap.size, 2, none⟩ = some (.string s) := by subst hW; go_simp
  clear hW
  have lW := cell_lt b1
  have HDW := Lib.hid (HD.out.still gW)
  have GW := Lib.hid gW
  clear gW
  go_wp2_with fail
  refine (rsum_any W lr b room share T K ns s HDW.out).mono ?_; rintro e w1 ⟨rfl, g1⟩
  rw [← HX.out]
  obtain ⟨own0, hown⟩ : ∃ u, u = ofX X s.data.toList := ⟨_, rfl⟩
  obtain ⟨al0, hal⟩ : ∃ u, u = sumX X := ⟨_, rfl⟩
  rw [← hown, ← hal]
  have HV := Lib.hid (And.intro hown hal)
  have HB : Hid (w1.cell? ⟨w.heap.size, 1, none⟩ = some (.int .i64 n) ∧ w1.cell? ⟨w.heap.size, 2, none⟩ = some (.string s)) := ⟨(g1.cell lW id _).trans b1, (g1.cell lW id _).trans b2⟩
  have HD1 := Lib.hid (HDW.out.still g1)
  have G1 := Lib.hid (GW.out.trans g1 fun _ _ h => h)
  have l1 := cell_lt HB.out.1
  have HBD : Hid (0 ≤ own0 ∧ own0 ≤ 1125899906842624 ∧ 0 ≤ al0 ∧ al0 ≤ 1125899906842624 ∧ share ≤ 1125899906842624 ∧ room ≤ 1125899906842624) := by
    have h1 := HI.out.all
    have h2 := HI.out.own s.data.toList
    have h3 := HI.out.bd
    have h4 := sumX_nonneg (X := T ++ K) fun u hu => (HI.out.each u hu).1.1
    have h5 := ofX_nonneg (X := T ++ K) (fun u hu => (HI.out.each u hu).1.1) s.data.toList
    rw [← HX.out] at h1 h2 h4 h5
    rw [← HV.out.1] at h2 h5
    rw [← HV.out.2] at h1 h4
    exact ⟨h5, by omega, h4, by omega, by omega, by omega⟩
  have HQ0 : Hid (stQ room share n s hs X 0 = ⟨own0, al0, []⟩) := by show _ = _; rw [HV.out.1, HV.out.2]; rfl
  obtain ⟨lb, sb, a0, c0, L, h1, hp, hi⟩ := HD1.out
  have HR := Lib.hid h1
  have HPL := Lib.hid hp
  clear b1 b2 g1 hown hal h1 hp hi
  go_wp2_with fail
  obtain ⟨W2, hW2⟩ : ∃ W2, W2 = w1.alloc (.cells #[.bool false, .bool true] 4) := ⟨_, rfl⟩
  have g2 : Chg (fun _ => False) w1 W2 := by subst hW2; exact (by repeat (first | with_reducible exact Chg.refl _ _ | with_reducible assumption | with_reducible refine Chg.drewN ?_ _ | with_reducible refine Chg.drew ?_ | with_reducible refine Chg.alloc ?_ _ | with_reducible refine Chg.setCell ?_ (by first | (left; rfl) | (left; left; rfl) | (left; right; rfl) | (left; right; left; rfl) | (left; right; right; rfl) | (right; exact Nat.le_refl _) | (right; simp; done) | (right; omega) | (right; simp at *; omega) | (simp at *; omega)) _ | with_reducible refine Chg.trans ?_ (by with_reducible assumption) (by intro i hi hT; first | exact hT | exact False.elim hT | omega | (simp at *; omega))))
  have v0 : W2.cell? ⟨w1.heap.size, 0, none⟩ = some (.bool false) := by subst hW2; go_simp
  have v1 : W2.cell? ⟨w1.heap.size, 1, none⟩ = some (.bool true) := by subst hW2; go_simp
  rw [← hW2]
  have HR2 := Lib.hid (HR.out.still g2)
  have HH2 := Lib.hid (HH.out.keep (G1.out.trans g2 fun _ _ h => h))
  have HB2 : Hid (W2.cell? ⟨w.heap.size, 1, none⟩ = some (.int .i64 n) ∧ W2.cell? ⟨w.heap.size, 2, none⟩ = some (.string s)) := ⟨(g2.cell l1 id _).trans HB.out.1, (g2.cell l1 id _).trans HB.out.2⟩
  have G2 := Lib.hid (G1.out.trans g2 fun _ _ h => h)
  have HV2 := Lib.hid (And.intro v0 v1)
  have l2 := cell_lt HB2.out.1
  have lq := cell_lt v0
  clear hW2 g2 v0 v1
  go_loopw [8, 9, 10, 26] (fun o8 o9 o10 i wr => ∃ (k0 : Nat) (p : Qs) (a3 : Option Addr) (c3 : Nat), k0 ≤ 2 ∧ o8 = .int .i64 p.al ∧ o9 = .int .i64 p.own ∧ o10 = .slice a3 p.G.length c3 ∧ i = .int .i64 (↑k0 : Int) ∧ Hid (p = stQ room share n s hs X k0) ∧ Hid (QsM W2 wr p (990 * k0) a3 c3)) (fun _ _ _ i _ => 2 - (intOf i).toNat)
  case atStart => exact ⟨0, ⟨own0, al0, []⟩, none, 0, by omega, rfl, rfl, rfl, rfl, HQ0.out.symm, World.ownsRow_nil _ _ _ _, Chg.refl _ _, by have := HBD.out; simp; omega⟩
  case round =>
    obtain ⟨k0, p0, a3, c3, hk0, rfl, rfl, rfl, rfl, HP0, HM0⟩ := hrel
    obtain ⟨wo, hwo⟩ : ∃ wo, wo = wr := ⟨_, rfl⟩
    subst hwo
    have hthree : k0 = 0 ∨ k0 = 1 ∨ k0 = 2 := by omega
    rcases hthree with rfl | rfl | rfl
    · have v := (HM0.out.chg.cell lq id 0).trans HV2.out.1
      have lo := HM0.out.chg.size
      obtain ⟨r, hr⟩ : ∃ r, r = stQ room share n s hs X 1 := ⟨_, rfl⟩
      have HRR : Hid (qs false room share n s hs X p0 = r) := by show _ = _; rw [hr, HP0.out]; rfl
      have HRN := Lib.hid hr
      have hl0 := HR2.out
      have d3 := (HM0.out.chg.cell (cell_lt hl0.c3) id _).trans hl0.c3
      clear hr hl0
      go_wp2_with fail
      refine (rorder_rf wo _ lb (room - room / 5) (pts T) (pts K) (HR2.out.still HM0.out.chg).ls hlp).mono ?_; rintro e w3 ⟨a4, c4, rfl, ho, g3⟩
      obtain ⟨ks, hks⟩ : ∃ ks, ks = keysP (pts T ++ pts K) := ⟨_, rfl⟩
      rw [← hks] at ho ⊢
      have HI1 : Hid (IsK w3 a4 c4 ks) := RdS.row ho (nums_one _)
      have HKS : Hid (ks = X.map (·.1)) := by show _ = _; rw [hks, ← pts_append, ← HX.out, keysX]
      have hkl : ks.length = X.length := by rw [HKS.out]; simp
      have HKL := Lib.hid hkl
      have HKB0 : Hid (∀ g, (Value.slice a4 ks.length c4).ownBlock = some g → wo.heap.size ≤ g ∧ g < w3.heap.size) := fun g hg => own_below ho hg
      have HM3 := Lib.hid (HM0.out.still g3)
      have l3 := g3.size
      clear ho g3 hks d3 v
      go_wp2_with fail
      have HKB : Hid (∀ g, (Value.slice a4 ks.length c4).ownBlock = some g → wo.heap.size ≤ g ∧ g < w3.heap.size) := HKB0.out
      have HNE0 : Hid (∀ g, (Value.slice a3 p0.G.length c3).ownBlock = some g → (Value.slice a4 ks.length c4).ownBlock ≠ some g) := fun g hg e => by
        have q1 := own_below HM0.out.row hg
        have q2 := HKB.out g e
        omega
      go_loopw [8, 9, 10, 36] (fun o8 o9 o10 i wr => ∃ (k : Nat) (p : Qs) (a3 : Option Addr) (c3 : Nat), k ≤ ks.length ∧ o8 = .int .i64 p.al ∧ o9 = .int .i64 p.own ∧ o10 = .slice a3 p.G.length c3 ∧ i = .int .i64 (↑k : Int) ∧ Hid (qs false room share n s hs (X.drop k) p = r) ∧ Hid (QsM W2 wr p (0 + k) a3 c3) ∧ Hid (IsK wr a4 c4 ks) ∧ Hid (∀ g, (Value.slice a3 p.G.length c3).ownBlock = some g → (Value.slice a4 ks.length c4).ownBlock ≠ some g) ∧ w3.heap.size ≤ wr.heap.size) (fun _ _ _ i _ => ks.length - (intOf i).toNat)
      case atStart => exact ⟨0, p0, a3, c3, by omega, rfl, rfl, rfl, rfl, HRR.out, HM3.out.mono (by omega), HI1.out, HNE0.out, Nat.le_refl _⟩
      case round =>
        obtain ⟨k, p, a5, c5, hk, rfl, rfl, rfl, rfl, HQ, HM, HIK, HNE, hwl⟩ := hrel
        obtain ⟨wp, hwp⟩ : ∃ wp, wp = wr := ⟨_, rfl⟩
        subst hwp
        have hpb := HM.out.bd
        have HBD' := HBD.out
        by_cases hkt : k < ks.length
        · obtain ⟨⟨y, m, q, qn⟩, ht⟩ : ∃ t, X[k]? = some t := ⟨_, List.getElem?_eq_getElem (by have := HKL.out; omega)⟩
          have hx : ks[k]? = some y := by rw [HKS.out, List.getElem?_map, ht]; rfl
          have HDR : Hid (X.drop k = (y, m, q, qn) :: X.drop (k + 1)) := drop_at ht
          have hem := HI.out.each (y, m, q, qn) (by rw [← HX.out]; exact List.mem_of_getElem? ht)
          have hmb : 1 ≤ m ∧ m ≤ 1099511627776 := hem.1
          have HGX : Hid (getX L y = some (y, m, q, qn)) := by
            show _ = _
            rw [get_perm HPL.out HI.out]
            exact (getX_mem (t := (y, m, q, qn)) HI.out.nodup).2 (by rw [← HX.out]; exact List.mem_of_getElem? ht)
          obtain ⟨g4, o4, rfl, k0⟩ := HIK.out.at hx
          have b1 := (HM.out.chg.cell l2 id _).trans HB2.out.1
          have b2 := (HM.out.chg.cell l2 id _).trans HB2.out.2
          have cr := (HM.out.chg.cell (cell_lt HR2.out.c0) id _).trans HR2.out.c0
          have cs := (HM.out.chg.cell (cell_lt HR2.out.c0) id _).trans HR2.out.c1
          have e1 : IntKind.i64.wrap (p.own + n) = p.own + n := IntWalk.i64_in _ (by omega)
          have e2 : IntKind.i64.wrap (p.al + n) = p.al + n := IntWalk.i64_in _ (by omega)
          clear ht hx hem
          go_upto_region 9 with fail
          by_cases hB : p.own + n ≤ share
          · have qB := decP hB
            have HST : Hid (stopQ false room share n p = true) := by show _ = _; simp [stopQ]; exact hB
            clear hB
            go_quiet (fail)
            clear qB b1 b2 cr cs k0
            go_wp2
            go_roundw
            case rel =>
              have e := HQ.out
              rw [HDR.out, qs_stop HST.out] at e
              subst e
              exact ⟨1, p, a5, c5, by omega, rfl, rfl, rfl, by go_num, HRN.out, (HM.out.still (show Chg (fun _ => False) wp _ from (by repeat (first | with_reducible exact Chg.refl _ _ | with_reducible assumption | with_reducible refine Chg.drewN ?_ _ | with_reducible refine Chg.drew ?_ | with_reducible refine Chg.alloc ?_ _ | with_reducible refine Chg.setCell ?_ (by first | (left; rfl) | (left; left; rfl) | (left; right; rfl) | (left; right; left; rfl) | (left; right; right; rfl) | (right; exact Nat.le_refl _) | (right; simp; done) | (right; omega) | (right; simp at *; omega) | (simp at *; omega)) _ | with_reducible refine Chg.trans ?_ (by with_reducible assumption) (by intro i hi hT; first | exact hT | exact False.elim hT | omega | (simp at *; omega)))))).mono (by have := HKL.out; omega)⟩
            case measure => simp [intOf]
          · have qB := decN hB
            have HST : Hid (stopQ false room share n p = false) := by show _ = _; simp [stopQ]; omega
            clear hB
            go_quiet (fail)
            clear b1 b2 cr cs k0 qB
            go_upto_region 10 with fail
            refine name_region ?_; intro W4 hW4
            have gW4 : Chg (fun _ => False) wp W4 := by subst hW4; exact (by repeat (first | with_reducible exact Chg.refl _ _ | with_reducible assumption | with_reducible refine Chg.drewN ?_ _ | with_reducible refine Chg.drew ?_ | with_reducible refine Chg.alloc ?_ _ | with_reducible refine Chg.setCell ?_ (by first | (left; rfl) | (left; left; rfl) | (left; right; rfl) | (left; right; left; rfl) | (left; right; right; rfl) | (right; exact Nat.le_refl _) | (right; simp; done) | (right; omega) | (right; simp at *; omega) | (simp at *; omega)) _ | with_reducible refine Chg.trans ?_ (by with_reducible assumption) (by intro i hi hT; first | exact hT | exact False.elim hT | omega | (simp at *; omega))))
            have HM4 := Lib.hid (HM.out.still gW4)
            have HIK4 := Lib.hid (HIK.out.keep gW4 fun _ _ => id)
            have l4 := gW4.size
            clear hW4 gW4 e1 e2
            go_wp2_with fail
            refine (rfind_any W4 lr b lb sb a0 c0 room share L T K ns y (HR2.out.still HM4.out.chg)).mono ?_; rintro e wf ⟨rfl, gf⟩
            rw [HGX.out]
            simp only [tv, Option.getD_some, Option.isSome_some]
            have HMF := Lib.hid (HM4.out.still gf)
            have HIKF := Lib.hid (HIK4.out.keep gf fun _ _ => id)
            have lf := gf.size
            clear gf
            go_upto_region 11 with fail
            refine name_region ?_; intro W5 hW5
            have gW5 : Chg (fun _ => False) wf W5 := by subst hW5; exact (by repeat (first | with_reducible exact Chg.refl _ _ | with_reducible assumption | with_reducible refine Chg.drewN ?_ _ | with_reducible refine Chg.drew ?_ | with_reducible refine Chg.alloc ?_ _ | with_reducible refine Chg.setCell ?_ (by first | (left; rfl) | (left; left; rfl) | (left; right; rfl) | (left; right; left; rfl) | (left; right; right; rfl) | (right; exact Nat.le_refl _) | (right; simp; done) | (right; omega) | (right; simp at *; omega) | (simp at *; omega)) _ | with_reducible refine Chg.trans ?_ (by with_reducible assumption) (by intro i hi hT; first | exact hT | exact False.elim hT | omega | (simp at *; omega))))
            have f1 : W5.cell? ⟨wf.heap.size, 1, none⟩ = some (.int .i64 m) := by subst hW5; go_simp
            have f2 : W5.cell? ⟨wf.heap.size, 2, none⟩ = some (.string q) := by subst hW5; go_simp
            have HM5 := Lib.hid (HMF.out.still gW5)
            have HIK5 := Lib.hid (HIKF.out.keep gW5 fun _ _ => id)
            have l5 := gW5.size
            have b2 := (HM5.out.chg.cell l2 id _).trans HB2.out.2
            have HF := Lib.hid (And.intro f1 f2)
            have hgl : p.G.length ≤ 100000 := by have := HKL.out; omega
            clear hW5 gW5
            go_wp2_with fail
            refine (rin_any W5 a c hs y (HH2.out.keep HM5.out.chg) hl).mono ?_; rintro e w' ⟨rfl, rfl⟩
            by_cases hin : y ∈ hs
            · rw [decP hin]
              have HSK : Hid (skipQ false s hs p (y, m, q, qn) = true) := by show _ = _; simp [skipQ, hin]
              clear hin f1 f2 b2
              go_wp2
              go_roundw
              case rel => exact ⟨k + 1, p, a5, c5, by omega, rfl, rfl, rfl, by go_num, (by show _ = _; rw [← HQ.out, HDR.out, qs_skip HST.out HSK.out]), HM5.out.mono (by omega), HIK5.out, HNE.out, by omega⟩
              case measure => simp [intOf]; omega
            · rw [decN hin]
              have HHI := Lib.hid hin
              clear hin
              go_wp2_with fail
              have hri := rin_any W5 a5 c5 (keyT p.G) y HM5.out.isH (by rw [keyT_len]; omega)
              rw [keyT_len] at hri
              refine hri.mono ?_; rintro e w' ⟨rfl, rfl⟩
              by_cases hio : y ∈ keyT p.G
              · rw [decP hio]
                have HSK : Hid (skipQ false s hs p (y, m, q, qn) = true) := by show _ = _; simp [skipQ, hio]
                clear hio hri f1 f2 b2
                go_wp2
                go_roundw
                case rel => exact ⟨k + 1, p, a5, c5, by omega, rfl, rfl, rfl, by go_num, (by show _ = _; rw [← HQ.out, HDR.out, qs_skip HST.out HSK.out]), HM5.out.mono (by omega), HIK5.out, HNE.out, by omega⟩
                case measure => simp [intOf]; omega
              · rw [decN hio]
                have HHO := Lib.hid hio
                clear hio hri
                have e3 : IntKind.i64.wrap (p.al - m) = p.al - m := IntWalk.i64_in _ (by omega)
                have e4 : IntKind.i64.wrap (p.own - m) = p.own - m := IntWalk.i64_in _ (by omega)
                by_cases hqs : q = s
                · have HSK : Hid (skipQ false s hs p (y, m, q, qn) = false) := by show _ = _; simp [skipQ, HHI.out, HHO.out, hqs]
                  have hq1 : q.toList = s.toList := by rw [hqs]
                  have hq2 : (q.toList == s.toList) = true := by simp [hq1]
                  have HTO : Hid (takeQ s p (y, m, q, qn) = ⟨p.own - m, p.al - m, p.G ++ [(y, m, q, qn)]⟩) := by show _ = _; simp [takeQ, hqs]
                  clear hqs
                  go_wp2_with (at_builtin; go_loud (refine list_owned_at rfl _ _ 35 rfl W2.heap.size 2 ie _ 1 8 Try.underlying35 hie ez0 ez1 ez2 rfl (by decide) rfl rfl (own_chg HM5.out.row ((Chg.refl (fun _ => False) W5).alloc _) fun _ _ _ _ => id) (nums_one _) (rd_one (u := .int .i64 y) (by go_simp) rfl) (by decide) (by unfold maxLen; omega) (by omega) (by simp; omega) ?_; intro a6 c6 w9 ho9 hg9 hq9; have HO9 := Lib.hid ho9; have HG9 : Hid (Chg (fun i => (Value.slice a5 p.G.length c5).ownBlock = some i) W5 w9) := (((Chg.refl (fun i => (Value.slice a5 p.G.length c5).ownBlock = some i) W5).alloc _).trans (grown_chg (S := fun i => (Value.slice a5 p.G.length c5).ownBlock = some i) hg9 (fun q hq => hq)) fun _ _ h => h); have HQ9 : Hid (∀ q, (Value.slice a6 (p.G.length + 1) c6).ownBlock = some q → (Value.slice a5 p.G.length c5).ownBlock = some q ∨ W5.heap.size ≤ q) := (fun q hq => (hq9 q hq).elim Or.inl (fun e => Or.inr (by rw [e]; simp))); replace f1 := (HG9.out.cell (cell_lt f1) (fun e => Nat.lt_irrefl _ (own_below HMF.out.row e).2) _).trans f1; replace f2 := (HG9.out.cell (cell_lt f2) (fun e => Nat.lt_irrefl _ (own_below HMF.out.row e).2) _).trans f2; replace b2 := (HG9.out.cell (cell_lt b2) (fun e => Nat.lt_irrefl _ (Nat.lt_of_lt_of_le l2 (own_below HMF.out.row e).1)) _).trans b2; clear ho9 hg9 hq9))
                  go_roundw
                  case rel =>
                    refine ⟨k + 1, takeQ s p (y, m, q, qn), a6, c6, by omega, by rw [HTO.out], by rw [HTO.out], by rw [HTO.out]; simp, by go_num, (by show _ = _; rw [← HQ.out, HDR.out, qs_take HST.out HSK.out]), ⟨?_, ?_, ?_⟩, HIK5.out.keep HG9.out fun g hg e => HNE.out g e hg, ?_, by have := HG9.out.size; omega⟩
                    · rw [HTO.out]; show w9.ownsRow _ _ _ _ _ _; rw [nums_keyT_snoc, List.length_append]; exact HO9.out
                    · exact HM5.out.chg.trans HG9.out fun i hi h => by have := own_below HM5.out.row h; omega
                    · rw [HTO.out]; simp only [List.length_append, List.length_cons, List.length_nil]; omega
                    · rw [HTO.out]
                      intro g hg e
                      rw [show (p.G ++ [(y, m, q, qn)]).length = p.G.length + 1 by simp] at hg
                      rcases HQ9.out g hg with h | h
                      · exact HNE.out g h e
                      · have := HKB.out g e; omega
                  case measure => simp [intOf]; omega
                · have hq1 : ¬ q.toList = s.toList := fun h => hqs (bytes_ext (by rwa [ByteArray.toList_eq, ByteArray.toList_eq] at h))
                  have hq2 : (q.toList == s.toList) = false := by simpa using hq1
                  have HSK : Hid (skipQ false s hs p (y, m, q, qn) = true) := by show _ = _; simp [skipQ, hqs]
                  clear hqs e3 e4
                  go_wp2
                  go_roundw
                  case rel => exact ⟨k + 1, p, a5, c5, by omega, rfl, rfl, rfl, by go_num, (by show _ = _; rw [← HQ.out, HDR.out, qs_skip HST.out HSK.out]), HM5.out.mono (by omega), HIK5.out, HNE.out, by omega⟩
                  case measure => simp [intOf]; omega
        · obtain rfl : k = ks.length := by omega
          go_wp2
          go_roundw
          case rel =>
            have e := HQ.out
            rw [HKL.out, List.drop_length] at e
            have e : p = r := e
            subst e
            exact ⟨1, p, a5, c5, by omega, rfl, rfl, rfl, by go_num, HRN.out, HM.out.mono (by have := HKL.out; omega)⟩
          case measure => simp [intOf]
    · have v := (HM0.out.chg.cell lq id 1).trans HV2.out.2
      have lo := HM0.out.chg.size
      obtain ⟨r, hr⟩ : ∃ r, r = stQ room share n s hs X 2 := ⟨_, rfl⟩
      have HRR : Hid (qs true room share n s hs X p0 = r) := by show _ = _; rw [hr, HP0.out]; rfl
      have HRN := Lib.hid hr
      have hl0 := HR2.out
      have d3 := (HM0.out.chg.cell (cell_lt hl0.c3) id _).trans hl0.c3
      clear hr hl0
      go_wp2_with fail
      refine (rorder_rf wo _ lb (room - room / 5) (pts T) (pts K) (HR2.out.still HM0.out.chg).ls hlp).mono ?_; rintro e w3 ⟨a4, c4, rfl, ho, g3⟩
      obtain ⟨ks, hks⟩ : ∃ ks, ks = keysP (pts T ++ pts K) := ⟨_, rfl⟩
      rw [← hks] at ho ⊢
      have HI1 : Hid (IsK w3 a4 c4 ks) := RdS.row ho (nums_one _)
      have HKS : Hid (ks = X.map (·.1)) := by show _ = _; rw [hks, ← pts_append, ← HX.out, keysX]
      have hkl : ks.length = X.length := by rw [HKS.out]; simp
      have HKL := Lib.hid hkl
      have HKB0 : Hid (∀ g, (Value.slice a4 ks.length c4).ownBlock = some g → wo.heap.size ≤ g ∧ g < w3.heap.size) := fun g hg => own_below ho hg
      have HM3 := Lib.hid (HM0.out.still g3)
      have l3 := g3.size
      clear ho g3 hks d3 v
      go_wp2_with fail
      have HKB : Hid (∀ g, (Value.slice a4 ks.length c4).ownBlock = some g → wo.heap.size ≤ g ∧ g < w3.heap.size) := HKB0.out
      have HNE0 : Hid (∀ g, (Value.slice a3 p0.G.length c3).ownBlock = some g → (Value.slice a4 ks.length c4).ownBlock ≠ some g) := fun g hg e => by
        have q1 := own_below HM0.out.row hg
        have q2 := HKB.out g e
        omega
      go_loopw [8, 9, 10, 36] (fun o8 o9 o10 i wr => ∃ (k : Nat) (p : Qs) (a3 : Option Addr) (c3 : Nat), k ≤ ks.length ∧ o8 = .int .i64 p.al ∧ o9 = .int .i64 p.own ∧ o10 = .slice a3 p.G.length c3 ∧ i = .int .i64 (↑k : Int) ∧ Hid (qs true room share n s hs (X.drop k) p = r) ∧ Hid (QsM W2 wr p (990 + k) a3 c3) ∧ Hid (IsK wr a4 c4 ks) ∧ Hid (∀ g, (Value.slice a3 p.G.length c3).ownBlock = some g → (Value.slice a4 ks.length c4).ownBlock ≠ some g) ∧ w3.heap.size ≤ wr.heap.size) (fun _ _ _ i _ => ks.length - (intOf i).toNat)
      case atStart => exact ⟨0, p0, a3, c3, by omega, rfl, rfl, rfl, rfl, HRR.out, HM3.out.mono (by omega), HI1.out, HNE0.out, Nat.le_refl _⟩
      case round =>
        obtain ⟨k, p, a5, c5, hk, rfl, rfl, rfl, rfl, HQ, HM, HIK, HNE, hwl⟩ := hrel
        obtain ⟨wp, hwp⟩ : ∃ wp, wp = wr := ⟨_, rfl⟩
        subst hwp
        have hpb := HM.out.bd
        have HBD' := HBD.out
        by_cases hkt : k < ks.length
        · obtain ⟨⟨y, m, q, qn⟩, ht⟩ : ∃ t, X[k]? = some t := ⟨_, List.getElem?_eq_getElem (by have := HKL.out; omega)⟩
          have hx : ks[k]? = some y := by rw [HKS.out, List.getElem?_map, ht]; rfl
          have HDR : Hid (X.drop k = (y, m, q, qn) :: X.drop (k + 1)) := drop_at ht
          have hem := HI.out.each (y, m, q, qn) (by rw [← HX.out]; exact List.mem_of_getElem? ht)
          have hmb : 1 ≤ m ∧ m ≤ 1099511627776 := hem.1
          have HGX : Hid (getX L y = some (y, m, q, qn)) := by
            show _ = _
            rw [get_perm HPL.out HI.out]
            exact (getX_mem (t := (y, m, q, qn)) HI.out.nodup).2 (by rw [← HX.out]; exact List.mem_of_getElem? ht)
          obtain ⟨g4, o4, rfl, k0⟩ := HIK.out.at hx
          have b1 := (HM.out.chg.cell l2 id _).trans HB2.out.1
          have b2 := (HM.out.chg.cell l2 id _).trans HB2.out.2
          have cr := (HM.out.chg.cell (cell_lt HR2.out.c0) id _).trans HR2.out.c0
          have cs := (HM.out.chg.cell (cell_lt HR2.out.c0) id _).trans HR2.out.c1
          have e1 : IntKind.i64.wrap (p.own + n) = p.own + n := IntWalk.i64_in _ (by omega)
          have e2 : IntKind.i64.wrap (p.al + n) = p.al + n := IntWalk.i64_in _ (by omega)
          clear ht hx hem
          go_upto_region 9 with fail
          by_cases hB : p.al + n ≤ room
          · have qB := decP hB
            have HST : Hid (stopQ true room share n p = true) := by show _ = _; simp [stopQ]; exact hB
            clear hB
            go_quiet (fail)
            clear qB b1 b2 cr cs k0
            go_wp2
            go_roundw
            case rel =>
              have e := HQ.out
              rw [HDR.out, qs_stop HST.out] at e
              subst e
              exact ⟨2, p, a5, c5, by omega, rfl, rfl, rfl, by go_num, HRN.out, (HM.out.still (show Chg (fun _ => False) wp _ from (by repeat (first | with_reducible exact Chg.refl _ _ | with_reducible assumption | with_reducible refine Chg.drewN ?_ _ | with_reducible refine Chg.drew ?_ | with_reducible refine Chg.alloc ?_ _ | with_reducible refine Chg.setCell ?_ (by first | (left; rfl) | (left; left; rfl) | (left; right; rfl) | (left; right; left; rfl) | (left; right; right; rfl) | (right; exact Nat.le_refl _) | (right; simp; done) | (right; omega) | (right; simp at *; omega) | (simp at *; omega)) _ | with_reducible refine Chg.trans ?_ (by with_reducible assumption) (by intro i hi hT; first | exact hT | exact False.elim hT | omega | (simp at *; omega)))))).mono (by have := HKL.out; omega)⟩
            case measure => simp [intOf]
          · have qB := decN hB
            have HST : Hid (stopQ true room share n p = false) := by show _ = _; simp [stopQ]; omega
            clear hB
            go_quiet (fail)
            clear b1 b2 cr cs k0 qB
            go_upto_region 10 with fail
            refine name_region ?_; intro W4 hW4
            have gW4 : Chg (fun _ => False) wp W4 := by subst hW4; exact (by repeat (first | with_reducible exact Chg.refl _ _ | with_reducible assumption | with_reducible refine Chg.drewN ?_ _ | with_reducible refine Chg.drew ?_ | with_reducible refine Chg.alloc ?_ _ | with_reducible refine Chg.setCell ?_ (by first | (left; rfl) | (left; left; rfl) | (left; right; rfl) | (left; right; left; rfl) | (left; right; right; rfl) | (right; exact Nat.le_refl _) | (right; simp; done) | (right; omega) | (right; simp at *; omega) | (simp at *; omega)) _ | with_reducible refine Chg.trans ?_ (by with_reducible assumption) (by intro i hi hT; first | exact hT | exact False.elim hT | omega | (simp at *; omega))))
            have HM4 := Lib.hid (HM.out.still gW4)
            have HIK4 := Lib.hid (HIK.out.keep gW4 fun _ _ => id)
            have l4 := gW4.size
            clear hW4 gW4 e1 e2
            go_wp2_with fail
            refine (rfind_any W4 lr b lb sb a0 c0 room share L T K ns y (HR2.out.still HM4.out.chg)).mono ?_; rintro e wf ⟨rfl, gf⟩
            rw [HGX.out]
            simp only [tv, Option.getD_some, Option.isSome_some]
            have HMF := Lib.hid (HM4.out.still gf)
            have HIKF := Lib.hid (HIK4.out.keep gf fun _ _ => id)
            have lf := gf.size
            clear gf
            go_upto_region 11 with fail
            refine name_region ?_; intro W5 hW5
            have gW5 : Chg (fun _ => False) wf W5 := by subst hW5; exact (by repeat (first | with_reducible exact Chg.refl _ _ | with_reducible assumption | with_reducible refine Chg.drewN ?_ _ | with_reducible refine Chg.drew ?_ | with_reducible refine Chg.alloc ?_ _ | with_reducible refine Chg.setCell ?_ (by first | (left; rfl) | (left; left; rfl) | (left; right; rfl) | (left; right; left; rfl) | (left; right; right; rfl) | (right; exact Nat.le_refl _) | (right; simp; done) | (right; omega) | (right; simp at *; omega) | (simp at *; omega)) _ | with_reducible refine Chg.trans ?_ (by with_reducible assumption) (by intro i hi hT; first | exact hT | exact False.elim hT | omega | (simp at *; omega))))
            have f1 : W5.cell? ⟨wf.heap.size, 1, none⟩ = some (.int .i64 m) := by subst hW5; go_simp
            have f2 : W5.cell? ⟨wf.heap.size, 2, none⟩ = some (.string q) := by subst hW5; go_simp
            have HM5 := Lib.hid (HMF.out.still gW5)
            have HIK5 := Lib.hid (HIKF.out.keep gW5 fun _ _ => id)
            have l5 := gW5.size
            have b2 := (HM5.out.chg.cell l2 id _).trans HB2.out.2
            have HF := Lib.hid (And.intro f1 f2)
            have hgl : p.G.length ≤ 100000 := by have := HKL.out; omega
            clear hW5 gW5
            go_wp2_with fail
            refine (rin_any W5 a c hs y (HH2.out.keep HM5.out.chg) hl).mono ?_; rintro e w' ⟨rfl, rfl⟩
            by_cases hin : y ∈ hs
            · rw [decP hin]
              have HSK : Hid (skipQ true s hs p (y, m, q, qn) = true) := by show _ = _; simp [skipQ, hin]
              clear hin f1 f2 b2
              go_wp2
              go_roundw
              case rel => exact ⟨k + 1, p, a5, c5, by omega, rfl, rfl, rfl, by go_num, (by show _ = _; rw [← HQ.out, HDR.out, qs_skip HST.out HSK.out]), HM5.out.mono (by omega), HIK5.out, HNE.out, by omega⟩
              case measure => simp [intOf]; omega
            · rw [decN hin]
              have HHI := Lib.hid hin
              clear hin
              go_wp2_with fail
              have hri := rin_any W5 a5 c5 (keyT p.G) y HM5.out.isH (by rw [keyT_len]; omega)
              rw [keyT_len] at hri
              refine hri.mono ?_; rintro e w' ⟨rfl, rfl⟩
              by_cases hio : y ∈ keyT p.G
              · rw [decP hio]
                have HSK : Hid (skipQ true s hs p (y, m, q, qn) = true) := by show _ = _; simp [skipQ, hio]
                clear hio hri f1 f2 b2
                go_wp2
                go_roundw
                case rel => exact ⟨k + 1, p, a5, c5, by omega, rfl, rfl, rfl, by go_num, (by show _ = _; rw [← HQ.out, HDR.out, qs_skip HST.out HSK.out]), HM5.out.mono (by omega), HIK5.out, HNE.out, by omega⟩
                case measure => simp [intOf]; omega
              · rw [decN hio]
                have HHO := Lib.hid hio
                clear hio hri
                have e3 : IntKind.i64.wrap (p.al - m) = p.al - m := IntWalk.i64_in _ (by omega)
                have e4 : IntKind.i64.wrap (p.own - m) = p.own - m := IntWalk.i64_in _ (by omega)
                by_cases hqs : q = s
                · have HSK : Hid (skipQ true s hs p (y, m, q, qn) = false) := by show _ = _; simp [skipQ, HHI.out, HHO.out, hqs]
                  have hq1 : q.toList = s.toList := by rw [hqs]
                  have hq2 : (q.toList == s.toList) = true := by simp [hq1]
                  have HTO : Hid (takeQ s p (y, m, q, qn) = ⟨p.own - m, p.al - m, p.G ++ [(y, m, q, qn)]⟩) := by show _ = _; simp [takeQ, hqs]
                  clear hqs
                  go_wp2_with (at_builtin; go_loud (refine list_owned_at rfl _ _ 35 rfl W2.heap.size 2 ie _ 1 8 Try.underlying35 hie ez0 ez1 ez2 rfl (by decide) rfl rfl (own_chg HM5.out.row ((Chg.refl (fun _ => False) W5).alloc _) fun _ _ _ _ => id) (nums_one _) (rd_one (u := .int .i64 y) (by go_simp) rfl) (by decide) (by unfold maxLen; omega) (by omega) (by simp; omega) ?_; intro a6 c6 w9 ho9 hg9 hq9; have HO9 := Lib.hid ho9; have HG9 : Hid (Chg (fun i => (Value.slice a5 p.G.length c5).ownBlock = some i) W5 w9) := (((Chg.refl (fun i => (Value.slice a5 p.G.length c5).ownBlock = some i) W5).alloc _).trans (grown_chg (S := fun i => (Value.slice a5 p.G.length c5).ownBlock = some i) hg9 (fun q hq => hq)) fun _ _ h => h); have HQ9 : Hid (∀ q, (Value.slice a6 (p.G.length + 1) c6).ownBlock = some q → (Value.slice a5 p.G.length c5).ownBlock = some q ∨ W5.heap.size ≤ q) := (fun q hq => (hq9 q hq).elim Or.inl (fun e => Or.inr (by rw [e]; simp))); replace f1 := (HG9.out.cell (cell_lt f1) (fun e => Nat.lt_irrefl _ (own_below HMF.out.row e).2) _).trans f1; replace f2 := (HG9.out.cell (cell_lt f2) (fun e => Nat.lt_irrefl _ (own_below HMF.out.row e).2) _).trans f2; replace b2 := (HG9.out.cell (cell_lt b2) (fun e => Nat.lt_irrefl _ (Nat.lt_of_lt_of_le l2 (own_below HMF.out.row e).1)) _).trans b2; clear ho9 hg9 hq9))
                  go_roundw
                  case rel =>
                    refine ⟨k + 1, takeQ s p (y, m, q, qn), a6, c6, by omega, by rw [HTO.out], by rw [HTO.out], by rw [HTO.out]; simp, by go_num, (by show _ = _; rw [← HQ.out, HDR.out, qs_take HST.out HSK.out]), ⟨?_, ?_, ?_⟩, HIK5.out.keep HG9.out fun g hg e => HNE.out g e hg, ?_, by have := HG9.out.size; omega⟩
                    · rw [HTO.out]; show w9.ownsRow _ _ _ _ _ _; rw [nums_keyT_snoc, List.length_append]; exact HO9.out
                    · exact HM5.out.chg.trans HG9.out fun i hi h => by have := own_below HM5.out.row h; omega
                    · rw [HTO.out]; simp only [List.length_append, List.length_cons, List.length_nil]; omega
                    · rw [HTO.out]
                      intro g hg e
                      rw [show (p.G ++ [(y, m, q, qn)]).length = p.G.length + 1 by simp] at hg
                      rcases HQ9.out g hg with h | h
                      · exact HNE.out g h e
                      · have := HKB.out g e; omega
                  case measure => simp [intOf]; omega
                · have hq1 : ¬ q.toList = s.toList := fun h => hqs (bytes_ext (by rwa [ByteArray.toList_eq, ByteArray.toList_eq] at h))
                  have hq2 : (q.toList == s.toList) = false := by simpa using hq1
                  have HSK : Hid (skipQ true s hs p (y, m, q, qn) = false) := by show _ = _; simp [skipQ, HHI.out, HHO.out]
                  have HTO : Hid (takeQ s p (y, m, q, qn) = ⟨p.own, p.al - m, p.G ++ [(y, m, q, qn)]⟩) := by show _ = _; simp [takeQ, hqs]
                  clear hqs
                  go_wp2_with (at_builtin; go_loud (refine list_owned_at rfl _ _ 35 rfl W2.heap.size 2 ie _ 1 8 Try.underlying35 hie ez0 ez1 ez2 rfl (by decide) rfl rfl (own_chg HM5.out.row ((Chg.refl (fun _ => False) W5).alloc _) fun _ _ _ _ => id) (nums_one _) (rd_one (u := .int .i64 y) (by go_simp) rfl) (by decide) (by unfold maxLen; omega) (by omega) (by simp; omega) ?_; intro a6 c6 w9 ho9 hg9 hq9; have HO9 := Lib.hid ho9; have HG9 : Hid (Chg (fun i => (Value.slice a5 p.G.length c5).ownBlock = some i) W5 w9) := (((Chg.refl (fun i => (Value.slice a5 p.G.length c5).ownBlock = some i) W5).alloc _).trans (grown_chg (S := fun i => (Value.slice a5 p.G.length c5).ownBlock = some i) hg9 (fun q hq => hq)) fun _ _ h => h); have HQ9 : Hid (∀ q, (Value.slice a6 (p.G.length + 1) c6).ownBlock = some q → (Value.slice a5 p.G.length c5).ownBlock = some q ∨ W5.heap.size ≤ q) := (fun q hq => (hq9 q hq).elim Or.inl (fun e => Or.inr (by rw [e]; simp))); replace f1 := (HG9.out.cell (cell_lt f1) (fun e => Nat.lt_irrefl _ (own_below HMF.out.row e).2) _).trans f1; replace f2 := (HG9.out.cell (cell_lt f2) (fun e => Nat.lt_irrefl _ (own_below HMF.out.row e).2) _).trans f2; replace b2 := (HG9.out.cell (cell_lt b2) (fun e => Nat.lt_irrefl _ (Nat.lt_of_lt_of_le l2 (own_below HMF.out.row e).1)) _).trans b2; clear ho9 hg9 hq9))
                  go_roundw
                  case rel =>
                    refine ⟨k + 1, takeQ s p (y, m, q, qn), a6, c6, by omega, by rw [HTO.out], by rw [HTO.out], by rw [HTO.out]; simp, by go_num, (by show _ = _; rw [← HQ.out, HDR.out, qs_take HST.out HSK.out]), ⟨?_, ?_, ?_⟩, HIK5.out.keep HG9.out fun g hg e => HNE.out g e hg, ?_, by have := HG9.out.size; omega⟩
                    · rw [HTO.out]; show w9.ownsRow _ _ _ _ _ _; rw [nums_keyT_snoc, List.length_append]; exact HO9.out
                    · exact HM5.out.chg.trans HG9.out fun i hi h => by have := own_below HM5.out.row h; omega
                    · rw [HTO.out]; simp only [List.length_append, List.length_cons, List.length_nil]; omega
                    · rw [HTO.out]
                      intro g hg e
                      rw [show (p.G ++ [(y, m, q, qn)]).length = p.G.length + 1 by simp] at hg
                      rcases HQ9.out g hg with h | h
                      · exact HNE.out g h e
                      · have := HKB.out g e; omega
                  case measure => simp [intOf]; omega
        · obtain rfl : k = ks.length := by omega
          go_wp2
          go_roundw
          case rel =>
            have e := HQ.out
            rw [HKL.out, List.drop_length] at e
            have e : p = r := e
            subst e
            exact ⟨2, p, a5, c5, by omega, rfl, rfl, rfl, by go_num, HRN.out, HM.out.mono (by have := HKL.out; omega)⟩
          case measure => simp [intOf]
    · obtain rfl : p0 = z := HP0.out.trans HZ.out.symm
      have b1 := (HM0.out.chg.cell l2 id _).trans HB2.out.1
      have cr := (HM0.out.chg.cell (cell_lt HR2.out.c0) id _).trans HR2.out.c0
      have cs := (HM0.out.chg.cell (cell_lt HR2.out.c0) id _).trans HR2.out.c1
      have hpb := HM0.out.bd
      have HBD' := HBD.out
      have e1 : IntKind.i64.wrap (p0.own + n) = p0.own + n := IntWalk.i64_in _ (by omega)
      have e2 : IntKind.i64.wrap (p0.al + n) = p0.al + n := IntWalk.i64_in _ (by omega)
      have lq2 := HM0.out.chg.size
      have hg2 := G2.out.size
      go_wp2_with fail
      by_cases hA : p0.own + n ≤ share
      · have qA := decP hA
        by_cases hB : p0.al + n ≤ room
        · have qB := decP hB
          have HOK : Hid ((decide (p0.own + n ≤ share) && decide (p0.al + n ≤ room)) = true) := by show _ = _; rw [qA, qB]; rfl
          clear hA hB
          go_quiet (fail)
          go_wp2
          go_ret2
          exact ⟨a3, c3, by rw [HOK.out]; rfl, own_chg (own_mono HM0.out.row (by omega)) (show Chg (fun _ => False) wo _ from (by repeat (first | with_reducible exact Chg.refl _ _ | with_reducible assumption | with_reducible refine Chg.drewN ?_ _ | with_reducible refine Chg.drew ?_ | with_reducible refine Chg.alloc ?_ _ | with_reducible refine Chg.setCell ?_ (by first | (left; rfl) | (left; left; rfl) | (left; right; rfl) | (left; right; left; rfl) | (left; right; right; rfl) | (right; exact Nat.le_refl _) | (right; simp; done) | (right; omega) | (right; simp at *; omega) | (simp at *; omega)) _ | with_reducible refine Chg.trans ?_ (by with_reducible assumption) (by intro i hi hT; first | exact hT | exact False.elim hT | omega | (simp at *; omega))))) fun _ _ _ _ => id, (G2.out.trans HM0.out.chg fun _ _ h => h).trans (show Chg (fun _ => False) wo _ from (by repeat (first | with_reducible exact Chg.refl _ _ | with_reducible assumption | with_reducible refine Chg.drewN ?_ _ | with_reducible refine Chg.drew ?_ | with_reducible refine Chg.alloc ?_ _ | with_reducible refine Chg.setCell ?_ (by first | (left; rfl) | (left; left; rfl) | (left; right; rfl) | (left; right; left; rfl) | (left; right; right; rfl) | (right; exact Nat.le_refl _) | (right; simp; done) | (right; omega) | (right; simp at *; omega) | (simp at *; omega)) _ | with_reducible refine Chg.trans ?_ (by with_reducible assumption) (by intro i hi hT; first | exact hT | exact False.elim hT | omega | (simp at *; omega))))) fun _ _ h => h⟩
        · have qB := decN hB
          have HOK : Hid ((decide (p0.own + n ≤ share) && decide (p0.al + n ≤ room)) = false) := by show _ = _; rw [qA, qB]; rfl
          clear hA hB
          go_quiet (fail)
          go_wp2
          go_ret2
          exact ⟨a3, c3, by rw [HOK.out]; rfl, own_chg (own_mono HM0.out.row (by omega)) (show Chg (fun _ => False) wo _ from (by repeat (first | with_reducible exact Chg.refl _ _ | with_reducible assumption | with_reducible refine Chg.drewN ?_ _ | with_reducible refine Chg.drew ?_ | with_reducible refine Chg.alloc ?_ _ | with_reducible refine Chg.setCell ?_ (by first | (left; rfl) | (left; left; rfl) | (left; right; rfl) | (left; right; left; rfl) | (left; right; right; rfl) | (right; exact Nat.le_refl _) | (right; simp; done) | (right; omega) | (right; simp at *; omega) | (simp at *; omega)) _ | with_reducible refine Chg.trans ?_ (by with_reducible assumption) (by intro i hi hT; first | exact hT | exact False.elim hT | omega | (simp at *; omega))))) fun _ _ _ _ => id, (G2.out.trans HM0.out.chg fun _ _ h => h).trans (show Chg (fun _ => False) wo _ from (by repeat (first | with_reducible exact Chg.refl _ _ | with_reducible assumption | with_reducible refine Chg.drewN ?_ _ | with_reducible refine Chg.drew ?_ | with_reducible refine Chg.alloc ?_ _ | with_reducible refine Chg.setCell ?_ (by first | (left; rfl) | (left; left; rfl) | (left; right; rfl) | (left; right; left; rfl) | (left; right; right; rfl) | (right; exact Nat.le_refl _) | (right; simp; done) | (right; omega) | (right; simp at *; omega) | (simp at *; omega)) _ | with_reducible refine Chg.trans ?_ (by with_reducible assumption) (by intro i hi hT; first | exact hT | exact False.elim hT | omega | (simp at *; omega))))) fun _ _ h => h⟩
      · have qA := decN hA
        have HOK : Hid ((decide (p0.own + n ≤ share) && decide (p0.al + n ≤ room)) = false) := by show _ = _; rw [qA]; rfl
        clear hA
        go_quiet (fail)
        go_wp2
        go_ret2
        exact ⟨a3, c3, by rw [HOK.out]; rfl, own_chg (own_mono HM0.out.row (by omega)) (show Chg (fun _ => False) wo _ from (by repeat (first | with_reducible exact Chg.refl _ _ | with_reducible assumption | with_reducible refine Chg.drewN ?_ _ | with_reducible refine Chg.drew ?_ | with_reducible refine Chg.alloc ?_ _ | with_reducible refine Chg.setCell ?_ (by first | (left; rfl) | (left; left; rfl) | (left; right; rfl) | (left; right; left; rfl) | (left; right; right; rfl) | (right; exact Nat.le_refl _) | (right; simp; done) | (right; omega) | (right; simp at *; omega) | (simp at *; omega)) _ | with_reducible refine Chg.trans ?_ (by with_reducible assumption) (by intro i hi hT; first | exact hT | exact False.elim hT | omega | (simp at *; omega))))) fun _ _ _ _ => id, (G2.out.trans HM0.out.chg fun _ _ h => h).trans (show Chg (fun _ => False) wo _ from (by repeat (first | with_reducible exact Chg.refl _ _ | with_reducible assumption | with_reducible refine Chg.drewN ?_ _ | with_reducible refine Chg.drew ?_ | with_reducible refine Chg.alloc ?_ _ | with_reducible refine Chg.setCell ?_ (by first | (left; rfl) | (left; left; rfl) | (left; right; rfl) | (left; right; left; rfl) | (left; right; right; rfl) | (right; exact Nat.le_refl _) | (right; simp; done) | (right; omega) | (right; simp at *; omega) | (simp at *; omega)) _ | with_reducible refine Chg.trans ?_ (by with_reducible assumption) (by intro i hi hT; first | exact hT | exact False.elim hT | omega | (simp at *; omega))))) fun _ _ h => h⟩
end Go.Proofs.Ytdoepjokaekckaa
