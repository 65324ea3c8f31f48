/- TopRing: the steps that the law takes, each with what it leaves. -/
import Derived.Test.YtpapfnfdaklnlaaDoorRq
import Derived.Test.YtpapfnfdaklnlaaDoorRs
import Derived.Test.YtpapfnfdaklnlaaDoorTi
namespace Go.Proofs.YtpapfnfdaklnlaaDoor
set_option linter.unusedVariables false
open Go.RowKit

/-- The ring while the law goes on: its blocks are the call's own; each name begins with an n. -/
structure S1 (w wr : World) (b : Nat) (v pv : Value) (U : Nat) (K : List UInt8 → Bool) (L : List Pt) : Prop where
  rg : Rg wr b v pv U K L
  up : ∀ k, RB b v pv k → w.heap.size ≤ k
  ch : Chg (fun c => w.heap.size ≤ c) w wr
  nm : ∀ s, K s = true → s.head? = some 110
section
variable {w wr w' : World} {b U : Nat} {v pv : Value} {K : List UInt8 → Bool} {L : List Pt}
theorem S1.below (h : S1 w wr b v pv U K L) (k : Below wr.heap.size wr w') : S1 w w' b v pv U K L :=
  ⟨h.rg.below k, h.up, h.ch.trans (Chg.ofBelow k (S := fun _ => False)) fun _ _ e => e.elim, h.nm⟩
theorem S1.add (h : S1 w wr b v pv U K L) {c : UInt8} (k : Added wr w' b U v pv K L (nameOf 110 c)) : ∃ v' pv' K' L', S1 w w' b v' pv' (U + 1) K' L' := by
  obtain ⟨v', pv', M, N, hr, _, _, _, hc, hb⟩ := k
  refine ⟨v', pv', _, M, hr, fun i hi => ?_, h.ch.trans hc fun i _ e => h.up i e, fun s hs => ?_⟩
  · rcases hb i hi with e | e
    · exact h.up i e
    · exact Nat.le_trans h.ch.size e
  · by_cases e : s = (nameOf 110 c).data.toList
    · rw [e]; rfl
    · simp [e] at hs
      exact h.nm s hs
theorem ring_add1 (h : S1 w wr b v pv U K L) (hU : U ≤ 60) (c : UInt8) (hc : 33 ≤ c.toNat ∧ c.toNat ≤ 126) (wt : Nat) (hwt : 1 ≤ wt ∧ wt ≤ 3) :
    Calls Tryd.prog 10 #[.pointer (some ⟨b, 0, none⟩), .string (nameOf 110 c), .int .i64 wt] wr fun e w' => (∃ z, e = .returned (.int .i64 z)) ∧ ∃ v' pv' U' K' L', U' ≤ U + 1 ∧ S1 w w' b v' pv' U' K' L' := by
  refine (ring_add b U wt v pv K L 110 c wr h.rg hU (by decide) hc hwt).mono ?_
  rintro e w' (⟨_, rfl, hb⟩ | ⟨_, rfl, ha⟩)
  · exact ⟨⟨_, rfl⟩, v, pv, U, K, L, by omega, h.below hb⟩
  · obtain ⟨v', pv', K', L', hs⟩ := h.add ha
    exact ⟨⟨_, rfl⟩, v', pv', U + 1, K', L', by omega, hs⟩
end
theorem up_done1 {w w' : World} (h : Chg (fun c => w.heap.size ≤ c) w w') : Below w.heap.size w w' := ⟨h.os, h.tape, h.output, h.size, fun k hk => h.block k hk (by omega)⟩

theorem enc_small (x : Int) (h : 0 ≤ x) : ∃ c : UInt8, (33 ≤ c.toNat ∧ c.toNat ≤ 126) ∧ Utf8.encode (97 + x % 20) = ⟨#[c]⟩ := by
  obtain ⟨r, hr⟩ : ∃ r : Nat, x % 20 = r := ⟨(x % 20).toNat, by omega⟩
  have hl : r < 20 := by omega
  rw [hr]
  refine ⟨UInt8.ofNat (97 + r), ?_, ?_⟩
  · have e : (UInt8.ofNat (97 + r)).toNat = 97 + r := by rw [UInt8.toNat_ofNat']; omega
    omega
  · have hall : ∀ q : Fin 20, Utf8.encode (97 + ((q.val : Nat) : Int)) = ⟨#[UInt8.ofNat (97 + q.val)]⟩ := by decide +kernel
    exact hall ⟨r, hl⟩
theorem cat_two (p c : UInt8) : (⟨#[p]⟩ : ByteArray) ++ ⟨#[c]⟩ = nameOf p c := by
  apply ByteArray.ext
  simp [nameOf]

/-- What Owner answers, as a text: empty where there is none. -/
def ownV (L : List Pt) (o : ByteArray) : ByteArray := (ownerL L (hashF o.data.toList)).getD ⟨#[]⟩
def aheadV (L : List Pt) (os : List ByteArray) : List Value := os.map fun o => .string (ownV L o)
theorem aheadV_at {L : List Pt} {os : List ByteArray} {k : Nat} {o : ByteArray} (h : os[k]? = some o) : (aheadV L os)[k]? = some (.string (ownV L o)) := by simp [aheadV, h]
theorem aheadV_snoc {L : List Pt} {os : List ByteArray} {k : Nat} {o : ByteArray} (h : os[k]? = some o) : aheadV L (os.take (k + 1)) = aheadV L (os.take k) ++ [.string (ownV L o)] := by
  rw [List.take_add_one, h]; simp [aheadV]
/-- The row of answers while it grows, and that no object so far is long. -/
structure S2 (W2 wr : World) (va : Value) (k : Nat) (os : List ByteArray) (L : List Pt) : Prop where
  ow : wr.ownsRow W2.heap.size 9 1 va k (aheadV L (os.take k))
  ch : Chg (fun _ => False) W2 wr
  sm : ∀ o ∈ os.take k, o.size ≤ 100
theorem S2.step {W2 wr w5 wa w6 : World} {va : Value} {k g cap : Nat} {os : List ByteArray} {L : List Pt} {o : ByteArray} (h : S2 W2 wr va k os L) (ho : os[k]? = some o) (hs : o.size ≤ 100) (b5 : Below wr.heap.size wr w5) (ka : Chg (fun _ => False) w5 wa) (hg : wa.grownBy w6 va.ownBlock)
    (h6 : w6.ownsRow W2.heap.size 9 1 (.slice (some ⟨g, 0, none⟩) (k + 1) cap) (k + 1) (aheadV L (os.take k) ++ [.string (ownV L o)])) : S2 W2 w6 (.slice (some ⟨g, 0, none⟩) (k + 1) cap) (k + 1) os L := by
  have k1 : Chg (fun _ => False) W2 wa := (h.ch.trans (Chg.ofBelow b5 (S := fun _ => False)) fun _ _ e => e).trans ka fun _ _ e => e
  refine ⟨by rw [aheadV_snoc ho]; exact h6, k1.grown hg fun i hi => .inr (own_below h.ow hi).1, fun q hq => ?_⟩
  rw [List.take_add_one, ho] at hq
  rcases List.mem_append.1 hq with hq | hq
  · exact h.sm q hq
  · simp at hq; rw [hq]; exact hs
theorem owner_some {M : List Pt} (h : 0 < M.length) (x : Int) : ∃ y, ownerL M x = some y := by
  unfold ownerL
  cases M with
  | nil => simp at h
  | cons p M =>
    cases (p :: M).find? fun p => decide (x ≤ p.1) with
    | none => exact ⟨_, rfl⟩
    | some q => exact ⟨_, rfl⟩
/-- With the name more: the ring, and what it is without that name's points. -/
structure S3 (w w5 : World) (b U : Nat) (v pv : Value) (K : List UInt8 → Bool) (L M : List Pt) (nm : ByteArray) : Prop where
  rg : Rg w5 b v pv (U + 1) (fun y => decide (y = nm.data.toList) || K y) M
  up : ∀ k, RB b v pv k → w.heap.size ≤ k
  ch : Chg (fun c => w.heap.size ≤ c) w w5
  fl : M.filter (keepP nm) = L
  ne : 0 < M.length
theorem S1.more {w wr w5 : World} {b U : Nat} {v pv : Value} {K : List UInt8 → Bool} {L : List Pt} {nm : ByteArray} (h : S1 w wr b v pv U K L) (hn : K nm.data.toList = false) (k : Added wr w5 b U v pv K L nm) : ∃ v1 pv1 M, S3 w w5 b U v1 pv1 K L M nm ∧ Chg (RB b v pv) wr w5 ∧ ∀ k, RB b v1 pv1 k → RB b v pv k ∨ wr.heap.size ≤ k := by
  obtain ⟨v', pv', M, N, hr, hp, hN, hN0, hc, hb⟩ := k
  refine ⟨v', pv', M, ⟨hr, fun i hi => ?_, h.ch.trans hc fun i _ e => h.up i e, ?_, ?_⟩, hc, hb⟩
  · rcases hb i hi with e | e
    · exact h.up i e
    · exact Nat.le_trans h.ch.size e
  · exact asc_without hp h.rg.asc hr.asc (fun p hp e => by have := (h.rg.has p hp).1; rw [e, hn] at this; cases this) hN
  · rw [hp.length_eq, List.length_append]; omega
/-- The row of answers is not among the ring's blocks: it stays. -/
theorem row_apart {W2 wr w5 : World} {b U k : Nat} {v pv va : Value} {K : List UInt8 → Bool} {L : List Pt} {xs : List Value} (ho : wr.ownsRow W2.heap.size 9 1 va k xs) (h2 : Rg W2 b v pv U K L) (hc : Chg (RB b v pv) wr w5) {v1 pv1 : Value} (hb : ∀ k, RB b v1 pv1 k → RB b v pv k ∨ wr.heap.size ≤ k) :
    w5.ownsRow W2.heap.size 9 1 va k xs ∧ ∀ c, va.ownBlock = some c → ¬ RB b v1 pv1 c := by
  refine ⟨own_chg ho hc fun g hg _ _ e => ?_, fun c hcb e => ?_⟩
  · have := h2.lt g e; omega
  · have := own_below ho hcb
    rcases hb c e with e | e
    · have := h2.lt c e; omega
    · omega

set_option maxHeartbeats 8000000 in
set_option maxRecDepth 100000 in
theorem topRing_any (ax : Option Addr) (capx : Nat) (xs : List Int) (more : Int) (ao : Option Addr) (capo : Nat) (os : List ByteArray) (w : World) (hxs : ∀ x ∈ xs, 0 ≤ x ∧ x ≤ 255) (hcx : xs.length ≤ capx) (hmx : capx ≤ 9223372036854775807) (hm : 0 ≤ more ∧ more ≤ 255) (hco : os.length ≤ capo) (hmo : capo ≤ 9223372036854775807)
    (hx : ∀ (i : Nat) x, xs[i]? = some x → ∃ b off, ax = some ⟨b, off, none⟩ ∧ b < w.heap.size ∧ ∀ (j : Nat) y, xs[j]? = some y → w.cell? ⟨b, off + j, none⟩ = some (.int .u8 y))
    (ho : ∀ (i : Nat) x, os[i]? = some x → ∃ b off, ao = some ⟨b, off, none⟩ ∧ b < w.heap.size ∧ ∀ (j : Nat) y, os[j]? = some y → w.cell? ⟨b, off + j, none⟩ = some (.string y)) :
    Calls Tryd.prog 4 #[.slice ax xs.length capx, .int .u8 more, .slice ao os.length capo] w fun e w' => e = .returned (.bool true) ∧ Below w.heap.size w w' := by
  have HX := Lib.hid hx
  have HO := Lib.hid ho
  have HXS := Lib.hid hxs
  clear hx ho hxs
  obtain ⟨n, hn⟩ : ∃ n, xs.length = n := ⟨_, rfl⟩
  obtain ⟨no, hno⟩ : ∃ n, os.length = n := ⟨_, rfl⟩
  rw [hn] at hcx ⊢
  rw [hno] at hco ⊢
  have HN := Lib.hid hn
  have HNO := Lib.hid hno
  clear hn hno
  go_enter Tryd.func4, Tryd.ntmps4
  by_cases h12 : n > 12
  · have h12' : (12 : Int) < n := by omega
    go_wp2_with fail
    refine (alive_any _).mono ?_; rintro e w4 ⟨rfl, g4⟩
    go_wp2
    go_ret
    exact ⟨rfl, g4⟩
  by_cases h30 : no > 30
  · have h12' : ¬ (12 : Int) < n := by omega
    have h30' : (30 : Int) < no := by omega
    go_wp2_with fail
    refine (alive_any _).mono ?_; rintro e w4 ⟨rfl, g4⟩
    go_wp2
    go_ret
    exact ⟨rfl, g4⟩
  have h12' : ¬ (12 : Int) < n := by omega
  have h30' : ¬ (30 : Int) < no := by omega
  go_wp2_with fail
  refine (ring_new _).mono ?_; rintro e w4 ⟨rfl, hw4⟩
  have HS4 : Hid (S1 w w4 w.heap.size (.map none) (.slice none 0 0) 0 (fun _ => false) []) := by
    rw [hw4]
    refine ⟨ring_made w, fun k hk => ?_, (by repeat (first | with_reducible exact Chg.refl _ _ | with_reducible assumption | with_reducible refine Chg.drewN ?_ _ | with_reducible refine Chg.drew ?_ | with_reducible refine Chg.alloc ?_ _ | with_reducible refine Chg.setCell ?_ (by first | (left; rfl) | (left; left; rfl) | (left; right; rfl) | (left; right; left; rfl) | (left; right; right; rfl) | (right; exact Nat.le_refl _) | (right; simp; done) | (right; omega) | (right; simp at *; omega) | (simp at *; omega)) _ | with_reducible refine Chg.trans ?_ (by with_reducible assumption) (by intro i hi hT; first | exact hT | exact False.elim hT | omega | (simp at *; omega)))), fun s hs => by cases hs⟩
    rcases hk with rfl | hk | hk
    · exact Nat.le_refl _
    · cases hk
    · cases hk
  clear hw4
  obtain ⟨b, hb⟩ : ∃ b, b = w.heap.size := ⟨_, rfl⟩
  rw [← hb] at HS4 ⊢
  have HB := Lib.hid hb
  clear hb
  go_upto_region 6 with fail
  go_wp2_with fail
  go_loopw [46] (fun i wr => ∃ (k : Nat) (v pv : Value) (U : Nat) (K : List UInt8 → Bool) (L : List Pt), k ≤ n ∧ i = .int .i64 (↑k : Int) ∧ Hid (U ≤ k ∧ S1 w wr b v pv U K L)) (fun i _ => n - (intOf i).toNat)
  case atStart => exact ⟨0, _, _, 0, _, _, by omega, rfl, Nat.le_refl _, HS4.out⟩
  case round =>
    obtain ⟨k, v, pv, U, K, L, hk1, rfl, HS⟩ := hrel
    by_cases hlt : k < n
    · obtain ⟨x, hx⟩ := some_at (l := xs) (j := k) (by rw [HN.out]; exact hlt)
      obtain ⟨bx, off, ra, hbx, hcell⟩ := HX.out k x hx
      subst ra
      have kx : wr.cell? ⟨bx, off + k, none⟩ = some (.int .u8 x) := (HS.out.2.ch.cell hbx (by omega) _).trans (hcell k x hx)
      have hxb := HXS.out x (List.mem_of_getElem? hx)
      obtain ⟨c, hc, henc⟩ := enc_small x hxb.1
      obtain ⟨wt, hwt, hwt2⟩ : ∃ wt : Nat, 1 + x % 3 = (wt : Int) ∧ 1 ≤ wt ∧ wt ≤ 3 := ⟨(1 + x % 3).toNat, by omega, by omega, by omega⟩
      clear hcell hx
      go_wp2_with fail
      rw [cat_two]
      refine (ring_add1 HS.out.2 (by have := HS.out.1; omega) c hc wt hwt2).mono ?_
      rintro e w5 ⟨⟨z, rfl⟩, v', pv', U', K', L', hU', hs'⟩
      have HS5 : Hid (U' ≤ k + 1 ∧ S1 w w5 b v' pv' U' K' L') := ⟨by have := HS.out.1; omega, hs'⟩
      clear hs' kx henc hwt
      go_wp2_with fail
      go_roundw
      case rel => exact ⟨k + 1, v', pv', U', K', L', by omega, by go_num, HS5.out⟩
      case measure => simp [intOf]; omega
    · obtain rfl : k = n := by omega
      obtain ⟨cm, hcm, hem⟩ := enc_small more hm.1
      obtain ⟨W2, hW2⟩ : ∃ W2, W2 = wr := ⟨_, rfl⟩
      subst hW2
      have hUk : U ≤ 12 := by have := HS.out.1; omega
      have HS2 := Lib.hid HS.out.2
      have HA0 : Hid (S2 W2 W2 (.slice none 0 0) 0 os L) := ⟨⟨rfl, .inl ⟨rfl, rfl⟩⟩, Chg.refl _ _, by simp⟩
      go_wp2_with fail
      rw [cat_two]
      obtain ⟨nm, hnm⟩ : ∃ nm, nm = nameOf 109 cm := ⟨_, rfl⟩
      rw [← hnm]
      have HNM := Lib.hid hnm
      clear hnm hem
      go_loopw [12, 71] (fun va i wr => ∃ (k : Nat), k ≤ no ∧ i = .int .i64 (↑k : Int) ∧ Hid (S2 W2 wr va k os L)) (fun _ i _ => no - (intOf i).toNat)
      case atStart => exact ⟨0, by omega, rfl, HA0.out⟩
      case round =>
        obtain ⟨k, hk1, rfl, HQ⟩ := hrel
        have hz2 := HQ.out.ch.size
        by_cases hlt : k < no
        · obtain ⟨o, ho⟩ : ∃ o, os[k]? = some o := ⟨_, List.getElem?_eq_getElem (by rw [HNO.out]; exact hlt)⟩
          obtain ⟨bo, off, ra, hbo, hcell⟩ := HO.out k o ho
          subst ra
          have ko : wr.cell? ⟨bo, off + k, none⟩ = some (.string o) := (HQ.out.ch.cell (Nat.lt_of_lt_of_le hbo HS2.out.ch.size) id _).trans ((HS2.out.ch.cell hbo (by omega) _).trans (hcell k o ho))
          have HOK := Lib.hid ho
          clear hcell ho
          by_cases h100 : o.size > 100
          · have h100' : (100 : Int) < o.size := by omega
            go_wp2_with fail
            refine (alive_any _).mono ?_; rintro e w6 ⟨rfl, g6⟩
            go_wp2
            go_ret
            exact ⟨rfl, up_done1 ((HS2.out.ch.trans HQ.out.ch fun _ _ e => e.elim).trans (Chg.ofBelow g6 (S := fun _ => False)) fun _ _ e => e.elim)⟩
          · have h100' : ¬ (100 : Int) < o.size := by omega
            obtain ⟨r, hr⟩ : ∃ r, ownerL L (hashF o.data.toList) = r := ⟨_, rfl⟩
            have hrv : ownV L o = r.getD ⟨#[]⟩ := by unfold ownV; rw [hr]
            have HR := Lib.hid hr
            have HRV := Lib.hid hrv
            clear hr hrv
            go_wp2_with fail
            refine (ring_owner b U v pv K L o _ (HS2.out.rg.still HQ.out.ch) (by omega) (by unfold maxLen; omega) r HR.out).mono ?_
            rintro e w5 ⟨rfl, b5⟩
            have HB5 := Lib.hid b5
            have z5 := b5.size
            obtain ⟨is, his⟩ := infoStr_parts
            have HIS := Lib.hid his
            obtain ⟨rv, hrv⟩ : ∃ rv : ByteArray, rv = r.getD ⟨#[]⟩ := ⟨_, rfl⟩
            have HRV2 := Lib.hid hrv
            rw [← hrv]
            clear his ko b5 hrv
            have HW5 := Lib.hid (own_chg HQ.out.ow (Chg.ofBelow HB5.out (S := fun _ => False)) fun _ _ _ _ h => h)
            go_wp2_with (at_builtin; refine wpList_append_lies _ rfl _ _ 33 rfl W2.heap.size 9 is _ 1 16 Tryd.underlying33 HIS.out.1 HIS.out.2.1 HIS.out.2.2.1 HIS.out.2.2.2 rfl (by decide) u12 k _ rfl (own_chg HW5.out (show Chg (fun _ => False) w5 _ from (by repeat (first | with_reducible exact Chg.refl _ _ | with_reducible assumption | with_reducible refine Chg.drewN ?_ _ | with_reducible refine Chg.drew ?_ | with_reducible refine Chg.alloc ?_ _ | with_reducible refine Chg.setCell ?_ (by first | (left; rfl) | (left; left; rfl) | (left; right; rfl) | (left; right; left; rfl) | (left; right; right; rfl) | (right; exact Nat.le_refl _) | (right; simp; done) | (right; omega) | (right; simp at *; omega) | (simp at *; omega)) _ | with_reducible refine Chg.trans ?_ (by with_reducible assumption) (by intro i hi hT; first | exact hT | exact False.elim hT | omega | (simp at *; omega))))) fun _ _ _ _ h => h) ⟨w5.heap.size, 0, none⟩ 1 1 [.string rv] rfl rfl (one_at _ _ _) (by intro u hu; simp at hu; rw [hu]; rfl) (by decide) (by unfold maxLen; omega) (by omega) (by simp; omega) _ rfl ?_; intro g cap w6 o6 gr6 hat6 hl6)
            have HQ7 : Hid (S2 W2 w6 (.slice (some ⟨g, 0, none⟩) (k + 1) cap) (k + 1) os L) := HQ.out.step HOK.out (by omega) HB5.out (show Chg (fun _ => False) w5 _ from (by repeat (first | with_reducible exact Chg.refl _ _ | with_reducible assumption | with_reducible refine Chg.drewN ?_ _ | with_reducible refine Chg.drew ?_ | with_reducible refine Chg.alloc ?_ _ | with_reducible refine Chg.setCell ?_ (by first | (left; rfl) | (left; left; rfl) | (left; right; rfl) | (left; right; left; rfl) | (left; right; right; rfl) | (right; exact Nat.le_refl _) | (right; simp; done) | (right; omega) | (right; simp at *; omega) | (simp at *; omega)) _ | with_reducible refine Chg.trans ?_ (by with_reducible assumption) (by intro i hi hT; first | exact hT | exact False.elim hT | omega | (simp at *; omega))))) gr6 (by rw [HRV.out, ← HRV2.out]; exact o6)
            clear o6 gr6 hat6
            go_wp2_with fail
            go_roundw
            case rel => exact ⟨k + 1, by omega, by go_num, HQ7.out⟩
            case measure => simp [intOf]; omega
        · obtain rfl : k = no := by omega
          have htk : os.take k = os := List.take_of_length_le (by rw [HNO.out]; exact Nat.le_refl _)
          have how := HQ.out.ow
          have hsm := HQ.out.sm
          rw [htk] at how hsm
          have HSM := Lib.hid hsm
          obtain ⟨a2, cap2, rfl, hcap2, _, _⟩ := own_form how
          have hS1w := HS2.out.below HQ.out.ch.below
          have hKn : K nm.data.toList = false := by
            cases hk : K nm.data.toList with
            | false => rfl
            | true =>
              have := HS2.out.nm _ hk
              rw [HNM.out] at this
              simp [nameOf] at this
          have eadd := ring_add b U 2 v pv K L 109 cm _ hS1w.rg (by omega) (by decide) hcm (by omega)
          rw [← HNM.out] at eadd
          have HW1 := Lib.hid hS1w
          have HKN := Lib.hid hKn
          have HOW := Lib.hid how
          have EADD := Lib.hid eadd
          clear hS1w hKn how eadd htk hsm
          go_wp2_with fail
          refine EADD.out.mono ?_
          rintro e w5 (⟨hk, _, _⟩ | ⟨_, rfl, ha⟩)
          · rw [HKN.out] at hk; cases hk
          · obtain ⟨v1, pv1, M, hS3, hc5, hb5⟩ := HW1.out.more HKN.out ha
            obtain ⟨ho5, hn5⟩ := row_apart HOW.out HS2.out.rg hc5 hb5
            have H3 := Lib.hid hS3
            have HO5 := Lib.hid ho5
            have HN5 := Lib.hid hn5
            clear ha hS3 hc5 hb5 ho5 hn5
            go_wp2_with fail
            go_loopw [96] (fun i wr => ∃ (q : Nat), q ≤ k ∧ i = .int .i64 (↑q : Int) ∧ Hid (Chg (fun _ => False) w5 wr)) (fun i _ => k - (intOf i).toNat)
            case atStart => exact ⟨0, by omega, rfl, Chg.refl _ _⟩
            case round =>
              obtain ⟨q, hq1, rfl, HC⟩ := hrel
              have hz5 := HC.out.size
              by_cases hlt : q < k
              · obtain ⟨o, ho⟩ : ∃ o, os[q]? = some o := ⟨_, List.getElem?_eq_getElem (by rw [HNO.out]; exact hlt)⟩
                obtain ⟨bo, off, ra, hbo, hcell⟩ := HO.out q o ho
                subst ra
                have ko : wr.cell? ⟨bo, off + q, none⟩ = some (.string o) := (HC.out.cell (Nat.lt_of_lt_of_le hbo H3.out.ch.size) id _).trans ((H3.out.ch.cell hbo (by omega) _).trans (hcell q o ho))
                have hos : o.size ≤ 100 := HSM.out o (List.mem_of_getElem? ho)
                obtain ⟨_, _, he, _, _, hc2⟩ := own_form HO5.out
                injection he with he1 _ he2
                subst he1
                obtain ⟨g, rg, hg1, hg2, hg3, _⟩ := hc2 q _ (aheadV_at ho)
                subst rg
                have kg : wr.cell? ⟨g, q, none⟩ = some (.string (ownV L o)) := (HC.out.cell hg2 id _).trans hg3
                obtain ⟨y, hy⟩ : ∃ y, ownV L o = y := ⟨_, rfl⟩
                rw [hy] at kg
                have HY := Lib.hid hy
                obtain ⟨x, hx⟩ := owner_some H3.out.ne (hashF o.data.toList)
                have HX1 := Lib.hid hx
                clear hcell ho hc2 hg3 hy hx he2
                go_wp2_with fail
                refine (ring_owner b (U + 1) v1 pv1 _ M o _ (H3.out.rg.still HC.out) (by omega) (by unfold maxLen; omega) (some x) HX1.out).mono ?_
                rintro e w6 ⟨rfl, b6⟩
                have kg6 := ((bcell b6).1 g q (cell_lt kg)).trans kg
                have HC6 := Lib.hid (HC.out.trans (Chg.ofBelow b6 (S := fun _ => False)) fun _ _ e => e)
                clear b6 ko kg
                by_cases hxa : x = y
                · subst hxa
                  go_wp2_with fail
                  go_roundw
                  case rel => exact ⟨q + 1, by omega, by go_num, HC6.out⟩
                  case measure => simp [intOf]; omega
                · have hxm : x = nm := by
                    rcases Classical.em (x = nm) with h | h
                    · exact h
                    · have := owner_more (hashF o.data.toList) H3.out.fl HX1.out h
                      exact absurd (by rw [← HY.out]; unfold ownV; rw [this]; rfl) hxa
                  subst hxm
                  have hxb := eq_bytes x y
                  simp only [hxa, decide_false] at hxb
                  go_wp2_with fail
                  go_roundw
                  case rel => exact ⟨q + 1, by omega, by go_num, HC6.out⟩
                  case measure => simp [intOf]; omega
              · obtain rfl : q = k := by omega
                have hns : nm.size ≤ maxLen := by rw [HNM.out]; show 2 ≤ maxLen; unfold maxLen; omega
                have erem := ring_remove b (U + 1) v1 pv1 _ M nm wr (H3.out.rg.still HC.out) (by omega) (by simp) hns H3.out.ne
                have ER := Lib.hid erem
                clear hns erem
                go_wp2_with fail
                refine ER.out.mono ?_
                rintro e w7 ⟨rfl, pv2, hr7, hc7, _⟩
                rw [H3.out.fl] at hr7
                have HO7 := Lib.hid (own_chg (own_chg HO5.out HC.out fun _ _ _ _ e => e) hc7 fun g _ _ hg => HN5.out g hg)
                have HC7 : Hid (Chg (fun c => w.heap.size ≤ c) w w7) := (H3.out.ch.trans HC.out fun _ _ e => e.elim).trans hc7 fun i _ e => H3.out.up i e
                have HR7 := Lib.hid hr7
                clear hr7 hc7
                go_wp2_with fail
                go_loopw [129] (fun i wr => ∃ (s : Nat), s ≤ q ∧ i = .int .i64 (↑s : Int) ∧ Hid (Chg (fun _ => False) w7 wr)) (fun i _ => q - (intOf i).toNat)
                case atStart => exact ⟨0, by omega, rfl, Chg.refl _ _⟩
                case round =>
                  obtain ⟨s, hs1, rfl, HD⟩ := hrel
                  have hz7 := HD.out.size
                  by_cases hlt2 : s < q
                  · obtain ⟨o, ho⟩ : ∃ o, os[s]? = some o := ⟨_, List.getElem?_eq_getElem (by rw [HNO.out]; exact hlt2)⟩
                    obtain ⟨bo, off, ra, hbo, hcell⟩ := HO.out s o ho
                    subst ra
                    have ko : wr.cell? ⟨bo, off + s, none⟩ = some (.string o) := (HD.out.cell (Nat.lt_of_lt_of_le hbo HC7.out.size) id _).trans ((HC7.out.cell hbo (by omega) _).trans (hcell s o ho))
                    have hos : o.size ≤ 100 := HSM.out o (List.mem_of_getElem? ho)
                    obtain ⟨_, _, he, _, _, hc2⟩ := own_form HO7.out
                    injection he with he1 _ he2
                    subst he1
                    obtain ⟨g, rg, hg1, hg2, hg3, _⟩ := hc2 s _ (aheadV_at ho)
                    subst rg
                    have kg : wr.cell? ⟨g, s, none⟩ = some (.string (ownV L o)) := (HD.out.cell hg2 id _).trans hg3
                    obtain ⟨r, hr⟩ : ∃ r, ownerL L (hashF o.data.toList) = r := ⟨_, rfl⟩
                    have hrv : ownV L o = r.getD ⟨#[]⟩ := by unfold ownV; rw [hr]
                    rw [hrv] at kg
                    have HR := Lib.hid hr
                    clear hcell ho hc2 hg3 hr hrv he2
                    go_wp2_with fail
                    refine (ring_owner b (U + 1) v1 pv2 _ L o _ (HR7.out.still HD.out) (by omega) (by unfold maxLen; omega) r HR.out).mono ?_
                    rintro e w8 ⟨rfl, b8⟩
                    have kg8 := ((bcell b8).1 g s (cell_lt kg)).trans kg
                    have HD8 := Lib.hid (HD.out.trans (Chg.ofBelow b8 (S := fun _ => False)) fun _ _ e => e)
                    clear b8 ko kg
                    obtain ⟨y, hy⟩ : ∃ y : ByteArray, y = r.getD ⟨#[]⟩ := ⟨_, rfl⟩
                    rw [← hy] at kg8 ⊢
                    clear hy
                    go_wp2_with fail
                    go_roundw
                    case rel => exact ⟨s + 1, by omega, by go_num, HD8.out⟩
                    case measure => simp [intOf]; omega
                  · obtain rfl : s = q := by omega
                    go_wp2_with fail
                    refine (alive_any _).mono ?_; rintro e w9 ⟨rfl, g9⟩
                    go_wp2
                    go_ret
                    exact ⟨rfl, up_done1 ((HC7.out.trans HD.out fun _ _ e => e.elim).trans (Chg.ofBelow g9 (S := fun _ => False)) fun _ _ e => e.elim)⟩
end Go.Proofs.YtpapfnfdaklnlaaDoor
