/- Owners and Owner: by the points alone. -/
import Derived.Test.YtpapfnfdaklnlaaDoorRo
import Derived.Test.YtpapfnfdaklnlaaDoorRn
namespace Go.Proofs.YtpapfnfdaklnlaaDoor
set_option linter.unusedVariables false
open Go.RowKit

theorem infoStr : (Tryd.prog.info? 9).map (fun i => (i.zero, i.size, i.bytes)) = some (some (.string ⟨#[]⟩), 1, 16) := by kernel_rfl
theorem infoStr_parts : ∃ i, Tryd.prog.info? 9 = some i ∧ i.zero = some (.string ⟨#[]⟩) ∧ i.size = 1 ∧ i.bytes = 16 := by
  have h := infoStr
  cases hi : Tryd.prog.info? 9 with
  | none => rw [hi] at h; simp at h
  | some i => rw [hi] at h; simp at h; exact ⟨i, rfl, h⟩

/-- What Owners answers, asked for one. -/
def OwnersSays (w : World) (L : List Pt) (h : Int) (e : Ending) (w' : World) : Prop :=
  Below w.heap.size w w' ∧ ((L = [] ∧ e = .returned (.slice none 0 0)) ∨ ∃ x g cap, ownerL L h = some x ∧ e = .returned (.slice (some ⟨g, 0, none⟩) 1 cap) ∧ w.heap.size ≤ g ∧ w'.cell? ⟨g, 0, none⟩ = some (.string x))
set_option maxHeartbeats 8000000 in
set_option maxRecDepth 100000 in
theorem ring_owners (b U : Nat) (v pv : Value) (K : List UInt8 → Bool) (L : List Pt) (o : ByteArray) (w : World) (h : Rg w b v pv U K L) (hU : U ≤ 60) (ho : o.size ≤ maxLen) :
    Calls Tryd.prog 25 #[.pointer (some ⟨b, 0, none⟩), .string o, .int .i64 1] w fun e w' => OwnersSays w L (hashF o.data.toList) e w' := by
  have c0 := h.c0
  have c1 := h.c1
  have c2 := h.c2
  have HG := Lib.hid h
  have HO := Lib.hid ho
  have hlen := h.len
  clear h ho
  go_enter Tryd.func25, Tryd.ntmps25
  go_upto_region 1 with fail
  go_cut [7] (fun o7 wx => ∃ k : Nat, o7 = .int .i64 (↑k : Int) ∧ Hid (Place L (hashF o.data.toList) k) ∧ Hid (Below w.heap.size w wx))
  case first =>
    go_region_law (first
      | (refine step_calls (f := 18) (args := #[.string o]) (by rfl) ?hr ?_
         case hr => (go_simp; done)
         refine (hash_any _ _ HO.out).mono ?_
         rintro e V ⟨rfl, rfl⟩
         obtain ⟨x, hx⟩ : ∃ x, hashF o.data.toList = x := ⟨_, rfl⟩
         rw [hx]
         refine ⟨_, rfl, ?_⟩)
      | (refine step_calls (f := 42) (args := #[pv, .int .u64 x, .func (.func 43) #[] #[]]) (by rfl) ?hr ?_
         case hr => (go_simp; done)
         refine (search_any (HG.out.still (show Chg (fun _ => False) w _ from (by repeat (first | with_reducible exact Chg.refl _ _ | with_reducible assumption | with_reducible refine Chg.drewN ?_ _ | with_reducible refine Chg.drew ?_ | with_reducible refine Chg.alloc ?_ _ | with_reducible refine Chg.setCell ?_ (by first | (left; rfl) | (left; left; rfl) | (left; right; rfl) | (left; right; left; rfl) | (left; right; right; rfl) | (right; exact Nat.le_refl _) | (right; simp; done) | (right; omega) | (right; simp at *; omega) | (simp at *; omega)) _ | with_reducible refine Chg.trans ?_ (by with_reducible assumption) (by intro i hi hT; first | exact hT | exact False.elim hT | omega | (simp at *; omega)))))) (by omega) x).mono ?_
         rintro e V ⟨⟨k, bb, rfl, hk⟩, hbl⟩
         have HP := Lib.hid hk
         have HB := Lib.hid hbl
         clear hk hbl
         refine ⟨_, rfl, ?_⟩))
    all_goals
      go_wp2
      go_meet
      case rel => exact ⟨k, rfl, by rw [hx]; exact HP, ⟨HB.out.os, HB.out.tape, HB.out.output, HB.out.size, HB.out.block⟩⟩
  case rest =>
    obtain ⟨k, rfl, HP, HB⟩ := hcut
    have hmm := @run_makeMap Tryd.prog
    have lb := cell_lt c0
    have d0 := ((bcell HB.out).1 b 0 lb).trans c0
    have d1 := ((bcell HB.out).1 b 1 lb).trans c1
    have d2 := ((bcell HB.out).1 b 2 lb).trans c2
    have hsz := HB.out.size
    clear c0 c1 c2
    by_cases hn : L.length = 0
    · obtain rfl : L = [] := List.eq_nil_of_length_eq_zero hn
      clear hn
      obtain ⟨a, cap, rfl, _, _, _⟩ := own_form (HG.out.below HB.out).ow
      go_upto_region 4 with fail
      obtain ⟨w3, hw3⟩ : ∃ w3, w3 = wc.alloc (Obj.map #[] 0) := ⟨_, rfl⟩
      have k3 : Chg (fun _ => False) wc w3 := by subst hw3; exact (by repeat (first | with_reducible exact Chg.refl _ _ | with_reducible assumption | with_reducible refine Chg.drewN ?_ _ | with_reducible refine Chg.drew ?_ | with_reducible refine Chg.alloc ?_ _ | with_reducible refine Chg.setCell ?_ (by first | (left; rfl) | (left; left; rfl) | (left; right; rfl) | (left; right; left; rfl) | (left; right; right; rfl) | (right; exact Nat.le_refl _) | (right; simp; done) | (right; omega) | (right; simp at *; omega) | (simp at *; omega)) _ | with_reducible refine Chg.trans ?_ (by with_reducible assumption) (by intro i hi hT; first | exact hT | exact False.elim hT | omega | (simp at *; omega))))
      rw [← hw3]
      clear hw3 hmm
      have d3 : w3.cell? ⟨b, 2, none⟩ = some (.slice a 0 cap) := (k3.cell (Nat.lt_of_lt_of_le lb hsz) id 2).trans d2
      have HB3 := Lib.hid (HB.out.trans (Below.mono k3.below hsz))
      clear d0 d1 d2 k3
      go_wp2_with fail
      refine wp_loop_rounds 1 ?_
      rw [rounds_succ]
      go_wp2_with fail
      go_ret
      exact ⟨HB3.out, .inl ⟨rfl, rfl⟩⟩
    · obtain ⟨g, cap, rfl, _, hgl⟩ := (HG.out.below HB.out).ow.form (by omega)
      go_upto_region 4 with fail
      obtain ⟨w3, hw3⟩ : ∃ w3, w3 = wc.alloc (Obj.map #[] 0) := ⟨_, rfl⟩
      have k3 : Chg (fun _ => False) wc w3 := by subst hw3; exact (by repeat (first | with_reducible exact Chg.refl _ _ | with_reducible assumption | with_reducible refine Chg.drewN ?_ _ | with_reducible refine Chg.drew ?_ | with_reducible refine Chg.alloc ?_ _ | with_reducible refine Chg.setCell ?_ (by first | (left; rfl) | (left; left; rfl) | (left; right; rfl) | (left; right; left; rfl) | (left; right; right; rfl) | (right; exact Nat.le_refl _) | (right; simp; done) | (right; omega) | (right; simp at *; omega) | (simp at *; omega)) _ | with_reducible refine Chg.trans ?_ (by with_reducible assumption) (by intro i hi hT; first | exact hT | exact False.elim hT | omega | (simp at *; omega))))
      have HS3 := Lib.hid (show w3.heap.size = wc.heap.size + 1 by subst hw3; simp)
      obtain ⟨mb, hmb⟩ : ∃ mb, mb = wc.heap.size := ⟨_, rfl⟩
      have HN := Lib.hid (show NoneM w3 mb by subst hw3; subst hmb; exact noneM_made wc)
      have hmr : ∀ i, RB b v (.slice (some ⟨g, 0, none⟩) L.length cap) i → ¬ i = mb := fun i hi e => by have := (HG.out.below HB.out).lt i hi; omega
      have HMR := Lib.hid hmr
      have HMB := Lib.hid hmb
      rw [← hw3, ← hmb]
      clear hmr hmb
      clear hw3 hmm
      have lbc : b < wc.heap.size := Nat.lt_of_lt_of_le lb hsz
      have e0 := (k3.cell lbc id 0).trans d0
      have e1 := (k3.cell lbc id 1).trans d1
      have e2 := (k3.cell lbc id 2).trans d2
      clear d0 d1 d2
      have HB3 := Lib.hid (HB.out.trans (Below.mono k3.below hsz))
      have HG3 := Lib.hid (HG.out.below HB3.out)
      have hlt0 : (0 : Int) < L.length := by omega
      obtain ⟨j, hj⟩ : ∃ j, (k < L.length ∧ j = k) ∨ (L.length ≤ k ∧ j = 0) := by
        by_cases hk : k < L.length
        · exact ⟨k, .inl ⟨hk, rfl⟩⟩
        · exact ⟨0, .inr ⟨by omega, rfl⟩⟩
      have hkl := HP.out.1
      have hjl : j < L.length := by omega
      have hrem : Int.tmod (k : Int) (L.length : Int) = (j : Int) := by
        rcases hj with ⟨h1, rfl⟩ | ⟨h1, rfl⟩
        · exact Int.tmod_eq_of_lt (by omega) (by omega)
        · have : k = L.length := by omega
          rw [this, Int.tmod_self]; rfl
      obtain ⟨x, hx⟩ : ∃ x, L[j]? = some x := ⟨_, List.getElem?_eq_getElem hjl⟩
      have HX := Lib.hid hx
      have HJ := Lib.hid hj
      have HKS := Lib.hid (HG.out.has x (List.mem_of_getElem? hx)).1
      have HXS := Lib.hid (show x.2.size ≤ maxLen by rw [(HG.out.has x (List.mem_of_getElem? hx)).2]; unfold maxLen; omega)
      have p0 := (own_cell HG3.out.ow (pt_at hx).1).1
      have p1 := (own_cell HG3.out.ow (pt_at hx).2).1
      have lb3 : b < w3.heap.size := cell_lt e0
      have lg3 : g < w3.heap.size := cell_lt p0
      have hwr : IntKind.i64.wrap (k : Int) = (k : Int) := IntWalk.i64_in _ (by omega)
      have hjz : (j : Int) < (L.length : Int) := by omega
      clear hx hj
      go_wp2_with fail
      refine wp_loop_rounds 3 ?_
      rw [rounds_succ]
      go_upto_region 8 with (at_len; refine list_klen rfl _ rfl v U K rfl HG3.out.mp ?_; intro nn hn1 hn2; have hpos : 0 < nn := hn2 _ HKS.out; clear hn2)
      go_cut [12] (fun o12 wx => o12 = .pointer (some ⟨w3.heap.size, 0, none⟩) ∧ Hid (wx.cell? ⟨w3.heap.size, 1, none⟩ = some (.string x.2)) ∧ Hid (Chg (fun _ => False) w3 wx))
      case first =>
        go_region
        all_goals
          go_wp2
          go_meet
          case rel => exact ⟨rfl, Lib.hid (by go_simp), Lib.hid (by repeat (first | with_reducible exact Chg.refl _ _ | with_reducible assumption | with_reducible refine Chg.drewN ?_ _ | with_reducible refine Chg.drew ?_ | with_reducible refine Chg.alloc ?_ _ | with_reducible refine Chg.setCell ?_ (by first | (left; rfl) | (left; left; rfl) | (left; right; rfl) | (left; right; left; rfl) | (left; right; right; rfl) | (right; exact Nat.le_refl _) | (right; simp; done) | (right; omega) | (right; simp at *; omega) | (simp at *; omega)) _ | with_reducible refine Chg.trans ?_ (by with_reducible assumption) (by intro i hi hT; first | exact hT | exact False.elim hT | omega | (simp at *; omega))))⟩
      case rest =>
        obtain ⟨rfl, HC1, HC2⟩ := hcut
        obtain ⟨is, his⟩ := infoStr_parts
        have HIS := Lib.hid his
        clear his
        have q1 := HC1.out
        have HN8 := Lib.hid (HN.out.chg HC2.out id)
        have z8 := HC2.out.size
        clear e0 e1 e2 p0 p1
        go_upto_region 12 with (first
          | (at_lookup; refine list_bget rfl _ _ rfl mb rfl HN8.out x.2 rfl HXS.out ?_)
          | (at_builtin
             refine wpList_append_lies _ rfl _ _ 33 rfl 0 9 is _ 1 16 Tryd.underlying33 HIS.out.1 HIS.out.2.1 HIS.out.2.2.1 HIS.out.2.2.2 rfl (by decide) (.slice none 0 0) 0 [] rfl (World.ownsRow_nil _ _ _ _) ⟨wc.heap.size, 0, none⟩ 1 1 [.string x.2] rfl rfl (one_at _ _ _) (by intro u hu; simp at hu; rw [hu]; rfl) (by decide) (by unfold maxLen; omega) (by omega) (by simp) _ rfl ?_
             intro g2 cap2 w10 o10 gr10 hat10 hl10
             have k10 : Chg (fun _ => False) wc w10 := Chg.grown (by repeat (first | with_reducible exact Chg.refl _ _ | with_reducible assumption | with_reducible refine Chg.drewN ?_ _ | with_reducible refine Chg.drew ?_ | with_reducible refine Chg.alloc ?_ _ | with_reducible refine Chg.setCell ?_ (by first | (left; rfl) | (left; left; rfl) | (left; right; rfl) | (left; right; left; rfl) | (left; right; right; rfl) | (right; exact Nat.le_refl _) | (right; simp; done) | (right; omega) | (right; simp at *; omega) | (simp at *; omega)) _ | with_reducible refine Chg.trans ?_ (by with_reducible assumption) (by intro i hi hT; first | exact hT | exact False.elim hT | omega | (simp at *; omega)))) gr10 (by intro k hk; cases hk)
             have q2 : w10.cell? ⟨w3.heap.size, 1, none⟩ = some (.string x.2) := (k10.cell (cell_lt q1) id 1).trans q1
             have HN10 := Lib.hid (HN8.out.chg k10 id))
          | (at_mapUpdate; refine list_bput rfl _ _ _ rfl mb rfl HN10.out x.2 rfl HXS.out rfl ?_; intro w11 k11))
        have HG11 := Lib.hid (((HG3.out.still HC2.out).still k10).chg k11 fun i hi => HMR.out i hi)
        have hg2 : wc.heap.size ≤ g2 := by
          rcases hat10 with e | e
          · cases e
          · simp at e; omega
        have z3 := HS3.out
        have zb := HMB.out
        have hgm : g2 ≠ mb := by omega
        have u2 : w11.cell? ⟨g2, 0, none⟩ = some (.string x.2) := (k11.cell hl10 hgm 0).trans (own_cell (by simpa using o10) (j := 0) (u := .string x.2) (by rfl)).1
        have kk : Chg (fun _ => False) w w11 := ((((Chg.ofBelow HB3.out).trans HC2.out fun _ _ h => h).trans k10 fun _ _ h => h).trans k11 fun i hi e => by
          have e : i = mb := e
          omega)
        have how : ownerL L (hashF o.data.toList) = some x.2 := owner_at HP.out.2 HJ.out HX.out
        have FIN := Lib.hid (show Below w.heap.size w w11 ∧ ownerL L (hashF o.data.toList) = some x.2 ∧ w.heap.size ≤ g2 ∧ w11.cell? ⟨g2, 0, none⟩ = some (.string x.2) from ⟨kk.below, how, by have := HB3.out.size; omega, u2⟩)
        have r1 := HG11.out.c1
        clear o10 gr10 hat10 k11 k10 HN10 HN8 hg2 z3 zb hgm u2 kk how q1 q2 hwr hrem hn1 hpos
        go_wp2_with fail
        rw [rounds_succ]
        by_cases hl1 : 1 < L.length
        · have hl2 : (1 : Int) < L.length := by omega
          go_wp2_with (at_len; refine list_klen rfl _ rfl v U K rfl HG11.out.mp ?_; intro nn2 hn12 hn22; have hpos2 : 0 < nn2 := hn22 _ HKS.out; clear hn22)
          go_ret
          exact ⟨FIN.out.1, .inr ⟨x.2, g2, _, FIN.out.2.1, rfl, FIN.out.2.2.1, FIN.out.2.2.2⟩⟩
        · have hl2 : ¬ (1 : Int) < L.length := by omega
          go_wp2_with fail
          go_ret
          exact ⟨FIN.out.1, .inr ⟨x.2, g2, _, FIN.out.2.1, rfl, FIN.out.2.2.1, FIN.out.2.2.2⟩⟩

set_option maxHeartbeats 2000000 in
theorem ring_owner (b U : Nat) (v pv : Value) (K : List UInt8 → Bool) (L : List Pt) (o : ByteArray) (w : World) (h : Rg w b v pv U K L) (hU : U ≤ 60) (ho : o.size ≤ maxLen) (r : Option ByteArray) (hr : ownerL L (hashF o.data.toList) = r) :
    Calls Tryd.prog 11 #[.pointer (some ⟨b, 0, none⟩), .string o] w fun e w' => e = .returned (.tuple #[.string (r.getD ⟨#[]⟩), .bool r.isSome]) ∧ Below w.heap.size w w' := by
  have HO := Lib.hid ho
  have HG := Lib.hid h
  have HR := Lib.hid hr
  clear h ho hr
  go_enter Tryd.func11, Tryd.ntmps11
  go_wp2_with fail
  refine (ring_owners b U v pv K L o _ HG.out hU HO.out).mono ?_
  rintro e w1 ⟨hb, ⟨rfl, rfl⟩ | ⟨x, g, cap, hx, rfl, hg, hc⟩⟩
  · have HB := Lib.hid hb
    have hrn : none = r := HR.out
    subst hrn
    clear hb
    go_wp2
    go_ret2
    exact ⟨rfl, HB.out⟩
  · have HB := Lib.hid hb
    obtain rfl : some x = r := hx.symm.trans HR.out
    clear hb hx
    go_wp2
    go_ret2
    exact ⟨rfl, HB.out⟩
end Go.Proofs.YtpapfnfdaklnlaaDoor
