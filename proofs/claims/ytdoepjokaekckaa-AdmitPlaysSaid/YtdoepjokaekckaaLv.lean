/- The list's calls Touch, Drop, Kept, Has, Bytes. (Printed by gentouch.py.) -/
import Derived.Test.YtdoepjokaekckaaLu
namespace Go.Proofs.Ytdoepjokaekckaa
set_option linter.unusedVariables false
open Go.RowKit

section
variable {w : World} {ops : Array Oper} {rest : List Oper} {o : Oper} {a : Act} {Q : Exit → Act → World → Prop}
theorem list_look_yes (hg : o.guard = none) (m x : Operand) (hop : o.op = Op.lookup 103 m x true) (v : Value) (N : Nat) (M : Int → Option Nat) (hm : a.eval m = v) (h : MapV w v N M) (y : Int) (hx : a.eval x = .int .i64 y) (hw : (Lit.int .i64 y).wf = true) (p : Nat) (hp : M y = some p)
    (hK : wpList Try.prog ops Q rest (a.put o.dst (.tuple #[.pointer (some ⟨p, 0, none⟩), .bool true])) w) : wpList Try.prog ops Q (o :: rest) a w :=
  list_look hg m x hop v N M hm h y hx hw (by rw [hp]; exact hK)
theorem list_look_no (hg : o.guard = none) (m x : Operand) (hop : o.op = Op.lookup 103 m x true) (v : Value) (N : Nat) (M : Int → Option Nat) (hm : a.eval m = v) (h : MapV w v N M) (y : Int) (hx : a.eval x = .int .i64 y) (hw : (Lit.int .i64 y).wf = true) (hp : M y = none)
    (hK : wpList Try.prog ops Q rest (a.put o.dst (.tuple #[.pointer none, .bool false])) w) : wpList Try.prog ops Q (o :: rest) a w :=
  list_look hg m x hop v N M hm h y hx hw (by rw [hp]; exact hK)
end
theorem LsX.gone {w w' : World} {b m N : Nat} {most : Int} {T K : List Th} {t : Th} {kept : Bool} (h : LsX w b most (.map (some m)) N T K t kept) (hm : PtM w' m N (fun z => if z = t.2.1 then none else look (t :: (T ++ K)) z)) (g : Chg (fun k => k = m) w w') : LsR w' b most (.map (some m)) N T K := by
  have hmb : m ≠ b := h.mp.not rfl h.c0
  have lb := cell_lt h.c0
  have hk := h.keys
  rw [prs_cons] at hk
  simp only [keysP, List.map_cons, List.nodup_cons] at hk
  have hT : ∀ u ∈ T, ¬ u.1 = m := fun u hu e => h.mp.not rfl (Lk.lt (nxt := none) h.tr.lk u hu).2 e.symm
  have hK : ∀ u ∈ K, ¬ u.1 = m := fun u hu e => h.mp.not rfl (Lk.lt (nxt := none) h.kr.lk u hu).2 e.symm
  refine ⟨(g.cell lb (fun e => hmb e.symm) _).trans h.c0, (g.cell lb (fun e => hmb e.symm) _).trans h.c1, .inr ⟨m, rfl, hm.congr fun z => ?_⟩, h.tr.chg g (fun e => hmb e.symm) hT, h.kr.chg g (fun e => hmb e.symm) hK, h.sep, by have := h.len; omega, hk.2, fun u hu => h.bytes u (by rw [prs_cons]; exact List.mem_cons_of_mem _ hu)⟩
  rw [look_cons]
  by_cases e : z = t.2.1
  · rw [if_pos e, e]
    exact (look_none.2 hk.1).symm
  · rw [if_neg e, if_neg e]
theorem keys_split {A B : List Pt} {x n : Int} (h : (keysP (A ++ (x, n) :: B)).Nodup) : hasK A x = false ∧ hasK B x = false := by
  rw [keysP_append, List.nodup_append] at h
  have h2 := h.2.1
  simp only [keysP, List.map_cons, List.nodup_cons] at h2
  exact ⟨hasK_not.2 fun hx => h.2.2 x hx x (by simp [keysP]) rfl, hasK_not.2 h2.1⟩
theorem touch_split {most x n : Int} {T K A B : List Pt} (hk : (keysP (T ++ K)).Nodup) (h : T ++ K = A ++ (x, n) :: B) : atK (T ++ K) x = n ∧ hasK (T ++ K) x = true ∧ touchS most T K x = spill most (delK T x) (delK K x ++ [(x, n)]) := by
  have h1 := keys_split (by rw [← h]; exact hk)
  have h2 : atK (T ++ K) x = n := by rw [h, atK_split (t := (x, n)) h1.1]
  have h3 : hasK (T ++ K) x = true := by rw [h, hasK_append]; simp [hasK, isK]
  exact ⟨h2, h3, by rw [touchS, if_pos h3, h2]⟩
theorem headP_some {v : Th} {K : List Th} : ptr (headP (v :: K) none) = .pointer (some ⟨v.1, 0, none⟩) := rfl
/-- Where the things are while the kept part spills over. -/
def MidT (w : World) (b : Nat) (most : Int) (v : Value) (N : Nat) (U : Nat → Prop) (F : List Pt × List Pt) (wr : World) : Prop := ∃ T K, LsR wr b most v N T K ∧ spill most (prs T) (prs K) = F ∧ (∀ t ∈ T ++ K, U t.1) ∧ Chg U w wr
def EndT (w : World) (b : Nat) (most : Int) (v : Value) (N : Nat) (U : Nat → Prop) (F : List Pt × List Pt) (e : Ending) (w' : World) : Prop := e = .returned (.bool true) ∧ ∃ T K, LsR w' b most v N T K ∧ (prs T, prs K) = F ∧ (∀ t ∈ T ++ K, U t.1) ∧ Chg U w w'
def sumC (w : World) (b : Nat) : Nat := match w.cell? ⟨b, 7, none⟩ with | some v => (intOf v).toNat | none => 0
theorem sumC_of {w : World} {b : Nat} {most : Int} {v : Value} {N : Nat} {T K : List Th} (h : LsR w b most v N T K) : sumC w b = (sumP (prs K)).toNat := by
  have : w.cell? ⟨b, 7, none⟩ = some (.int .i64 (sumT K)) := h.kr.bytes
  rw [sumC, this, sumT_prs]; rfl
theorem spill_stop {most : Int} {T K : List Pt} (h : ¬ most < sumP K) : spill most T K = (T, K) := by
  cases K with
  | nil => rfl
  | cons v K => rw [spill, if_neg h]

set_option maxHeartbeats 1000000 in
theorem touch_no (w : World) (b : Nat) (most : Int) (v : Value) (N : Nat) (T K : List Th) (x : Int) (h : LsR w b most v N T K) (hx : (Lit.int .i64 x).wf = true) (hh : look (T ++ K) x = none) :
    Calls Try.prog 38 #[.pointer (some ⟨b, 0, none⟩), .int .i64 x] w fun e w' => e = .returned (.bool false) ∧ w = w' := by
  have c1 := h.c1
  have HM := Lib.hid h.mp
  have HL := Lib.hid hh
  clear h hh
  go_enter Try.func38, Try.ntmps38
  go_wp2_with (at_lookup; go_loud (refine list_look_no rfl _ _ rfl v N (look (T ++ K)) rfl HM.out x rfl hx HL.out ?_))
  go_ret
  exact ⟨rfl, rfl⟩
set_option maxHeartbeats 1000000 in
theorem drop_no (w : World) (b : Nat) (most : Int) (v : Value) (N : Nat) (T K : List Th) (x : Int) (h : LsR w b most v N T K) (hx : (Lit.int .i64 x).wf = true) (hh : look (T ++ K) x = none) :
    Calls Try.prog 42 #[.pointer (some ⟨b, 0, none⟩), .int .i64 x] w fun e w' => e = .returned (.bool false) ∧ w = w' := by
  have c1 := h.c1
  have HM := Lib.hid h.mp
  have HL := Lib.hid hh
  clear h hh
  go_enter Try.func42, Try.ntmps42
  go_wp2_with (at_lookup; go_loud (refine list_look_no rfl _ _ rfl v N (look (T ++ K)) rfl HM.out x rfl hx HL.out ?_))
  go_ret
  exact ⟨rfl, rfl⟩
set_option maxHeartbeats 2000000 in
theorem touch_trial (w : World) (b : Nat) (most : Int) (v : Value) (N : Nat) (A B K : List Th) (p : Nat) (x n : Int) (h : LsR w b most v N (A ++ (p, x, n) :: B) K) (h0 : 0 ≤ most) (hN : N ≤ 1000) (hx : (Lit.int .i64 x).wf = true) (hh : look ((A ++ (p, x, n) :: B) ++ K) x = some p) :
    Calls Try.prog 38 #[.pointer (some ⟨b, 0, none⟩), .int .i64 x] w (EndT w b most v N (ownL b v (A ++ (p, x, n) :: B) K) (spill most (prs (A ++ B)) (prs (K ++ [(p, x, n)])))) := by
  obtain ⟨F, hF⟩ : ∃ F, F = spill most (prs (A ++ B)) (prs (K ++ [(p, x, n)])) := ⟨_, rfl⟩
  rw [← hF]
  obtain ⟨U, hU⟩ : ∃ U, U = ownL b v (A ++ (p, x, n) :: B) K := ⟨_, rfl⟩
  rw [← hU]
  have HF := Lib.hid hF
  have hUb : U b := by rw [hU]; exact .inl rfl
  have hUt : ∀ u ∈ (A ++ (p, x, n) :: B) ++ K, U u.1 := fun u hu => by rw [hU]; exact .inr (.inr ⟨u, hu, rfl⟩)
  have HUB := Lib.hid hUb
  have HU := Lib.hid hUt
  have c1 := h.c1
  have HM := Lib.hid h.mp
  have HL := Lib.hid hh
  have HH := Lib.hid h
  have HND : ∃ y z, Nd w false (p, x, n) y z := ⟨_, _, (Lk.append.1 h.tr.lk).2.1⟩
  obtain ⟨y, z, hnd⟩ := HND
  have c2 : w.cell? ⟨p, 2, none⟩ = some (.bool false) := hnd.c2
  clear h hh hF hU hUb hUt hnd
  go_enter Try.func38, Try.ntmps38
  go_wp2_with (at_lookup; go_loud (refine list_look_yes rfl _ _ rfl v N (look ((A ++ (p, x, n) :: B) ++ K)) rfl HM.out x rfl hx p HL.out ?_))
  refine (of_trial w b p c2).mono ?_
  rintro e w1 ⟨rfl, rfl⟩
  go_wp2_with fail
  refine (pullT w b most v N A B K (p, x, n) HH.out hN).mono ?_
  rintro e w1 ⟨rfl, hX, g1⟩
  obtain ⟨y, z, hnd⟩ := hX.nd
  have d2 : w1.cell? ⟨p, 2, none⟩ = some (.bool false) := hnd.c2
  have df : ∀ o, w1.frozen? ⟨p, o, none⟩ = false := hnd.fz
  have HX := Lib.hid (hX.mark true)
  have hUP : U p := HU.out (p, x, n) (by simp)
  have G2 : Hid (Chg U w (w1.setCell ⟨p, 2, none⟩ (.bool true))) := (g1.mono fun i _ hi => by
    rcases hi with e | ⟨u, hu, e⟩
    · rw [e]; exact HUB.out
    · rw [e]; exact HU.out u hu).setCell (p := ⟨p, 2, none⟩) (.inl hUP) _
  have HUP := Lib.hid hUP
  clear hX hnd g1 c1 c2 hUP
  go_wp2_with fail
  refine (pushK _ b most v N (A ++ B) K (p, x, n) HX.out hN).mono ?_
  rintro e w3 ⟨rfl, hR, g3⟩
  have HQ : Hid (MidT w b most v N U F w3) := ⟨_, _, hR, by rw [HF.out], fun u hu => by
    simp at hu
    rcases hu with h | h | h | h
    · exact HU.out u (by simp [h])
    · exact HU.out u (by simp [h])
    · exact HU.out u (by simp [h])
    · subst h; exact HUP.out, G2.out.trans g3 fun i _ hi => by
      rcases hi with e | ⟨u, hu, e⟩
      · rw [e]; exact HUB.out
      · rw [e]
        simp at hu
        rcases hu with h | h | h | h
        · subst h; exact HUP.out
        · exact HU.out u (by simp [h])
        · exact HU.out u (by simp [h])
        · exact HU.out u (by simp [h])⟩
  clear hR g3 d2 df
  go_wp2_with fail
  go_loopw [7] (fun _ wr => Hid (MidT w b most v N U F wr)) (fun _ wr => sumC wr b)
  case atStart => exact HQ
  case round =>
    obtain ⟨T1, K1, hR, hS, hu, hg⟩ := hrel.out
    have hl := hR.len
    have hb2 := sum_bound (T := K1) (N := N) (fun u hu => hR.bytes u (by rw [prs_append]; exact List.mem_append.2 (.inr hu))) (by omega) hN
    obtain ⟨q, hq⟩ : ∃ q, q = sumT K1 := ⟨_, rfl⟩
    have k0 : wr.cell? ⟨b, 0, none⟩ = some (.int .i64 most) := hR.c0
    have k7 : wr.cell? ⟨b, 7, none⟩ = some (.int .i64 q) := by rw [hq]; exact hR.kr.bytes
    have HR := Lib.hid hR
    have HS := Lib.hid hS
    have HW := Lib.hid hu
    have HG := Lib.hid hg
    have hq' : q = sumP (prs K1) := by rw [hq, sumT_prs]
    rw [← hq] at hb2
    by_cases hlt : most < q
    · obtain ⟨⟨p1, k1, n1⟩, K2, rfl⟩ : ∃ t K2, K1 = t :: K2 := by
        cases K1 with
        | nil => simp [sumT] at hq; omega
        | cons t K2 => exact ⟨t, K2, rfl⟩
      have k6 : wr.cell? ⟨b, 6, none⟩ = some (.pointer (some ⟨p1, 0, none⟩)) := hR.kr.back
      have HQ2 := Lib.hid hq'
      clear hR hS hu hg hq hq' hrel
      go_wp2_with fail
      go_quiet (fail)
      go_wp2_with fail
      refine name_calls ?_; intro W hW
      have gW : Chg (fun _ => False) wr W := by subst hW; exact (by repeat (first | with_reducible exact Chg.refl _ _ | with_reducible assumption | with_reducible refine Chg.drewN ?_ _ | with_reducible refine Chg.drew ?_ | with_reducible refine Chg.alloc ?_ _ | with_reducible refine Chg.setCell ?_ (by first | (left; rfl) | (left; left; rfl) | (left; right; rfl) | (left; right; left; rfl) | (left; right; right; rfl) | (right; exact Nat.le_refl _) | (right; simp; done) | (right; omega) | (right; simp at *; omega) | (simp at *; omega)) _ | with_reducible refine Chg.trans ?_ (by with_reducible assumption) (by intro i hi hT; first | exact hT | exact False.elim hT | omega | (simp at *; omega))))
      clear hW
      have HR2 := Lib.hid (HR.out.chg gW (fun _ _ h => h))
      have HGW := Lib.hid gW
      clear gW
      refine (pullK W b most v N [] K2 T1 (p1, k1, n1) HR2.out hN).mono ?_
      rintro e w5 ⟨rfl, hX, g5⟩
      obtain ⟨y, z, hnd⟩ := hX.nd
      have d2 : w5.cell? ⟨p1, 2, none⟩ = some (.bool true) := hnd.c2
      have df : ∀ o, w5.frozen? ⟨p1, o, none⟩ = false := hnd.fz
      have HX2 := Lib.hid (hX.mark false)
      have HG5 := Lib.hid g5
      clear hX hnd g5
      go_wp2_with fail
      refine (pushT _ b most v N T1 ([] ++ K2) (p1, k1, n1) HX2.out hN).mono ?_
      rintro e w6 ⟨rfl, hR6, g6⟩
      have HR6 := Lib.hid hR6
      have HG6 := Lib.hid g6
      clear hR6 g6 d2 df
      go_wp2
      go_roundw
      case rel =>
        refine ⟨T1 ++ [(p1, k1, n1)], K2, HR6.out, ?_, fun u hu => HW.out u (by simp at hu ⊢; rcases hu with h | h | h <;> simp [h]), ?_⟩
        · have h1 := HS.out
          rw [prs_cons, spill, if_pos (by rw [← prs_cons, ← HQ2.out]; exact hlt)] at h1
          rw [prs_append]; exact h1
        · have hp1 : U p1 := HW.out (p1, k1, n1) (by simp)
          have h5 : Chg U wr w5 := (HGW.out.mono (T := U) fun _ _ h => h.elim).trans HG5.out fun i _ hi => by
            rcases hi with e | ⟨u, hu, e⟩
            · rw [e]; exact HUB.out
            · rw [e]; exact HW.out u (by simpa using hu)
          refine ((HG.out.trans h5 fun _ _ h => h).setCell (p := ⟨p1, 2, none⟩) (.inl hp1) _).trans HG6.out fun i _ hi => ?_
          rcases hi with e | ⟨u, hu, e⟩
          · rw [e]; exact HUB.out
          · rw [e]; exact HW.out u (by simp at hu ⊢; rcases hu with h | h | h <;> simp [h])
      case measure =>
        rw [sumC_of HR6.out, sumC_of HR.out]
        have h1 := HR.out.bytes (k1, n1) (by simp [prs])
        have h2 := sum_nonneg (l := prs K2) fun u hu => (HR.out.bytes u (by rw [prs_append, prs_cons]; exact List.mem_append.2 (.inr (List.mem_cons_of_mem _ hu)))).1
        show (sumP (prs K2)).toNat < (sumP (prs ((p1, k1, n1) :: K2))).toNat
        rw [prs_cons]; simp only [sumP] at h1 h2 ⊢; omega
    · have q1 : decide (most < q) = false := by simpa using hlt
      have HST : Hid (spill most (prs T1) (prs K1) = (prs T1, prs K1)) := spill_stop (by rw [← hq']; exact hlt)
      clear hR hS hu hg hq hq' hrel
      go_wp2_with fail
      go_quiet (fail)
      go_wp2
      go_ret
      exact ⟨rfl, T1, K1, HR.out.chg (S := fun _ => False) (by repeat (first | with_reducible exact Chg.refl _ _ | with_reducible assumption | with_reducible refine Chg.drewN ?_ _ | with_reducible refine Chg.drew ?_ | with_reducible refine Chg.alloc ?_ _ | with_reducible refine Chg.setCell ?_ (by first | (left; rfl) | (left; left; rfl) | (left; right; rfl) | (left; right; left; rfl) | (left; right; right; rfl) | (right; exact Nat.le_refl _) | (right; simp; done) | (right; omega) | (right; simp at *; omega) | (simp at *; omega)) _ | with_reducible refine Chg.trans ?_ (by with_reducible assumption) (by intro i hi hT; first | exact hT | exact False.elim hT | omega | (simp at *; omega)))) (fun _ _ h => h), by rw [← HST.out]; exact HS.out, HW.out, HG.out.trans (T := fun _ => False) (by repeat (first | with_reducible exact Chg.refl _ _ | with_reducible assumption | with_reducible refine Chg.drewN ?_ _ | with_reducible refine Chg.drew ?_ | with_reducible refine Chg.alloc ?_ _ | with_reducible refine Chg.setCell ?_ (by first | (left; rfl) | (left; left; rfl) | (left; right; rfl) | (left; right; left; rfl) | (left; right; right; rfl) | (right; exact Nat.le_refl _) | (right; simp; done) | (right; omega) | (right; simp at *; omega) | (simp at *; omega)) _ | with_reducible refine Chg.trans ?_ (by with_reducible assumption) (by intro i hi hT; first | exact hT | exact False.elim hT | omega | (simp at *; omega)))) (fun _ _ h => h.elim)⟩

set_option maxHeartbeats 2000000 in
theorem touch_kept (w : World) (b : Nat) (most : Int) (v : Value) (N : Nat) (A B T : List Th) (p : Nat) (x n : Int) (h : LsR w b most v N T (A ++ (p, x, n) :: B)) (h0 : 0 ≤ most) (hN : N ≤ 1000) (hx : (Lit.int .i64 x).wf = true) (hh : look (T ++ (A ++ (p, x, n) :: B)) x = some p) :
    Calls Try.prog 38 #[.pointer (some ⟨b, 0, none⟩), .int .i64 x] w (EndT w b most v N (ownL b v T (A ++ (p, x, n) :: B)) (spill most (prs T) (prs ((A ++ B) ++ [(p, x, n)])))) := by
  obtain ⟨F, hF⟩ : ∃ F, F = spill most (prs T) (prs ((A ++ B) ++ [(p, x, n)])) := ⟨_, rfl⟩
  rw [← hF]
  obtain ⟨U, hU⟩ : ∃ U, U = ownL b v T (A ++ (p, x, n) :: B) := ⟨_, rfl⟩
  rw [← hU]
  have HF := Lib.hid hF
  have hUb : U b := by rw [hU]; exact .inl rfl
  have hUt : ∀ u ∈ T ++ (A ++ (p, x, n) :: B), U u.1 := fun u hu => by rw [hU]; exact .inr (.inr ⟨u, hu, rfl⟩)
  have HUB := Lib.hid hUb
  have HU := Lib.hid hUt
  have c1 := h.c1
  have HM := Lib.hid h.mp
  have HL := Lib.hid hh
  have HH := Lib.hid h
  have HND : ∃ y z, Nd w true (p, x, n) y z := ⟨_, _, (Lk.append.1 h.kr.lk).2.1⟩
  obtain ⟨y, z, hnd⟩ := HND
  have c2 : w.cell? ⟨p, 2, none⟩ = some (.bool true) := hnd.c2
  clear h hh hF hU hUb hUt hnd
  go_enter Try.func38, Try.ntmps38
  go_wp2_with (at_lookup; go_loud (refine list_look_yes rfl _ _ rfl v N (look (T ++ (A ++ (p, x, n) :: B))) rfl HM.out x rfl hx p HL.out ?_))
  refine (of_kept w b p c2).mono ?_
  rintro e w1 ⟨rfl, rfl⟩
  go_wp2_with fail
  refine (pullK w b most v N A B T (p, x, n) HH.out hN).mono ?_
  rintro e w1 ⟨rfl, hX, g1⟩
  obtain ⟨y, z, hnd⟩ := hX.nd
  have d2 : w1.cell? ⟨p, 2, none⟩ = some (.bool true) := hnd.c2
  have df : ∀ o, w1.frozen? ⟨p, o, none⟩ = false := hnd.fz
  have HX := Lib.hid (hX.mark true)
  have hUP : U p := HU.out (p, x, n) (by simp)
  have G2 : Hid (Chg U w (w1.setCell ⟨p, 2, none⟩ (.bool true))) := (g1.mono fun i _ hi => by
    rcases hi with e | ⟨u, hu, e⟩
    · rw [e]; exact HUB.out
    · rw [e]; exact HU.out u hu).setCell (p := ⟨p, 2, none⟩) (.inl hUP) _
  have HUP := Lib.hid hUP
  clear hX hnd g1 c1 c2 hUP
  go_wp2_with fail
  refine (pushK _ b most v N T (A ++ B) (p, x, n) HX.out hN).mono ?_
  rintro e w3 ⟨rfl, hR, g3⟩
  have HQ : Hid (MidT w b most v N U F w3) := ⟨_, _, hR, by rw [HF.out], fun u hu => by
    simp at hu
    rcases hu with h | h | h | h
    · exact HU.out u (by simp [h])
    · exact HU.out u (by simp [h])
    · exact HU.out u (by simp [h])
    · subst h; exact HUP.out, G2.out.trans g3 fun i _ hi => by
      rcases hi with e | ⟨u, hu, e⟩
      · rw [e]; exact HUB.out
      · rw [e]
        simp at hu
        rcases hu with h | h | h | h
        · subst h; exact HUP.out
        · exact HU.out u (by simp [h])
        · exact HU.out u (by simp [h])
        · exact HU.out u (by simp [h])⟩
  clear hR g3 d2 df
  go_wp2_with fail
  go_loopw [7] (fun _ wr => Hid (MidT w b most v N U F wr)) (fun _ wr => sumC wr b)
  case atStart => exact HQ
  case round =>
    obtain ⟨T1, K1, hR, hS, hu, hg⟩ := hrel.out
    have hl := hR.len
    have hb2 := sum_bound (T := K1) (N := N) (fun u hu => hR.bytes u (by rw [prs_append]; exact List.mem_append.2 (.inr hu))) (by omega) hN
    obtain ⟨q, hq⟩ : ∃ q, q = sumT K1 := ⟨_, rfl⟩
    have k0 : wr.cell? ⟨b, 0, none⟩ = some (.int .i64 most) := hR.c0
    have k7 : wr.cell? ⟨b, 7, none⟩ = some (.int .i64 q) := by rw [hq]; exact hR.kr.bytes
    have HR := Lib.hid hR
    have HS := Lib.hid hS
    have HW := Lib.hid hu
    have HG := Lib.hid hg
    have hq' : q = sumP (prs K1) := by rw [hq, sumT_prs]
    rw [← hq] at hb2
    by_cases hlt : most < q
    · obtain ⟨⟨p1, k1, n1⟩, K2, rfl⟩ : ∃ t K2, K1 = t :: K2 := by
        cases K1 with
        | nil => simp [sumT] at hq; omega
        | cons t K2 => exact ⟨t, K2, rfl⟩
      have k6 : wr.cell? ⟨b, 6, none⟩ = some (.pointer (some ⟨p1, 0, none⟩)) := hR.kr.back
      have HQ2 := Lib.hid hq'
      clear hR hS hu hg hq hq' hrel
      go_wp2_with fail
      go_quiet (fail)
      go_wp2_with fail
      refine name_calls ?_; intro W hW
      have gW : Chg (fun _ => False) wr W := by subst hW; exact (by repeat (first | with_reducible exact Chg.refl _ _ | with_reducible assumption | with_reducible refine Chg.drewN ?_ _ | with_reducible refine Chg.drew ?_ | with_reducible refine Chg.alloc ?_ _ | with_reducible refine Chg.setCell ?_ (by first | (left; rfl) | (left; left; rfl) | (left; right; rfl) | (left; right; left; rfl) | (left; right; right; rfl) | (right; exact Nat.le_refl _) | (right; simp; done) | (right; omega) | (right; simp at *; omega) | (simp at *; omega)) _ | with_reducible refine Chg.trans ?_ (by with_reducible assumption) (by intro i hi hT; first | exact hT | exact False.elim hT | omega | (simp at *; omega))))
      clear hW
      have HR2 := Lib.hid (HR.out.chg gW (fun _ _ h => h))
      have HGW := Lib.hid gW
      clear gW
      refine (pullK W b most v N [] K2 T1 (p1, k1, n1) HR2.out hN).mono ?_
      rintro e w5 ⟨rfl, hX, g5⟩
      obtain ⟨y, z, hnd⟩ := hX.nd
      have d2 : w5.cell? ⟨p1, 2, none⟩ = some (.bool true) := hnd.c2
      have df : ∀ o, w5.frozen? ⟨p1, o, none⟩ = false := hnd.fz
      have HX2 := Lib.hid (hX.mark false)
      have HG5 := Lib.hid g5
      clear hX hnd g5
      go_wp2_with fail
      refine (pushT _ b most v N T1 ([] ++ K2) (p1, k1, n1) HX2.out hN).mono ?_
      rintro e w6 ⟨rfl, hR6, g6⟩
      have HR6 := Lib.hid hR6
      have HG6 := Lib.hid g6
      clear hR6 g6 d2 df
      go_wp2
      go_roundw
      case rel =>
        refine ⟨T1 ++ [(p1, k1, n1)], K2, HR6.out, ?_, fun u hu => HW.out u (by simp at hu ⊢; rcases hu with h | h | h <;> simp [h]), ?_⟩
        · have h1 := HS.out
          rw [prs_cons, spill, if_pos (by rw [← prs_cons, ← HQ2.out]; exact hlt)] at h1
          rw [prs_append]; exact h1
        · have hp1 : U p1 := HW.out (p1, k1, n1) (by simp)
          have h5 : Chg U wr w5 := (HGW.out.mono (T := U) fun _ _ h => h.elim).trans HG5.out fun i _ hi => by
            rcases hi with e | ⟨u, hu, e⟩
            · rw [e]; exact HUB.out
            · rw [e]; exact HW.out u (by simpa using hu)
          refine ((HG.out.trans h5 fun _ _ h => h).setCell (p := ⟨p1, 2, none⟩) (.inl hp1) _).trans HG6.out fun i _ hi => ?_
          rcases hi with e | ⟨u, hu, e⟩
          · rw [e]; exact HUB.out
          · rw [e]; exact HW.out u (by simp at hu ⊢; rcases hu with h | h | h <;> simp [h])
      case measure =>
        rw [sumC_of HR6.out, sumC_of HR.out]
        have h1 := HR.out.bytes (k1, n1) (by simp [prs])
        have h2 := sum_nonneg (l := prs K2) fun u hu => (HR.out.bytes u (by rw [prs_append, prs_cons]; exact List.mem_append.2 (.inr (List.mem_cons_of_mem _ hu)))).1
        show (sumP (prs K2)).toNat < (sumP (prs ((p1, k1, n1) :: K2))).toNat
        rw [prs_cons]; simp only [sumP] at h1 h2 ⊢; omega
    · have q1 : decide (most < q) = false := by simpa using hlt
      have HST : Hid (spill most (prs T1) (prs K1) = (prs T1, prs K1)) := spill_stop (by rw [← hq']; exact hlt)
      clear hR hS hu hg hq hq' hrel
      go_wp2_with fail
      go_quiet (fail)
      go_wp2
      go_ret
      exact ⟨rfl, T1, K1, HR.out.chg (S := fun _ => False) (by repeat (first | with_reducible exact Chg.refl _ _ | with_reducible assumption | with_reducible refine Chg.drewN ?_ _ | with_reducible refine Chg.drew ?_ | with_reducible refine Chg.alloc ?_ _ | with_reducible refine Chg.setCell ?_ (by first | (left; rfl) | (left; left; rfl) | (left; right; rfl) | (left; right; left; rfl) | (left; right; right; rfl) | (right; exact Nat.le_refl _) | (right; simp; done) | (right; omega) | (right; simp at *; omega) | (simp at *; omega)) _ | with_reducible refine Chg.trans ?_ (by with_reducible assumption) (by intro i hi hT; first | exact hT | exact False.elim hT | omega | (simp at *; omega)))) (fun _ _ h => h), by rw [← HST.out]; exact HS.out, HW.out, HG.out.trans (T := fun _ => False) (by repeat (first | with_reducible exact Chg.refl _ _ | with_reducible assumption | with_reducible refine Chg.drewN ?_ _ | with_reducible refine Chg.drew ?_ | with_reducible refine Chg.alloc ?_ _ | with_reducible refine Chg.setCell ?_ (by first | (left; rfl) | (left; left; rfl) | (left; right; rfl) | (left; right; left; rfl) | (left; right; right; rfl) | (right; exact Nat.le_refl _) | (right; simp; done) | (right; omega) | (right; simp at *; omega) | (simp at *; omega)) _ | with_reducible refine Chg.trans ?_ (by with_reducible assumption) (by intro i hi hT; first | exact hT | exact False.elim hT | omega | (simp at *; omega)))) (fun _ _ h => h.elim)⟩

def EndD (w : World) (b : Nat) (most : Int) (v : Value) (N : Nat) (T K : List Th) (U : Nat → Prop) (e : Ending) (w' : World) : Prop := e = .returned (.bool true) ∧ LsR w' b most v N T K ∧ Chg U w w'

set_option maxHeartbeats 2000000 in
theorem drop_trial (w : World) (b m : Nat) (most : Int) (N : Nat) (A B K : List Th) (p : Nat) (x n : Int) (h : LsR w b most (.map (some m)) N (A ++ (p, x, n) :: B) K) (hN : N ≤ 1000) (hx : (Lit.int .i64 x).wf = true) (hh : look ((A ++ (p, x, n) :: B) ++ K) x = some p) :
    Calls Try.prog 42 #[.pointer (some ⟨b, 0, none⟩), .int .i64 x] w (EndD w b most (.map (some m)) N (A ++ B) K (ownL b (.map (some m)) (A ++ (p, x, n) :: B) K)) := by
  have c1 := h.c1
  have HM := Lib.hid h.mp
  have HL := Lib.hid hh
  have HH := Lib.hid h
  have HND : ∃ y z, Nd w false (p, x, n) y z := ⟨_, _, (Lk.append.1 h.tr.lk).2.1⟩
  obtain ⟨y, z, hnd⟩ := HND
  have c2 : w.cell? ⟨p, 2, none⟩ = some (.bool false) := hnd.c2
  clear h hh hnd
  go_enter Try.func42, Try.ntmps42
  go_wp2_with (at_lookup; go_loud (refine list_look_yes rfl _ _ rfl (.map (some m)) N (look ((A ++ (p, x, n) :: B) ++ K)) rfl HM.out x rfl hx p HL.out ?_))
  refine (of_trial w b p c2).mono ?_
  rintro e w1 ⟨rfl, rfl⟩
  go_wp2_with fail
  refine (pullT w b most (.map (some m)) N A B K (p, x, n) HH.out hN).mono ?_
  rintro e w1 ⟨rfl, hX, g1⟩
  have j1 : w1.cell? ⟨b, 1, none⟩ = some (.map (some m)) := hX.c1
  have HMP : Hid (PtM w1 m N (look ((p, x, n) :: ((A ++ B) ++ K)))) := by
    rcases hX.mp with ⟨e1, _⟩ | ⟨m', e1, h'⟩
    · cases e1
    · injection e1 with e1; injection e1 with e1; subst e1; exact h'
  have HX := Lib.hid hX
  have HG1 := Lib.hid g1
  clear hX g1 c1 c2
  go_wp2_with (at_delete; go_loud (refine list_pdel rfl _ _ rfl m N _ rfl HMP.out x rfl hx ?_; intro w4 hm4 hg4))
  have HR := Lib.hid (HX.out.gone hm4 hg4)
  have HG4 := Lib.hid hg4
  clear hm4 hg4
  go_wp2
  go_ret
  exact ⟨rfl, HR.out, (HG1.out.mono fun i _ hi => hi.imp id .inr).trans HG4.out fun i _ hi => .inr (.inl (by rw [hi]))⟩

set_option maxHeartbeats 2000000 in
theorem drop_kept (w : World) (b m : Nat) (most : Int) (N : Nat) (A B T : List Th) (p : Nat) (x n : Int) (h : LsR w b most (.map (some m)) N T (A ++ (p, x, n) :: B)) (hN : N ≤ 1000) (hx : (Lit.int .i64 x).wf = true) (hh : look (T ++ (A ++ (p, x, n) :: B)) x = some p) :
    Calls Try.prog 42 #[.pointer (some ⟨b, 0, none⟩), .int .i64 x] w (EndD w b most (.map (some m)) N T (A ++ B) (ownL b (.map (some m)) T (A ++ (p, x, n) :: B))) := by
  have c1 := h.c1
  have HM := Lib.hid h.mp
  have HL := Lib.hid hh
  have HH := Lib.hid h
  have HND : ∃ y z, Nd w true (p, x, n) y z := ⟨_, _, (Lk.append.1 h.kr.lk).2.1⟩
  obtain ⟨y, z, hnd⟩ := HND
  have c2 : w.cell? ⟨p, 2, none⟩ = some (.bool true) := hnd.c2
  clear h hh hnd
  go_enter Try.func42, Try.ntmps42
  go_wp2_with (at_lookup; go_loud (refine list_look_yes rfl _ _ rfl (.map (some m)) N (look (T ++ (A ++ (p, x, n) :: B))) rfl HM.out x rfl hx p HL.out ?_))
  refine (of_kept w b p c2).mono ?_
  rintro e w1 ⟨rfl, rfl⟩
  go_wp2_with fail
  refine (pullK w b most (.map (some m)) N A B T (p, x, n) HH.out hN).mono ?_
  rintro e w1 ⟨rfl, hX, g1⟩
  have j1 : w1.cell? ⟨b, 1, none⟩ = some (.map (some m)) := hX.c1
  have HMP : Hid (PtM w1 m N (look ((p, x, n) :: (T ++ (A ++ B))))) := by
    rcases hX.mp with ⟨e1, _⟩ | ⟨m', e1, h'⟩
    · cases e1
    · injection e1 with e1; injection e1 with e1; subst e1; exact h'
  have HX := Lib.hid hX
  have HG1 := Lib.hid g1
  clear hX g1 c1 c2
  go_wp2_with (at_delete; go_loud (refine list_pdel rfl _ _ rfl m N _ rfl HMP.out x rfl hx ?_; intro w4 hm4 hg4))
  have HR := Lib.hid (HX.out.gone hm4 hg4)
  have HG4 := Lib.hid hg4
  clear hm4 hg4
  go_wp2
  go_ret
  exact ⟨rfl, HR.out, (HG1.out.mono fun i _ hi => hi.imp id .inr).trans HG4.out fun i _ hi => .inr (.inl (by rw [hi]))⟩
end Go.Proofs.Ytdoepjokaekckaa
