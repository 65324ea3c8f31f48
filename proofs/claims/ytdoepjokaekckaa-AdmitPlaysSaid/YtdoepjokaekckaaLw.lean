/- The list's call Order. -/
import Derived.Test.YtdoepjokaekckaaLk
namespace Go.Proofs.Ytdoepjokaekckaa
set_option linter.unusedVariables false
open Go.RowKit

theorem Rw.at_head {w : World} {b off : Nat} {kept : Bool} {A B : List Th} {t : Th} (h : Rw w b off kept (A ++ t :: B)) : w.cell? ⟨t.1, 0, none⟩ = some (.int .i64 t.2.1) ∧ w.cell? ⟨t.1, 3, none⟩ = some (ptr (headP B none)) := by
  have := (Lk.append.1 h.lk).2.1
  exact ⟨this.c0, this.c3⟩
set_option maxHeartbeats 2000000 in
theorem order_any (w : World) (b : Nat) (most : Int) (v : Value) (N : Nat) (T K : List Th) (h : LsR w b most v N T K) (hN : N ≤ 1000) :
    Calls Try.prog 46 #[.pointer (some ⟨b, 0, none⟩)] w (OrdPost w (keysP (prs (T ++ K)))) := by
  obtain ⟨ie, hie, ez0, ez1, ez2⟩ := info_parts infoI64
  have hl := h.len
  have k3 : w.cell? ⟨b, 3, none⟩ = some (ptr (headP T none)) := h.tr.back
  have lb : b < w.heap.size := cell_lt k3
  have HH := Lib.hid h
  clear h
  go_enter Try.func46, Try.ntmps46
  go_wp2_with fail
  go_loopw [3, 4] (fun s t wr => ∃ (A B : List Th) (a : Option Addr) (c : Nat), A.length + B.length = T.length ∧ Hid (T = A ++ B) ∧ t = ptr (headP B none) ∧ s = .slice a A.length c ∧ Hid (wr.ownsRow w.heap.size 2 1 (.slice a (keysP (prs A)).length c) (keysP (prs A)).length (nums (keysP (prs A)))) ∧ Hid (Chg (fun _ => False) w wr)) (fun s _ _ => T.length - (match s with | .slice _ n _ => n | _ => 0))
  case atStart => exact ⟨[], T, none, 0, by simp, rfl, rfl, rfl, World.ownsRow_nil _ _ _ _, Chg.refl _ _⟩
  case round =>
    obtain ⟨A, B, a, c, hlen, HT, ht, rfl, HO, HG⟩ := hrel
    cases B with
    | cons t B =>
      obtain ⟨p, x, n⟩ := t
      obtain rfl := (show _ = Value.pointer (some ⟨p, 0, none⟩) from ht)
      clear ht
      have hR := HH.out.tr
      rw [HT.out] at hR
      have c0 : wr.cell? ⟨p, 0, none⟩ = some (.int .i64 x) := by rw [HG.out.cell (cell_lt hR.at_head.1) id]; exact hR.at_head.1
      have c3 : wr.cell? ⟨p, 3, none⟩ = some (ptr (headP B none)) := by rw [HG.out.cell (cell_lt hR.at_head.1) id]; exact hR.at_head.2
      have hkl : (keysP (prs A)).length = A.length := by simp [keysP, prs]
      have HO2 := HO
      rw [hkl] at HO2
      have HKL := Lib.hid hkl
      have lp : p < wr.heap.size := cell_lt c0
      have gs := HG.out.size
      clear hR hkl
      simp only [List.length_cons] at hlen
      go_wp2_with (at_builtin; go_loud (refine list_owned rfl _ _ 35 rfl w.heap.size 2 ie _ 1 8 Try.underlying35 hie ez0 ez1 ez2 rfl (by decide) rfl rfl (HO2.out.alloc _) (nums_one _) (rd_one (u := .int .i64 x) (by go_simp) rfl) (by unfold maxLen; omega) (by omega) (by simp; omega) ?_; intro a2 c2 w2 ho2 hg2 hone2; have nb : some p ≠ (Value.slice a A.length c).ownBlock := own_ne2 HO2.out (by have := HH.out.lt p (.inr (.inr ⟨(p, x, n), by rw [HT.out]; simp, rfl⟩)); omega); have d3 : w2.cell? ⟨p, 3, none⟩ = some (ptr (headP B none)) := (by rw [hg2.cell_far _ (by simp; omega) nb]; go_simp)))
      go_roundw
      case rel =>
        have hst := nums_step HO.out HG.out (by rw [HKL.out]; exact hg2) (by rw [HKL.out]; exact ho2)
        exact ⟨A ++ [(p, x, n)], B, a2, c2, by simp; omega, by show T = _; rw [HT.out]; simp, rfl, by simp, by show World.ownsRow _ _ _ _ _ _ _; simpa [keysP, prs] using hst.1, hst.2⟩
      case measure => simp; omega
    | nil =>
      obtain rfl := (show _ = Value.pointer none from ht)
      clear ht
      have hAT : A = T := by have := HT.out; simpa using this.symm
      subst hAT
      have k6 : wr.cell? ⟨b, 6, none⟩ = some (ptr (headP K none)) := by rw [HG.out.cell lb id]; exact HH.out.kr.back
      clear HT hlen k3
      go_wp2_with fail
      go_loopw [3, 5] (fun s t wr => ∃ (B C : List Th) (a : Option Addr) (c : Nat), B.length + C.length = K.length ∧ Hid (K = B ++ C) ∧ t = ptr (headP C none) ∧ s = .slice a (A.length + B.length) c ∧ Hid (wr.ownsRow w.heap.size 2 1 (.slice a (keysP (prs (A ++ B))).length c) (keysP (prs (A ++ B))).length (nums (keysP (prs (A ++ B))))) ∧ Hid (Chg (fun _ => False) w wr)) (fun s _ _ => A.length + K.length - (match s with | .slice _ n _ => n | _ => 0))
      case atStart => exact ⟨[], K, a, c, by simp, rfl, rfl, rfl, by rw [List.append_nil]; exact HO, HG⟩
      case round =>
        obtain ⟨B, C, a, c, hlen, HT, ht, rfl, HO, HG⟩ := hrel
        cases C with
        | cons t C =>
          obtain ⟨p, x, n⟩ := t
          obtain rfl := (show _ = Value.pointer (some ⟨p, 0, none⟩) from ht)
          clear ht
          have hR := HH.out.kr
          rw [HT.out] at hR
          have c0 : wr.cell? ⟨p, 0, none⟩ = some (.int .i64 x) := by rw [HG.out.cell (cell_lt hR.at_head.1) id]; exact hR.at_head.1
          have c3 : wr.cell? ⟨p, 3, none⟩ = some (ptr (headP C none)) := by rw [HG.out.cell (cell_lt hR.at_head.1) id]; exact hR.at_head.2
          have hkl : (keysP (prs (A ++ B))).length = A.length + B.length := by simp [keysP, prs]
          have HO2 := HO
          rw [hkl] at HO2
          have HKL := Lib.hid hkl
          have lp : p < wr.heap.size := cell_lt c0
          have gs := HG.out.size
          clear hR hkl
          simp only [List.length_cons] at hlen
          go_wp2_with (at_builtin; go_loud (refine list_owned rfl _ _ 35 rfl w.heap.size 2 ie _ 1 8 Try.underlying35 hie ez0 ez1 ez2 rfl (by decide) rfl rfl (HO2.out.alloc _) (nums_one _) (rd_one (u := .int .i64 x) (by go_simp) rfl) (by unfold maxLen; omega) (by omega) (by simp; omega) ?_; intro a2 c2 w2 ho2 hg2 hone2; have nb : some p ≠ (Value.slice a (A.length + B.length) c).ownBlock := own_ne2 HO2.out (by have := HH.out.lt p (.inr (.inr ⟨(p, x, n), by rw [HT.out]; simp, rfl⟩)); omega); have d3 : w2.cell? ⟨p, 3, none⟩ = some (ptr (headP C none)) := (by rw [hg2.cell_far _ (by simp; omega) nb]; go_simp)))
          go_roundw
          case rel =>
            have hst := nums_step HO.out HG.out (by rw [HKL.out]; exact hg2) (by rw [HKL.out]; exact ho2)
            exact ⟨B ++ [(p, x, n)], C, a2, c2, by simp; omega, by show K = _; rw [HT.out]; simp, rfl, by simp; omega, by show World.ownsRow _ _ _ _ _ _ _; simpa [keysP, prs] using hst.1, hst.2⟩
          case measure => simp; omega
        | nil =>
          obtain rfl := (show _ = Value.pointer none from ht)
          clear ht
          have hBK : B = K := by have := HT.out; simpa using this.symm
          subst hBK
          have HKL : Hid ((keysP (prs (A ++ B))).length = A.length + B.length) := by show _ = _; simp [keysP, prs]
          clear hlen
          go_wp2
          go_ret
          exact ⟨a, c, by rw [HKL.out]; rfl, HO.out, HG.out⟩
end Go.Proofs.Ytdoepjokaekckaa
