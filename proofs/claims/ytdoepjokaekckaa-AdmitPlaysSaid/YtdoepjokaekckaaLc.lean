/- A row: pull. (Printed by genrow.py.) -/
import Derived.Test.YtdoepjokaekckaaLb
namespace Go.Proofs.Ytdoepjokaekckaa
set_option linter.unusedVariables false
open Go.RowKit

set_option maxHeartbeats 1000000 in
set_option maxRecDepth 100000 in
theorem pull_alone (w : World) (b off : Nat) (kept : Bool) (t : Th) (hw : Rw w b off kept (t :: [])) (hn : 0 ≤ t.2.2 ∧ t.2.2 ≤ 1099511627776) (hs : 0 ≤ sumT ([]) ∧ sumT ([]) ≤ 1152921504606846976) :
    Calls Try.prog 62 #[.pointer (some ⟨b, off, none⟩), .pointer (some ⟨t.1, 0, none⟩)] w fun e w' => e = .returned (.tuple #[]) ∧ Rw w' b off kept ([]) ∧ (∃ x y, Nd w' kept t x y) ∧ Chg (fun k => k = b) w w' ∧ Keep b off w w' := by
  obtain ⟨p, key, n⟩ := t
  have hlk := hw.lk
  have ht := hlk.1
  have hb : p ≠ b := hw.apart (p, key, n) (by simp)
  have hone := hw.one
  have hone2 := hone
  obtain ⟨s, hs'⟩ : ∃ s, s = sumT ([]) := ⟨_, rfl⟩
  rw [← hs'] at hs
  have cb0 : w.cell? ⟨b, off, none⟩ = some (.pointer (some ⟨p, 0, none⟩)) := by have h := hw.front; exact h
  have cb1 : w.cell? ⟨b, off + 1, none⟩ = some (.pointer (some ⟨p, 0, none⟩)) := by exact hw.back
  have cb2 : w.cell? ⟨b, off + 2, none⟩ = some (.int .i64 (n + s)) := by have h := hw.bytes; rw [show sumT ((p, key, n) :: []) = n + s by rw [hs']; simp only [sumT] <;> omega] at h; exact h
  have zb := hw.fz
  have cp0 : w.cell? ⟨p, 0, none⟩ = some (.int .i64 key) := by exact ht.c0
  have cp1 : w.cell? ⟨p, 1, none⟩ = some (.int .i64 n) := by exact ht.c1
  have cp2 : w.cell? ⟨p, 2, none⟩ = some (.bool kept) := by exact ht.c2
  have cp3 : w.cell? ⟨p, 3, none⟩ = some (.pointer none) := by exact ht.c3
  have cp4 : w.cell? ⟨p, 4, none⟩ = some (.pointer none) := by exact ht.c4
  have zp : ∀ o, w.frozen? ⟨p, o, none⟩ = false := ht.fz
  have HW := Lib.hid hw
  have HLK := Lib.hid hlk
  have HS := Lib.hid hs'
  have HO := Lib.hid hone
  have HO2 := Lib.hid hone2
  simp only at hn
  clear hw hlk ht   hs' hone hone2 
  have G : Chg (fun k => k = b) w w := Chg.refl _ _
  have K : Hid (Keep b off w w) := Keep.refl _ _ _
  go_enter Try.func62, Try.ntmps62
  go_wp2_with fail
  have kO := K.out
  clear K
  refine name_region ?_; intro W3 hW
  have mb0 : W3.cell? ⟨b, off, none⟩ = some (.pointer none) := by subst hW; go_simp
  have mb1 : W3.cell? ⟨b, off + 1, none⟩ = some (.pointer none) := by subst hW; go_simp
  have mb2 : W3.cell? ⟨b, off + 2, none⟩ = some (.int .i64 (n + s)) := by subst hW; go_simp
  have mp0 : W3.cell? ⟨p, 0, none⟩ = some (.int .i64 key) := by subst hW; go_simp
  have mp1 : W3.cell? ⟨p, 1, none⟩ = some (.int .i64 n) := by subst hW; go_simp
  have mp2 : W3.cell? ⟨p, 2, none⟩ = some (.bool kept) := by subst hW; go_simp
  have mp3 : W3.cell? ⟨p, 3, none⟩ = some (.pointer none) := by subst hW; go_simp
  have mp4 : W3.cell? ⟨p, 4, none⟩ = some (.pointer none) := by subst hW; go_simp
  have mzb : ∀ o, W3.frozen? ⟨b, o, none⟩ = false := by subst hW; intro o; go_simp
  have mzp : ∀ o, W3.frozen? ⟨p, o, none⟩ = false := by subst hW; intro o; go_simp
  have gW : Chg (fun k => k = b) w W3 := by subst hW; exact (by repeat (first | with_reducible exact Chg.refl _ _ | with_reducible assumption | with_reducible refine Chg.drewN ?_ _ | with_reducible refine Chg.drew ?_ | with_reducible refine Chg.alloc ?_ _ | with_reducible refine Chg.setCell ?_ (by first | (left; rfl) | (left; left; rfl) | (left; right; rfl) | (left; right; left; rfl) | (left; right; right; rfl) | (right; exact Nat.le_refl _) | (right; simp; done) | (right; omega) | (right; simp at *; omega) | (simp at *; omega)) _ | with_reducible refine Chg.trans ?_ (by with_reducible assumption) (by intro i hi hT; first | exact hT | exact False.elim hT | omega | (simp at *; omega))))
  have kW : Keep b off w W3 := by subst hW; exact (by repeat (first | with_reducible exact Keep.refl _ _ _ | with_reducible assumption | with_reducible refine Keep.set ?_ (by first | (left; simp only; omega) | (right; simp only; omega)) _))
  clear hW cb0 cb1 cb2 cp0 cp1 cp2 cp3 cp4 zb zp G kO
  have lb : b < W3.heap.size := cell_lt mb0
  have lp : p < W3.heap.size := cell_lt mp0
  have KW := Lib.hid kW
  clear kW
  (have hN : W3.heap.size ≤ (World.heap W3).size := by first | assumption | exact Nat.le_refl _ | (simp; done) | omega | (simp; omega) | (simp at *; omega)); (have kr := fun d os b o (h : b < W3.heap.size) => (below_regrown W3 d os).cell (p := ⟨b, o, none⟩) (Nat.lt_of_lt_of_le h hN)); (refine wp_region_below_tail 11 (by kernel_rfl) (by kernel_rfl) ?_); (simp only [List.take_succ_cons, List.take_zero, List.drop_succ_cons, List.drop_zero]); (repeat (first | go_big_quiet_step ((first | fail)) | quiet_step ((first | fail)))); (refine wpQuiet_nil ?_); (intro w3 hw9); (obtain ⟨⟨dq, osq⟩, hw9⟩ := hw9); (have g9 := below_regrown W3 dq osq); (rw [← hw9] at g9); (have g3 : Below (W3.heap.size) _ w3 := g9.mono hN); (have z3 : W3.heap.size ≤ w3.heap.size := Nat.le_trans hN g9.size); (have c3 := fun b o h => g3.cell (p := ⟨b, o, none⟩) h); (have f3 := fun b o h => g3.frozen (p := ⟨b, o, none⟩) h); (clear hw9 kr hN g9)
  have e : ∀ q o, q < W3.heap.size → w3.cell? ⟨q, o, none⟩ = W3.cell? ⟨q, o, none⟩ := fun q o h => c3 q o h
  have cb0 : w3.cell? ⟨b, off, none⟩ = some (.pointer none) := by rw [e b _ lb]; exact mb0
  have cb1 : w3.cell? ⟨b, off + 1, none⟩ = some (.pointer none) := by rw [e b _ lb]; exact mb1
  have cb2 : w3.cell? ⟨b, off + 2, none⟩ = some (.int .i64 (n + s)) := by rw [e b _ lb]; exact mb2
  have cp0 : w3.cell? ⟨p, 0, none⟩ = some (.int .i64 key) := by rw [e p _ lp]; exact mp0
  have cp1 : w3.cell? ⟨p, 1, none⟩ = some (.int .i64 n) := by rw [e p _ lp]; exact mp1
  have cp2 : w3.cell? ⟨p, 2, none⟩ = some (.bool kept) := by rw [e p _ lp]; exact mp2
  have cp3 : w3.cell? ⟨p, 3, none⟩ = some (.pointer none) := by rw [e p _ lp]; exact mp3
  have cp4 : w3.cell? ⟨p, 4, none⟩ = some (.pointer none) := by rw [e p _ lp]; exact mp4
  have zb : ∀ o, w3.frozen? ⟨b, o, none⟩ = false := fun o => by rw [f3 b o lb]; exact mzb o
  have zp : ∀ o, w3.frozen? ⟨p, o, none⟩ = false := fun o => by rw [f3 p o lp]; exact mzp o
  have g9 : Chg (fun _ => False) W3 w3 := ⟨g3.os, g3.tape, g3.output, z3, fun k hk _ => g3.block k hk⟩
  have G : Chg (fun k => k = b) w w3 := gW.trans g9 (fun _ _ h => h.elim)
  have K : Hid (Keep b off w w3) := KW.out.trans (Keep.chg g9 id lb)
  clear e gW g9 KW mb0 mb1 mb2 mp0 mp1 mp2 mp3 mp4 mzb mzp lb lp g3 c3 f3 z3
  go_wp2
  go_end0
  have hns : n + s - n = s := by omega
  try rw [hns]
  have K1 := K.out
  have KF : Keep b off w (w3.setCell ⟨b, off + 2, none⟩ (.int .i64 s)) := Keep.set K1 (.inr ⟨by simp, by simp⟩) _
  have GF : Chg (fun k => k = b) w (w3.setCell ⟨b, off + 2, none⟩ (.int .i64 s)) := Chg.setCell G (p := ⟨b, off + 2, none⟩) (.inl rfl) _
  have nep : ∀ o o', (⟨b, o, none⟩ : Addr) ≠ ⟨p, o', none⟩ := fun o o' h => by injection h with h1; exact hb h1.symm
  have hsub : ([]).Sublist ((p, key, n) :: []) := (List.sublist_cons_self _ _)
  refine ⟨rfl, ⟨?_, ?_, ?_, fun o => by rw [World.frozen?_setCell]; exact zb o, trivial, fun x hx => HW.out.apart x (hsub.subset hx), HW.out.one.sublist (hsub.map _)⟩, ⟨none, none, ⟨by rw [cell_other (nep _ _)]; first | exact cp0 | rw [cp0], by rw [cell_other (nep _ _)]; first | exact cp1 | rw [cp1], by rw [cell_other (nep _ _)]; first | exact cp2 | rw [cp2], by rw [cell_other (nep _ _)]; exact cp3, by rw [cell_other (nep _ _)]; first | exact cp4 | rw [cp4], fun o => by rw [World.frozen?_setCell]; exact zp o⟩⟩, GF, KF⟩
  · rw [cell_other (by simp), cb0] <;> rfl
  · rw [cell_other (by simp), cb1] <;> rfl
  · rw [cell_same cb2, HS.out]

set_option maxHeartbeats 1000000 in
set_option maxRecDepth 100000 in
theorem pull_back (w : World) (b off : Nat) (kept : Bool) (t : Th) (v : Th) (B : List Th) (hw : Rw w b off kept (t :: v :: B)) (hn : 0 ≤ t.2.2 ∧ t.2.2 ≤ 1099511627776) (hs : 0 ≤ sumT (v :: B) ∧ sumT (v :: B) ≤ 1152921504606846976) :
    Calls Try.prog 62 #[.pointer (some ⟨b, off, none⟩), .pointer (some ⟨t.1, 0, none⟩)] w fun e w' => e = .returned (.tuple #[]) ∧ Rw w' b off kept (v :: B) ∧ (∃ x y, Nd w' kept t x y) ∧ Chg (fun k => k = b ∨ k = v.1) w w' ∧ Keep b off w w' := by
  obtain ⟨p, key, n⟩ := t
  obtain ⟨v, vk, vn⟩ := v
  have hlk := hw.lk
  have ht := hlk.1
  have hv := hlk.2.1
  have hb : p ≠ b := hw.apart (p, key, n) (by simp)
  have hvb : v ≠ b := hw.apart (v, vk, vn) (by simp)
  have hone := hw.one
  have hone2 := hone
  simp only [List.map_cons, List.nodup_cons, List.mem_cons, not_or] at hone2
  have hpv : p ≠ v := hone2.1.1
  obtain ⟨s, hs'⟩ : ∃ s, s = sumT ((v, vk, vn) :: B) := ⟨_, rfl⟩
  rw [← hs'] at hs
  obtain ⟨fr, hfr⟩ : ∃ fr, fr = ptr (lastP none ((p, key, n) :: (v, vk, vn) :: B)) := ⟨_, rfl⟩
  have cb0 : w.cell? ⟨b, off, none⟩ = some (fr) := by rw [hfr]; exact hw.front
  have cb1 : w.cell? ⟨b, off + 1, none⟩ = some (.pointer (some ⟨p, 0, none⟩)) := by exact hw.back
  have cb2 : w.cell? ⟨b, off + 2, none⟩ = some (.int .i64 (n + s)) := by have h := hw.bytes; rw [show sumT ((p, key, n) :: (v, vk, vn) :: B) = n + s by rw [hs']; simp only [sumT] <;> omega] at h; exact h
  have zb := hw.fz
  have cp0 : w.cell? ⟨p, 0, none⟩ = some (.int .i64 key) := by exact ht.c0
  have cp1 : w.cell? ⟨p, 1, none⟩ = some (.int .i64 n) := by exact ht.c1
  have cp2 : w.cell? ⟨p, 2, none⟩ = some (.bool kept) := by exact ht.c2
  have cp3 : w.cell? ⟨p, 3, none⟩ = some (.pointer (some ⟨v, 0, none⟩)) := by exact ht.c3
  have cp4 : w.cell? ⟨p, 4, none⟩ = some (.pointer none) := by exact ht.c4
  have zp : ∀ o, w.frozen? ⟨p, o, none⟩ = false := ht.fz
  obtain ⟨nx, hnx⟩ : ∃ nx, nx = ptr (headP B none) := ⟨_, rfl⟩
  have cv0 : w.cell? ⟨v, 0, none⟩ = some (.int .i64 vk) := by exact hv.c0
  have cv1 : w.cell? ⟨v, 1, none⟩ = some (.int .i64 vn) := by exact hv.c1
  have cv2 : w.cell? ⟨v, 2, none⟩ = some (.bool kept) := by exact hv.c2
  have cv3 : w.cell? ⟨v, 3, none⟩ = some (nx) := by rw [hnx]; exact hv.c3
  have cv4 : w.cell? ⟨v, 4, none⟩ = some (.pointer (some ⟨p, 0, none⟩)) := by exact hv.c4
  have zv : ∀ o, w.frozen? ⟨v, o, none⟩ = false := hv.fz
  have HW := Lib.hid hw
  have HLK := Lib.hid hlk
  have HS := Lib.hid hs'
  have HO := Lib.hid hone
  have HO2 := Lib.hid hone2
  have Hhfr := Lib.hid hfr
  have Hhnx := Lib.hid hnx
  simp only at hn
  clear hw hlk ht  hv hs' hone hone2 hfr hnx
  have G : Chg (fun k => k = b ∨ k = v) w w := Chg.refl _ _
  have K : Hid (Keep b off w w) := Keep.refl _ _ _
  go_enter Try.func62, Try.ntmps62
  go_wp2_with fail
  have kO := K.out
  clear K
  refine name_region ?_; intro W3 hW
  have mb0 : W3.cell? ⟨b, off, none⟩ = some (fr) := by subst hW; go_simp
  have mb1 : W3.cell? ⟨b, off + 1, none⟩ = some (.pointer (some ⟨p, 0, none⟩)) := by subst hW; go_simp
  have mb2 : W3.cell? ⟨b, off + 2, none⟩ = some (.int .i64 (n + s)) := by subst hW; go_simp
  have mp0 : W3.cell? ⟨p, 0, none⟩ = some (.int .i64 key) := by subst hW; go_simp
  have mp1 : W3.cell? ⟨p, 1, none⟩ = some (.int .i64 n) := by subst hW; go_simp
  have mp2 : W3.cell? ⟨p, 2, none⟩ = some (.bool kept) := by subst hW; go_simp
  have mp3 : W3.cell? ⟨p, 3, none⟩ = some (.pointer (some ⟨v, 0, none⟩)) := by subst hW; go_simp
  have mp4 : W3.cell? ⟨p, 4, none⟩ = some (.pointer none) := by subst hW; go_simp
  have mv0 : W3.cell? ⟨v, 0, none⟩ = some (.int .i64 vk) := by subst hW; go_simp
  have mv1 : W3.cell? ⟨v, 1, none⟩ = some (.int .i64 vn) := by subst hW; go_simp
  have mv2 : W3.cell? ⟨v, 2, none⟩ = some (.bool kept) := by subst hW; go_simp
  have mv3 : W3.cell? ⟨v, 3, none⟩ = some (nx) := by subst hW; go_simp
  have mv4 : W3.cell? ⟨v, 4, none⟩ = some (.pointer (some ⟨p, 0, none⟩)) := by subst hW; go_simp
  have mzb : ∀ o, W3.frozen? ⟨b, o, none⟩ = false := by subst hW; intro o; go_simp
  have mzp : ∀ o, W3.frozen? ⟨p, o, none⟩ = false := by subst hW; intro o; go_simp
  have mzv : ∀ o, W3.frozen? ⟨v, o, none⟩ = false := by subst hW; intro o; go_simp
  have gW : Chg (fun k => k = b ∨ k = v) w W3 := by subst hW; exact (by repeat (first | with_reducible exact Chg.refl _ _ | with_reducible assumption | with_reducible refine Chg.drewN ?_ _ | with_reducible refine Chg.drew ?_ | with_reducible refine Chg.alloc ?_ _ | with_reducible refine Chg.setCell ?_ (by first | (left; rfl) | (left; left; rfl) | (left; right; rfl) | (left; right; left; rfl) | (left; right; right; rfl) | (right; exact Nat.le_refl _) | (right; simp; done) | (right; omega) | (right; simp at *; omega) | (simp at *; omega)) _ | with_reducible refine Chg.trans ?_ (by with_reducible assumption) (by intro i hi hT; first | exact hT | exact False.elim hT | omega | (simp at *; omega))))
  have kW : Keep b off w W3 := by subst hW; exact (by repeat (first | with_reducible exact Keep.refl _ _ _ | with_reducible assumption | with_reducible refine Keep.set ?_ (by first | (left; simp only; omega) | (right; simp only; omega)) _))
  clear hW cb0 cb1 cb2 cp0 cp1 cp2 cp3 cp4 cv0 cv1 cv2 cv3 cv4 zb zp zv G kO
  have lb : b < W3.heap.size := cell_lt mb0
  have lp : p < W3.heap.size := cell_lt mp0
  have lv : v < W3.heap.size := cell_lt mv0
  have KW := Lib.hid kW
  clear kW
  (have hN : W3.heap.size ≤ (World.heap W3).size := by first | assumption | exact Nat.le_refl _ | (simp; done) | omega | (simp; omega) | (simp at *; omega)); (have kr := fun d os b o (h : b < W3.heap.size) => (below_regrown W3 d os).cell (p := ⟨b, o, none⟩) (Nat.lt_of_lt_of_le h hN)); (refine wp_region_below_tail 10 (by kernel_rfl) (by kernel_rfl) ?_); (simp only [List.take_succ_cons, List.take_zero, List.drop_succ_cons, List.drop_zero]); (repeat (first | go_big_quiet_step ((first | fail)) | quiet_step ((first | fail)))); (refine wpQuiet_nil ?_); (intro w3 hw9); (obtain ⟨⟨dq, osq⟩, hw9⟩ := hw9); (have g9 := below_regrown W3 dq osq); (rw [← hw9] at g9); (have g3 : Below (W3.heap.size) _ w3 := g9.mono hN); (have z3 : W3.heap.size ≤ w3.heap.size := Nat.le_trans hN g9.size); (have c3 := fun b o h => g3.cell (p := ⟨b, o, none⟩) h); (have f3 := fun b o h => g3.frozen (p := ⟨b, o, none⟩) h); (clear hw9 kr hN g9)
  have e : ∀ q o, q < W3.heap.size → w3.cell? ⟨q, o, none⟩ = W3.cell? ⟨q, o, none⟩ := fun q o h => c3 q o h
  have cb0 : w3.cell? ⟨b, off, none⟩ = some (fr) := by rw [e b _ lb]; exact mb0
  have cb1 : w3.cell? ⟨b, off + 1, none⟩ = some (.pointer (some ⟨p, 0, none⟩)) := by rw [e b _ lb]; exact mb1
  have cb2 : w3.cell? ⟨b, off + 2, none⟩ = some (.int .i64 (n + s)) := by rw [e b _ lb]; exact mb2
  have cp0 : w3.cell? ⟨p, 0, none⟩ = some (.int .i64 key) := by rw [e p _ lp]; exact mp0
  have cp1 : w3.cell? ⟨p, 1, none⟩ = some (.int .i64 n) := by rw [e p _ lp]; exact mp1
  have cp2 : w3.cell? ⟨p, 2, none⟩ = some (.bool kept) := by rw [e p _ lp]; exact mp2
  have cp3 : w3.cell? ⟨p, 3, none⟩ = some (.pointer (some ⟨v, 0, none⟩)) := by rw [e p _ lp]; exact mp3
  have cp4 : w3.cell? ⟨p, 4, none⟩ = some (.pointer none) := by rw [e p _ lp]; exact mp4
  have cv0 : w3.cell? ⟨v, 0, none⟩ = some (.int .i64 vk) := by rw [e v _ lv]; exact mv0
  have cv1 : w3.cell? ⟨v, 1, none⟩ = some (.int .i64 vn) := by rw [e v _ lv]; exact mv1
  have cv2 : w3.cell? ⟨v, 2, none⟩ = some (.bool kept) := by rw [e v _ lv]; exact mv2
  have cv3 : w3.cell? ⟨v, 3, none⟩ = some (nx) := by rw [e v _ lv]; exact mv3
  have cv4 : w3.cell? ⟨v, 4, none⟩ = some (.pointer (some ⟨p, 0, none⟩)) := by rw [e v _ lv]; exact mv4
  have zb : ∀ o, w3.frozen? ⟨b, o, none⟩ = false := fun o => by rw [f3 b o lb]; exact mzb o
  have zp : ∀ o, w3.frozen? ⟨p, o, none⟩ = false := fun o => by rw [f3 p o lp]; exact mzp o
  have zv : ∀ o, w3.frozen? ⟨v, o, none⟩ = false := fun o => by rw [f3 v o lv]; exact mzv o
  have g9 : Chg (fun _ => False) W3 w3 := ⟨g3.os, g3.tape, g3.output, z3, fun k hk _ => g3.block k hk⟩
  have G : Chg (fun k => k = b ∨ k = v) w w3 := gW.trans g9 (fun _ _ h => h.elim)
  have K : Hid (Keep b off w w3) := KW.out.trans (Keep.chg g9 id lb)
  clear e gW g9 KW mb0 mb1 mb2 mp0 mp1 mp2 mp3 mp4 mv0 mv1 mv2 mv3 mv4 mzb mzp mzv lb lp lv g3 c3 f3 z3
  go_wp2_with fail
  have kO := K.out
  clear K
  refine name_region ?_; intro W4 hW
  have mb0 : W4.cell? ⟨b, off, none⟩ = some (fr) := by subst hW; go_simp
  have mb1 : W4.cell? ⟨b, off + 1, none⟩ = some (.pointer (some ⟨v, 0, none⟩)) := by subst hW; go_simp
  have mb2 : W4.cell? ⟨b, off + 2, none⟩ = some (.int .i64 (n + s)) := by subst hW; go_simp
  have mp0 : W4.cell? ⟨p, 0, none⟩ = some (.int .i64 key) := by subst hW; go_simp
  have mp1 : W4.cell? ⟨p, 1, none⟩ = some (.int .i64 n) := by subst hW; go_simp
  have mp2 : W4.cell? ⟨p, 2, none⟩ = some (.bool kept) := by subst hW; go_simp
  have mp3 : W4.cell? ⟨p, 3, none⟩ = some (.pointer (some ⟨v, 0, none⟩)) := by subst hW; go_simp
  have mp4 : W4.cell? ⟨p, 4, none⟩ = some (.pointer none) := by subst hW; go_simp
  have mv0 : W4.cell? ⟨v, 0, none⟩ = some (.int .i64 vk) := by subst hW; go_simp
  have mv1 : W4.cell? ⟨v, 1, none⟩ = some (.int .i64 vn) := by subst hW; go_simp
  have mv2 : W4.cell? ⟨v, 2, none⟩ = some (.bool kept) := by subst hW; go_simp
  have mv3 : W4.cell? ⟨v, 3, none⟩ = some (nx) := by subst hW; go_simp
  have mv4 : W4.cell? ⟨v, 4, none⟩ = some (.pointer none) := by subst hW; go_simp
  have mzb : ∀ o, W4.frozen? ⟨b, o, none⟩ = false := by subst hW; intro o; go_simp
  have mzp : ∀ o, W4.frozen? ⟨p, o, none⟩ = false := by subst hW; intro o; go_simp
  have mzv : ∀ o, W4.frozen? ⟨v, o, none⟩ = false := by subst hW; intro o; go_simp
  have gW : Chg (fun k => k = b ∨ k = v) w W4 := by subst hW; exact (by repeat (first | with_reducible exact Chg.refl _ _ | with_reducible assumption | with_reducible refine Chg.drewN ?_ _ | with_reducible refine Chg.drew ?_ | with_reducible refine Chg.alloc ?_ _ | with_reducible refine Chg.setCell ?_ (by first | (left; rfl) | (left; left; rfl) | (left; right; rfl) | (left; right; left; rfl) | (left; right; right; rfl) | (right; exact Nat.le_refl _) | (right; simp; done) | (right; omega) | (right; simp at *; omega) | (simp at *; omega)) _ | with_reducible refine Chg.trans ?_ (by with_reducible assumption) (by intro i hi hT; first | exact hT | exact False.elim hT | omega | (simp at *; omega))))
  have kW : Keep b off w W4 := by subst hW; exact (by repeat (first | with_reducible exact Keep.refl _ _ _ | with_reducible assumption | with_reducible refine Keep.set ?_ (by first | (left; simp only; omega) | (right; simp only; omega)) _))
  clear hW cb0 cb1 cb2 cp0 cp1 cp2 cp3 cp4 cv0 cv1 cv2 cv3 cv4 zb zp zv G kO
  have lb : b < W4.heap.size := cell_lt mb0
  have lp : p < W4.heap.size := cell_lt mp0
  have lv : v < W4.heap.size := cell_lt mv0
  have KW := Lib.hid kW
  clear kW
  (have hN : W4.heap.size ≤ (World.heap W4).size := by first | assumption | exact Nat.le_refl _ | (simp; done) | omega | (simp; omega) | (simp at *; omega)); (have kr := fun d os b o (h : b < W4.heap.size) => (below_regrown W4 d os).cell (p := ⟨b, o, none⟩) (Nat.lt_of_lt_of_le h hN)); (refine wp_region_below_tail 11 (by kernel_rfl) (by kernel_rfl) ?_); (simp only [List.take_succ_cons, List.take_zero, List.drop_succ_cons, List.drop_zero]); (repeat (first | go_big_quiet_step ((first | fail)) | quiet_step ((first | fail)))); (refine wpQuiet_nil ?_); (intro w4 hw9); (obtain ⟨⟨dq, osq⟩, hw9⟩ := hw9); (have g9 := below_regrown W4 dq osq); (rw [← hw9] at g9); (have g4 : Below (W4.heap.size) _ w4 := g9.mono hN); (have z4 : W4.heap.size ≤ w4.heap.size := Nat.le_trans hN g9.size); (have c4 := fun b o h => g4.cell (p := ⟨b, o, none⟩) h); (have f4 := fun b o h => g4.frozen (p := ⟨b, o, none⟩) h); (clear hw9 kr hN g9)
  have e : ∀ q o, q < W4.heap.size → w4.cell? ⟨q, o, none⟩ = W4.cell? ⟨q, o, none⟩ := fun q o h => c4 q o h
  have cb0 : w4.cell? ⟨b, off, none⟩ = some (fr) := by rw [e b _ lb]; exact mb0
  have cb1 : w4.cell? ⟨b, off + 1, none⟩ = some (.pointer (some ⟨v, 0, none⟩)) := by rw [e b _ lb]; exact mb1
  have cb2 : w4.cell? ⟨b, off + 2, none⟩ = some (.int .i64 (n + s)) := by rw [e b _ lb]; exact mb2
  have cp0 : w4.cell? ⟨p, 0, none⟩ = some (.int .i64 key) := by rw [e p _ lp]; exact mp0
  have cp1 : w4.cell? ⟨p, 1, none⟩ = some (.int .i64 n) := by rw [e p _ lp]; exact mp1
  have cp2 : w4.cell? ⟨p, 2, none⟩ = some (.bool kept) := by rw [e p _ lp]; exact mp2
  have cp3 : w4.cell? ⟨p, 3, none⟩ = some (.pointer (some ⟨v, 0, none⟩)) := by rw [e p _ lp]; exact mp3
  have cp4 : w4.cell? ⟨p, 4, none⟩ = some (.pointer none) := by rw [e p _ lp]; exact mp4
  have cv0 : w4.cell? ⟨v, 0, none⟩ = some (.int .i64 vk) := by rw [e v _ lv]; exact mv0
  have cv1 : w4.cell? ⟨v, 1, none⟩ = some (.int .i64 vn) := by rw [e v _ lv]; exact mv1
  have cv2 : w4.cell? ⟨v, 2, none⟩ = some (.bool kept) := by rw [e v _ lv]; exact mv2
  have cv3 : w4.cell? ⟨v, 3, none⟩ = some (nx) := by rw [e v _ lv]; exact mv3
  have cv4 : w4.cell? ⟨v, 4, none⟩ = some (.pointer none) := by rw [e v _ lv]; exact mv4
  have zb : ∀ o, w4.frozen? ⟨b, o, none⟩ = false := fun o => by rw [f4 b o lb]; exact mzb o
  have zp : ∀ o, w4.frozen? ⟨p, o, none⟩ = false := fun o => by rw [f4 p o lp]; exact mzp o
  have zv : ∀ o, w4.frozen? ⟨v, o, none⟩ = false := fun o => by rw [f4 v o lv]; exact mzv o
  have g9 : Chg (fun _ => False) W4 w4 := ⟨g4.os, g4.tape, g4.output, z4, fun k hk _ => g4.block k hk⟩
  have G : Chg (fun k => k = b ∨ k = v) w w4 := gW.trans g9 (fun _ _ h => h.elim)
  have K : Hid (Keep b off w w4) := KW.out.trans (Keep.chg g9 id lb)
  clear e gW g9 KW mb0 mb1 mb2 mp0 mp1 mp2 mp3 mp4 mv0 mv1 mv2 mv3 mv4 mzb mzp mzv lb lp lv g4 c4 f4 z4
  go_wp2
  go_end0
  have hns : n + s - n = s := by omega
  try rw [hns]
  have K1 := K.out
  have KF : Keep b off w (w4.setCell ⟨b, off + 2, none⟩ (.int .i64 s)) := Keep.set K1 (.inr ⟨by simp, by simp⟩) _
  have GF : Chg (fun k => k = b ∨ k = v) w (w4.setCell ⟨b, off + 2, none⟩ (.int .i64 s)) := Chg.setCell G (p := ⟨b, off + 2, none⟩) (.inl (.inl rfl)) _
  have nep : ∀ o o', (⟨b, o, none⟩ : Addr) ≠ ⟨p, o', none⟩ := fun o o' h => by injection h with h1; exact hb h1.symm
  have nev : ∀ o o', (⟨b, o, none⟩ : Addr) ≠ ⟨v, o', none⟩ := fun o o' h => by injection h with h1; exact hvb h1.symm
  have hsub : ((v, vk, vn) :: B).Sublist ((p, key, n) :: (v, vk, vn) :: B) := (List.sublist_cons_self _ _)
  have LB : Lk (w4.setCell ⟨b, off + 2, none⟩ (.int .i64 s)) kept (some v) none B := Lk.chg GF HLK.out.2.2 fun x hx hS => (hS.elim (fun h => HW.out.apart x (by simp [hx]) h) fun h => HO2.out.2.1 (List.mem_map.2 ⟨x, hx, h⟩))
  have NV : Nd (w4.setCell ⟨b, off + 2, none⟩ (.int .i64 s)) kept (v, vk, vn) none (headP B none) := ⟨by rw [cell_other (nev _ _)]; first | exact cv0 | rw [cv0], by rw [cell_other (nev _ _)]; first | exact cv1 | rw [cv1], by rw [cell_other (nev _ _)]; first | exact cv2 | rw [cv2], by rw [cell_other (nev _ _)]; first | exact cv3 | rw [cv3, Hhnx.out], by rw [cell_other (nev _ _)]; first | exact cv4 | rw [cv4], fun o => by rw [World.frozen?_setCell]; exact zv o⟩
  refine ⟨rfl, ⟨?_, ?_, ?_, fun o => by rw [World.frozen?_setCell]; exact zb o, ⟨NV, LB⟩, fun x hx => HW.out.apart x (hsub.subset hx), HW.out.one.sublist (hsub.map _)⟩, ⟨none, some v, ⟨by rw [cell_other (nep _ _)]; first | exact cp0 | rw [cp0], by rw [cell_other (nep _ _)]; first | exact cp1 | rw [cp1], by rw [cell_other (nep _ _)]; first | exact cp2 | rw [cp2], by rw [cell_other (nep _ _)]; exact cp3, by rw [cell_other (nep _ _)]; first | exact cp4 | rw [cp4], fun o => by rw [World.frozen?_setCell]; exact zp o⟩⟩, GF, KF⟩
  · rw [cell_other (by simp), cb0, Hhfr.out] <;> rfl
  · rw [cell_other (by simp), cb1] <;> rfl
  · rw [cell_same cb2, HS.out]

set_option maxHeartbeats 1000000 in
set_option maxRecDepth 100000 in
theorem pull_front (w : World) (b off : Nat) (kept : Bool) (t : Th) (u : Th) (A : List Th) (hw : Rw w b off kept (A ++ u :: t :: [])) (hn : 0 ≤ t.2.2 ∧ t.2.2 ≤ 1099511627776) (hs : 0 ≤ sumT (A ++ u :: []) ∧ sumT (A ++ u :: []) ≤ 1152921504606846976) :
    Calls Try.prog 62 #[.pointer (some ⟨b, off, none⟩), .pointer (some ⟨t.1, 0, none⟩)] w fun e w' => e = .returned (.tuple #[]) ∧ Rw w' b off kept (A ++ u :: []) ∧ (∃ x y, Nd w' kept t x y) ∧ Chg (fun k => k = b ∨ k = u.1) w w' ∧ Keep b off w w' := by
  obtain ⟨p, key, n⟩ := t
  obtain ⟨u, uk, un⟩ := u
  have hlk := Lk.append.1 hw.lk
  have ht := hlk.2.2.1
  have hu := hlk.2.1
  have hb : p ≠ b := hw.apart (p, key, n) (by simp)
  have hub : u ≠ b := hw.apart (u, uk, un) (by simp)
  have hone := hw.one
  rw [List.map_append, List.nodup_append] at hone
  have hone2 := hone.2.1
  simp at hone2
  have hup : u ≠ p := hone2
  obtain ⟨s, hs'⟩ : ∃ s, s = sumT (A ++ (u, uk, un) :: []) := ⟨_, rfl⟩
  rw [← hs'] at hs
  have cb0 : w.cell? ⟨b, off, none⟩ = some (.pointer (some ⟨p, 0, none⟩)) := by have h := hw.front; rw [lastP_append] at h; exact h
  obtain ⟨bk, hbk⟩ : ∃ bk, bk = ptr (headP (A ++ (u, uk, un) :: (p, key, n) :: []) none) := ⟨_, rfl⟩
  have cb1 : w.cell? ⟨b, off + 1, none⟩ = some (bk) := by rw [hbk]; exact hw.back
  have cb2 : w.cell? ⟨b, off + 2, none⟩ = some (.int .i64 (n + s)) := by have h := hw.bytes; rw [show sumT (A ++ (u, uk, un) :: (p, key, n) :: []) = n + s by rw [hs']; rw [sumT_append, sumT_append]; simp only [sumT] <;> omega] at h; exact h
  have zb := hw.fz
  have cp0 : w.cell? ⟨p, 0, none⟩ = some (.int .i64 key) := by exact ht.c0
  have cp1 : w.cell? ⟨p, 1, none⟩ = some (.int .i64 n) := by exact ht.c1
  have cp2 : w.cell? ⟨p, 2, none⟩ = some (.bool kept) := by exact ht.c2
  have cp3 : w.cell? ⟨p, 3, none⟩ = some (.pointer none) := by exact ht.c3
  have cp4 : w.cell? ⟨p, 4, none⟩ = some (.pointer (some ⟨u, 0, none⟩)) := by exact ht.c4
  have zp : ∀ o, w.frozen? ⟨p, o, none⟩ = false := ht.fz
  obtain ⟨d, hd⟩ : ∃ d, d = ptr (lastP none A) := ⟨_, rfl⟩
  have cu0 : w.cell? ⟨u, 0, none⟩ = some (.int .i64 uk) := by exact hu.c0
  have cu1 : w.cell? ⟨u, 1, none⟩ = some (.int .i64 un) := by exact hu.c1
  have cu2 : w.cell? ⟨u, 2, none⟩ = some (.bool kept) := by exact hu.c2
  have cu3 : w.cell? ⟨u, 3, none⟩ = some (.pointer (some ⟨p, 0, none⟩)) := by exact hu.c3
  have cu4 : w.cell? ⟨u, 4, none⟩ = some (d) := by rw [hd]; exact hu.c4
  have zu : ∀ o, w.frozen? ⟨u, o, none⟩ = false := hu.fz
  have HW := Lib.hid hw
  have HLK := Lib.hid hlk
  have HS := Lib.hid hs'
  have HO := Lib.hid hone
  have HO2 := Lib.hid hone2
  have Hhbk := Lib.hid hbk
  have Hhd := Lib.hid hd
  simp only at hn
  clear hw hlk ht hu  hs' hone hone2 hbk hd
  have G : Chg (fun k => k = b ∨ k = u) w w := Chg.refl _ _
  have K : Hid (Keep b off w w) := Keep.refl _ _ _
  go_enter Try.func62, Try.ntmps62
  go_wp2_with fail
  have kO := K.out
  clear K
  refine name_region ?_; intro W3 hW
  have mb0 : W3.cell? ⟨b, off, none⟩ = some (.pointer (some ⟨u, 0, none⟩)) := by subst hW; go_simp
  have mb1 : W3.cell? ⟨b, off + 1, none⟩ = some (bk) := by subst hW; go_simp
  have mb2 : W3.cell? ⟨b, off + 2, none⟩ = some (.int .i64 (n + s)) := by subst hW; go_simp
  have mp0 : W3.cell? ⟨p, 0, none⟩ = some (.int .i64 key) := by subst hW; go_simp
  have mp1 : W3.cell? ⟨p, 1, none⟩ = some (.int .i64 n) := by subst hW; go_simp
  have mp2 : W3.cell? ⟨p, 2, none⟩ = some (.bool kept) := by subst hW; go_simp
  have mp3 : W3.cell? ⟨p, 3, none⟩ = some (.pointer none) := by subst hW; go_simp
  have mp4 : W3.cell? ⟨p, 4, none⟩ = some (.pointer (some ⟨u, 0, none⟩)) := by subst hW; go_simp
  have mu0 : W3.cell? ⟨u, 0, none⟩ = some (.int .i64 uk) := by subst hW; go_simp
  have mu1 : W3.cell? ⟨u, 1, none⟩ = some (.int .i64 un) := by subst hW; go_simp
  have mu2 : W3.cell? ⟨u, 2, none⟩ = some (.bool kept) := by subst hW; go_simp
  have mu3 : W3.cell? ⟨u, 3, none⟩ = some (.pointer (some ⟨p, 0, none⟩)) := by subst hW; go_simp
  have mu4 : W3.cell? ⟨u, 4, none⟩ = some (d) := by subst hW; go_simp
  have mzb : ∀ o, W3.frozen? ⟨b, o, none⟩ = false := by subst hW; intro o; go_simp
  have mzp : ∀ o, W3.frozen? ⟨p, o, none⟩ = false := by subst hW; intro o; go_simp
  have mzu : ∀ o, W3.frozen? ⟨u, o, none⟩ = false := by subst hW; intro o; go_simp
  have gW : Chg (fun k => k = b ∨ k = u) w W3 := by subst hW; exact (by repeat (first | with_reducible exact Chg.refl _ _ | with_reducible assumption | with_reducible refine Chg.drewN ?_ _ | with_reducible refine Chg.drew ?_ | with_reducible refine Chg.alloc ?_ _ | with_reducible refine Chg.setCell ?_ (by first | (left; rfl) | (left; left; rfl) | (left; right; rfl) | (left; right; left; rfl) | (left; right; right; rfl) | (right; exact Nat.le_refl _) | (right; simp; done) | (right; omega) | (right; simp at *; omega) | (simp at *; omega)) _ | with_reducible refine Chg.trans ?_ (by with_reducible assumption) (by intro i hi hT; first | exact hT | exact False.elim hT | omega | (simp at *; omega))))
  have kW : Keep b off w W3 := by subst hW; exact (by repeat (first | with_reducible exact Keep.refl _ _ _ | with_reducible assumption | with_reducible refine Keep.set ?_ (by first | (left; simp only; omega) | (right; simp only; omega)) _))
  clear hW cb0 cb1 cb2 cp0 cp1 cp2 cp3 cp4 cu0 cu1 cu2 cu3 cu4 zb zp zu G kO
  have lb : b < W3.heap.size := cell_lt mb0
  have lp : p < W3.heap.size := cell_lt mp0
  have lu : u < W3.heap.size := cell_lt mu0
  have KW := Lib.hid kW
  clear kW
  (have hN : W3.heap.size ≤ (World.heap W3).size := by first | assumption | exact Nat.le_refl _ | (simp; done) | omega | (simp; omega) | (simp at *; omega)); (have kr := fun d os b o (h : b < W3.heap.size) => (below_regrown W3 d os).cell (p := ⟨b, o, none⟩) (Nat.lt_of_lt_of_le h hN)); (refine wp_region_below_tail 10 (by kernel_rfl) (by kernel_rfl) ?_); (simp only [List.take_succ_cons, List.take_zero, List.drop_succ_cons, List.drop_zero]); (repeat (first | go_big_quiet_step ((first | fail)) | quiet_step ((first | fail)))); (refine wpQuiet_nil ?_); (intro w3 hw9); (obtain ⟨⟨dq, osq⟩, hw9⟩ := hw9); (have g9 := below_regrown W3 dq osq); (rw [← hw9] at g9); (have g3 : Below (W3.heap.size) _ w3 := g9.mono hN); (have z3 : W3.heap.size ≤ w3.heap.size := Nat.le_trans hN g9.size); (have c3 := fun b o h => g3.cell (p := ⟨b, o, none⟩) h); (have f3 := fun b o h => g3.frozen (p := ⟨b, o, none⟩) h); (clear hw9 kr hN g9)
  have e : ∀ q o, q < W3.heap.size → w3.cell? ⟨q, o, none⟩ = W3.cell? ⟨q, o, none⟩ := fun q o h => c3 q o h
  have cb0 : w3.cell? ⟨b, off, none⟩ = some (.pointer (some ⟨u, 0, none⟩)) := by rw [e b _ lb]; exact mb0
  have cb1 : w3.cell? ⟨b, off + 1, none⟩ = some (bk) := by rw [e b _ lb]; exact mb1
  have cb2 : w3.cell? ⟨b, off + 2, none⟩ = some (.int .i64 (n + s)) := by rw [e b _ lb]; exact mb2
  have cp0 : w3.cell? ⟨p, 0, none⟩ = some (.int .i64 key) := by rw [e p _ lp]; exact mp0
  have cp1 : w3.cell? ⟨p, 1, none⟩ = some (.int .i64 n) := by rw [e p _ lp]; exact mp1
  have cp2 : w3.cell? ⟨p, 2, none⟩ = some (.bool kept) := by rw [e p _ lp]; exact mp2
  have cp3 : w3.cell? ⟨p, 3, none⟩ = some (.pointer none) := by rw [e p _ lp]; exact mp3
  have cp4 : w3.cell? ⟨p, 4, none⟩ = some (.pointer (some ⟨u, 0, none⟩)) := by rw [e p _ lp]; exact mp4
  have cu0 : w3.cell? ⟨u, 0, none⟩ = some (.int .i64 uk) := by rw [e u _ lu]; exact mu0
  have cu1 : w3.cell? ⟨u, 1, none⟩ = some (.int .i64 un) := by rw [e u _ lu]; exact mu1
  have cu2 : w3.cell? ⟨u, 2, none⟩ = some (.bool kept) := by rw [e u _ lu]; exact mu2
  have cu3 : w3.cell? ⟨u, 3, none⟩ = some (.pointer (some ⟨p, 0, none⟩)) := by rw [e u _ lu]; exact mu3
  have cu4 : w3.cell? ⟨u, 4, none⟩ = some (d) := by rw [e u _ lu]; exact mu4
  have zb : ∀ o, w3.frozen? ⟨b, o, none⟩ = false := fun o => by rw [f3 b o lb]; exact mzb o
  have zp : ∀ o, w3.frozen? ⟨p, o, none⟩ = false := fun o => by rw [f3 p o lp]; exact mzp o
  have zu : ∀ o, w3.frozen? ⟨u, o, none⟩ = false := fun o => by rw [f3 u o lu]; exact mzu o
  have g9 : Chg (fun _ => False) W3 w3 := ⟨g3.os, g3.tape, g3.output, z3, fun k hk _ => g3.block k hk⟩
  have G : Chg (fun k => k = b ∨ k = u) w w3 := gW.trans g9 (fun _ _ h => h.elim)
  have K : Hid (Keep b off w w3) := KW.out.trans (Keep.chg g9 id lb)
  clear e gW g9 KW mb0 mb1 mb2 mp0 mp1 mp2 mp3 mp4 mu0 mu1 mu2 mu3 mu4 mzb mzp mzu lb lp lu g3 c3 f3 z3
  go_wp2_with fail
  have kO := K.out
  clear K
  refine name_region ?_; intro W4 hW
  have mb0 : W4.cell? ⟨b, off, none⟩ = some (.pointer (some ⟨u, 0, none⟩)) := by subst hW; go_simp
  have mb1 : W4.cell? ⟨b, off + 1, none⟩ = some (bk) := by subst hW; go_simp
  have mb2 : W4.cell? ⟨b, off + 2, none⟩ = some (.int .i64 (n + s)) := by subst hW; go_simp
  have mp0 : W4.cell? ⟨p, 0, none⟩ = some (.int .i64 key) := by subst hW; go_simp
  have mp1 : W4.cell? ⟨p, 1, none⟩ = some (.int .i64 n) := by subst hW; go_simp
  have mp2 : W4.cell? ⟨p, 2, none⟩ = some (.bool kept) := by subst hW; go_simp
  have mp3 : W4.cell? ⟨p, 3, none⟩ = some (.pointer none) := by subst hW; go_simp
  have mp4 : W4.cell? ⟨p, 4, none⟩ = some (.pointer (some ⟨u, 0, none⟩)) := by subst hW; go_simp
  have mu0 : W4.cell? ⟨u, 0, none⟩ = some (.int .i64 uk) := by subst hW; go_simp
  have mu1 : W4.cell? ⟨u, 1, none⟩ = some (.int .i64 un) := by subst hW; go_simp
  have mu2 : W4.cell? ⟨u, 2, none⟩ = some (.bool kept) := by subst hW; go_simp
  have mu3 : W4.cell? ⟨u, 3, none⟩ = some (.pointer none) := by subst hW; go_simp
  have mu4 : W4.cell? ⟨u, 4, none⟩ = some (d) := by subst hW; go_simp
  have mzb : ∀ o, W4.frozen? ⟨b, o, none⟩ = false := by subst hW; intro o; go_simp
  have mzp : ∀ o, W4.frozen? ⟨p, o, none⟩ = false := by subst hW; intro o; go_simp
  have mzu : ∀ o, W4.frozen? ⟨u, o, none⟩ = false := by subst hW; intro o; go_simp
  have gW : Chg (fun k => k = b ∨ k = u) w W4 := by subst hW; exact (by repeat (first | with_reducible exact Chg.refl _ _ | with_reducible assumption | with_reducible refine Chg.drewN ?_ _ | with_reducible refine Chg.drew ?_ | with_reducible refine Chg.alloc ?_ _ | with_reducible refine Chg.setCell ?_ (by first | (left; rfl) | (left; left; rfl) | (left; right; rfl) | (left; right; left; rfl) | (left; right; right; rfl) | (right; exact Nat.le_refl _) | (right; simp; done) | (right; omega) | (right; simp at *; omega) | (simp at *; omega)) _ | with_reducible refine Chg.trans ?_ (by with_reducible assumption) (by intro i hi hT; first | exact hT | exact False.elim hT | omega | (simp at *; omega))))
  have kW : Keep b off w W4 := by subst hW; exact (by repeat (first | with_reducible exact Keep.refl _ _ _ | with_reducible assumption | with_reducible refine Keep.set ?_ (by first | (left; simp only; omega) | (right; simp only; omega)) _))
  clear hW cb0 cb1 cb2 cp0 cp1 cp2 cp3 cp4 cu0 cu1 cu2 cu3 cu4 zb zp zu G kO
  have lb : b < W4.heap.size := cell_lt mb0
  have lp : p < W4.heap.size := cell_lt mp0
  have lu : u < W4.heap.size := cell_lt mu0
  have KW := Lib.hid kW
  clear kW
  (have hN : W4.heap.size ≤ (World.heap W4).size := by first | assumption | exact Nat.le_refl _ | (simp; done) | omega | (simp; omega) | (simp at *; omega)); (have kr := fun d os b o (h : b < W4.heap.size) => (below_regrown W4 d os).cell (p := ⟨b, o, none⟩) (Nat.lt_of_lt_of_le h hN)); (refine wp_region_below_tail 11 (by kernel_rfl) (by kernel_rfl) ?_); (simp only [List.take_succ_cons, List.take_zero, List.drop_succ_cons, List.drop_zero]); (repeat (first | go_big_quiet_step ((first | fail)) | quiet_step ((first | fail)))); (refine wpQuiet_nil ?_); (intro w4 hw9); (obtain ⟨⟨dq, osq⟩, hw9⟩ := hw9); (have g9 := below_regrown W4 dq osq); (rw [← hw9] at g9); (have g4 : Below (W4.heap.size) _ w4 := g9.mono hN); (have z4 : W4.heap.size ≤ w4.heap.size := Nat.le_trans hN g9.size); (have c4 := fun b o h => g4.cell (p := ⟨b, o, none⟩) h); (have f4 := fun b o h => g4.frozen (p := ⟨b, o, none⟩) h); (clear hw9 kr hN g9)
  have e : ∀ q o, q < W4.heap.size → w4.cell? ⟨q, o, none⟩ = W4.cell? ⟨q, o, none⟩ := fun q o h => c4 q o h
  have cb0 : w4.cell? ⟨b, off, none⟩ = some (.pointer (some ⟨u, 0, none⟩)) := by rw [e b _ lb]; exact mb0
  have cb1 : w4.cell? ⟨b, off + 1, none⟩ = some (bk) := by rw [e b _ lb]; exact mb1
  have cb2 : w4.cell? ⟨b, off + 2, none⟩ = some (.int .i64 (n + s)) := by rw [e b _ lb]; exact mb2
  have cp0 : w4.cell? ⟨p, 0, none⟩ = some (.int .i64 key) := by rw [e p _ lp]; exact mp0
  have cp1 : w4.cell? ⟨p, 1, none⟩ = some (.int .i64 n) := by rw [e p _ lp]; exact mp1
  have cp2 : w4.cell? ⟨p, 2, none⟩ = some (.bool kept) := by rw [e p _ lp]; exact mp2
  have cp3 : w4.cell? ⟨p, 3, none⟩ = some (.pointer none) := by rw [e p _ lp]; exact mp3
  have cp4 : w4.cell? ⟨p, 4, none⟩ = some (.pointer (some ⟨u, 0, none⟩)) := by rw [e p _ lp]; exact mp4
  have cu0 : w4.cell? ⟨u, 0, none⟩ = some (.int .i64 uk) := by rw [e u _ lu]; exact mu0
  have cu1 : w4.cell? ⟨u, 1, none⟩ = some (.int .i64 un) := by rw [e u _ lu]; exact mu1
  have cu2 : w4.cell? ⟨u, 2, none⟩ = some (.bool kept) := by rw [e u _ lu]; exact mu2
  have cu3 : w4.cell? ⟨u, 3, none⟩ = some (.pointer none) := by rw [e u _ lu]; exact mu3
  have cu4 : w4.cell? ⟨u, 4, none⟩ = some (d) := by rw [e u _ lu]; exact mu4
  have zb : ∀ o, w4.frozen? ⟨b, o, none⟩ = false := fun o => by rw [f4 b o lb]; exact mzb o
  have zp : ∀ o, w4.frozen? ⟨p, o, none⟩ = false := fun o => by rw [f4 p o lp]; exact mzp o
  have zu : ∀ o, w4.frozen? ⟨u, o, none⟩ = false := fun o => by rw [f4 u o lu]; exact mzu o
  have g9 : Chg (fun _ => False) W4 w4 := ⟨g4.os, g4.tape, g4.output, z4, fun k hk _ => g4.block k hk⟩
  have G : Chg (fun k => k = b ∨ k = u) w w4 := gW.trans g9 (fun _ _ h => h.elim)
  have K : Hid (Keep b off w w4) := KW.out.trans (Keep.chg g9 id lb)
  clear e gW g9 KW mb0 mb1 mb2 mp0 mp1 mp2 mp3 mp4 mu0 mu1 mu2 mu3 mu4 mzb mzp mzu lb lp lu g4 c4 f4 z4
  go_wp2
  go_end0
  have hns : n + s - n = s := by omega
  try rw [hns]
  have K1 := K.out
  have KF : Keep b off w (w4.setCell ⟨b, off + 2, none⟩ (.int .i64 s)) := Keep.set K1 (.inr ⟨by simp, by simp⟩) _
  have GF : Chg (fun k => k = b ∨ k = u) w (w4.setCell ⟨b, off + 2, none⟩ (.int .i64 s)) := Chg.setCell G (p := ⟨b, off + 2, none⟩) (.inl (.inl rfl)) _
  have nep : ∀ o o', (⟨b, o, none⟩ : Addr) ≠ ⟨p, o', none⟩ := fun o o' h => by injection h with h1; exact hb h1.symm
  have neu : ∀ o o', (⟨b, o, none⟩ : Addr) ≠ ⟨u, o', none⟩ := fun o o' h => by injection h with h1; exact hub h1.symm
  have hsub : (A ++ (u, uk, un) :: []).Sublist (A ++ (u, uk, un) :: (p, key, n) :: []) := ((List.Sublist.refl A).append ((List.sublist_cons_self _ _).cons_cons (u, uk, un)))
  have LA : Lk (w4.setCell ⟨b, off + 2, none⟩ (.int .i64 s)) kept none (some u) A := Lk.chg GF HLK.out.1 fun x hx hS => (hS.elim (fun h => HW.out.apart x (by simp [hx]) h) fun h => HO.out.2.2 x.1 (List.mem_map.2 ⟨x, hx, rfl⟩) u (by simp) h)
  have NU : Nd (w4.setCell ⟨b, off + 2, none⟩ (.int .i64 s)) kept (u, uk, un) (lastP none A) none := ⟨by rw [cell_other (neu _ _)]; first | exact cu0 | rw [cu0], by rw [cell_other (neu _ _)]; first | exact cu1 | rw [cu1], by rw [cell_other (neu _ _)]; first | exact cu2 | rw [cu2], by rw [cell_other (neu _ _)]; first | exact cu3 | rw [cu3], by rw [cell_other (neu _ _)]; first | exact cu4 | rw [cu4, Hhd.out], fun o => by rw [World.frozen?_setCell]; exact zu o⟩
  refine ⟨rfl, ⟨?_, ?_, ?_, fun o => by rw [World.frozen?_setCell]; exact zb o, Lk.append.2 ⟨LA, NU, trivial⟩, fun x hx => HW.out.apart x (hsub.subset hx), HW.out.one.sublist (hsub.map _)⟩, ⟨some u, none, ⟨by rw [cell_other (nep _ _)]; first | exact cp0 | rw [cp0], by rw [cell_other (nep _ _)]; first | exact cp1 | rw [cp1], by rw [cell_other (nep _ _)]; first | exact cp2 | rw [cp2], by rw [cell_other (nep _ _)]; exact cp3, by rw [cell_other (nep _ _)]; first | exact cp4 | rw [cp4], fun o => by rw [World.frozen?_setCell]; exact zp o⟩⟩, GF, KF⟩
  · rw [cell_other (by simp), cb0, lastP_append] <;> rfl
  · rw [cell_other (by simp), cb1]; rw [Hhbk.out]; cases A <;> rfl
  · rw [cell_same cb2, HS.out]

set_option maxHeartbeats 1000000 in
set_option maxRecDepth 100000 in
theorem pull_mid (w : World) (b off : Nat) (kept : Bool) (t : Th) (u : Th) (v : Th) (A : List Th) (B : List Th) (hw : Rw w b off kept (A ++ u :: t :: v :: B)) (hn : 0 ≤ t.2.2 ∧ t.2.2 ≤ 1099511627776) (hs : 0 ≤ sumT (A ++ u :: v :: B) ∧ sumT (A ++ u :: v :: B) ≤ 1152921504606846976) :
    Calls Try.prog 62 #[.pointer (some ⟨b, off, none⟩), .pointer (some ⟨t.1, 0, none⟩)] w fun e w' => e = .returned (.tuple #[]) ∧ Rw w' b off kept (A ++ u :: v :: B) ∧ (∃ x y, Nd w' kept t x y) ∧ Chg (fun k => k = b ∨ k = u.1 ∨ k = v.1) w w' ∧ Keep b off w w' := by
  obtain ⟨p, key, n⟩ := t
  obtain ⟨u, uk, un⟩ := u
  obtain ⟨v, vk, vn⟩ := v
  have hlk := Lk.append.1 hw.lk
  have ht := hlk.2.2.1
  have hu := hlk.2.1
  have hv := hlk.2.2.2.1
  have hb : p ≠ b := hw.apart (p, key, n) (by simp)
  have hub : u ≠ b := hw.apart (u, uk, un) (by simp)
  have hvb : v ≠ b := hw.apart (v, vk, vn) (by simp)
  have hone := hw.one
  rw [List.map_append, List.nodup_append] at hone
  have hone2 := hone.2.1
  simp only [List.map_cons, List.nodup_cons, List.mem_cons, not_or] at hone2
  have hup : u ≠ p := hone2.1.1
  have huv : u ≠ v := hone2.1.2.1
  have hpv : p ≠ v := hone2.2.1.1
  obtain ⟨s, hs'⟩ : ∃ s, s = sumT (A ++ (u, uk, un) :: (v, vk, vn) :: B) := ⟨_, rfl⟩
  rw [← hs'] at hs
  obtain ⟨fr, hfr⟩ : ∃ fr, fr = ptr (lastP none (A ++ (u, uk, un) :: (p, key, n) :: (v, vk, vn) :: B)) := ⟨_, rfl⟩
  have cb0 : w.cell? ⟨b, off, none⟩ = some (fr) := by rw [hfr]; exact hw.front
  obtain ⟨bk, hbk⟩ : ∃ bk, bk = ptr (headP (A ++ (u, uk, un) :: (p, key, n) :: (v, vk, vn) :: B) none) := ⟨_, rfl⟩
  have cb1 : w.cell? ⟨b, off + 1, none⟩ = some (bk) := by rw [hbk]; exact hw.back
  have cb2 : w.cell? ⟨b, off + 2, none⟩ = some (.int .i64 (n + s)) := by have h := hw.bytes; rw [show sumT (A ++ (u, uk, un) :: (p, key, n) :: (v, vk, vn) :: B) = n + s by rw [hs']; rw [sumT_append, sumT_append]; simp only [sumT] <;> omega] at h; exact h
  have zb := hw.fz
  have cp0 : w.cell? ⟨p, 0, none⟩ = some (.int .i64 key) := by exact ht.c0
  have cp1 : w.cell? ⟨p, 1, none⟩ = some (.int .i64 n) := by exact ht.c1
  have cp2 : w.cell? ⟨p, 2, none⟩ = some (.bool kept) := by exact ht.c2
  have cp3 : w.cell? ⟨p, 3, none⟩ = some (.pointer (some ⟨v, 0, none⟩)) := by exact ht.c3
  have cp4 : w.cell? ⟨p, 4, none⟩ = some (.pointer (some ⟨u, 0, none⟩)) := by exact ht.c4
  have zp : ∀ o, w.frozen? ⟨p, o, none⟩ = false := ht.fz
  obtain ⟨d, hd⟩ : ∃ d, d = ptr (lastP none A) := ⟨_, rfl⟩
  have cu0 : w.cell? ⟨u, 0, none⟩ = some (.int .i64 uk) := by exact hu.c0
  have cu1 : w.cell? ⟨u, 1, none⟩ = some (.int .i64 un) := by exact hu.c1
  have cu2 : w.cell? ⟨u, 2, none⟩ = some (.bool kept) := by exact hu.c2
  have cu3 : w.cell? ⟨u, 3, none⟩ = some (.pointer (some ⟨p, 0, none⟩)) := by exact hu.c3
  have cu4 : w.cell? ⟨u, 4, none⟩ = some (d) := by rw [hd]; exact hu.c4
  have zu : ∀ o, w.frozen? ⟨u, o, none⟩ = false := hu.fz
  obtain ⟨nx, hnx⟩ : ∃ nx, nx = ptr (headP B none) := ⟨_, rfl⟩
  have cv0 : w.cell? ⟨v, 0, none⟩ = some (.int .i64 vk) := by exact hv.c0
  have cv1 : w.cell? ⟨v, 1, none⟩ = some (.int .i64 vn) := by exact hv.c1
  have cv2 : w.cell? ⟨v, 2, none⟩ = some (.bool kept) := by exact hv.c2
  have cv3 : w.cell? ⟨v, 3, none⟩ = some (nx) := by rw [hnx]; exact hv.c3
  have cv4 : w.cell? ⟨v, 4, none⟩ = some (.pointer (some ⟨p, 0, none⟩)) := by exact hv.c4
  have zv : ∀ o, w.frozen? ⟨v, o, none⟩ = false := hv.fz
  have HW := Lib.hid hw
  have HLK := Lib.hid hlk
  have HS := Lib.hid hs'
  have HO := Lib.hid hone
  have HO2 := Lib.hid hone2
  have Hhfr := Lib.hid hfr
  have Hhbk := Lib.hid hbk
  have Hhd := Lib.hid hd
  have Hhnx := Lib.hid hnx
  simp only at hn
  clear hw hlk ht hu hv hs' hone hone2 hfr hbk hd hnx
  have G : Chg (fun k => k = b ∨ k = u ∨ k = v) w w := Chg.refl _ _
  have K : Hid (Keep b off w w) := Keep.refl _ _ _
  go_enter Try.func62, Try.ntmps62
  go_wp2_with fail
  have kO := K.out
  clear K
  refine name_region ?_; intro W3 hW
  have mb0 : W3.cell? ⟨b, off, none⟩ = some (fr) := by subst hW; go_simp
  have mb1 : W3.cell? ⟨b, off + 1, none⟩ = some (bk) := by subst hW; go_simp
  have mb2 : W3.cell? ⟨b, off + 2, none⟩ = some (.int .i64 (n + s)) := by subst hW; go_simp
  have mp0 : W3.cell? ⟨p, 0, none⟩ = some (.int .i64 key) := by subst hW; go_simp
  have mp1 : W3.cell? ⟨p, 1, none⟩ = some (.int .i64 n) := by subst hW; go_simp
  have mp2 : W3.cell? ⟨p, 2, none⟩ = some (.bool kept) := by subst hW; go_simp
  have mp3 : W3.cell? ⟨p, 3, none⟩ = some (.pointer (some ⟨v, 0, none⟩)) := by subst hW; go_simp
  have mp4 : W3.cell? ⟨p, 4, none⟩ = some (.pointer (some ⟨u, 0, none⟩)) := by subst hW; go_simp
  have mu0 : W3.cell? ⟨u, 0, none⟩ = some (.int .i64 uk) := by subst hW; go_simp
  have mu1 : W3.cell? ⟨u, 1, none⟩ = some (.int .i64 un) := by subst hW; go_simp
  have mu2 : W3.cell? ⟨u, 2, none⟩ = some (.bool kept) := by subst hW; go_simp
  have mu3 : W3.cell? ⟨u, 3, none⟩ = some (.pointer (some ⟨p, 0, none⟩)) := by subst hW; go_simp
  have mu4 : W3.cell? ⟨u, 4, none⟩ = some (d) := by subst hW; go_simp
  have mv0 : W3.cell? ⟨v, 0, none⟩ = some (.int .i64 vk) := by subst hW; go_simp
  have mv1 : W3.cell? ⟨v, 1, none⟩ = some (.int .i64 vn) := by subst hW; go_simp
  have mv2 : W3.cell? ⟨v, 2, none⟩ = some (.bool kept) := by subst hW; go_simp
  have mv3 : W3.cell? ⟨v, 3, none⟩ = some (nx) := by subst hW; go_simp
  have mv4 : W3.cell? ⟨v, 4, none⟩ = some (.pointer (some ⟨p, 0, none⟩)) := by subst hW; go_simp
  have mzb : ∀ o, W3.frozen? ⟨b, o, none⟩ = false := by subst hW; intro o; go_simp
  have mzp : ∀ o, W3.frozen? ⟨p, o, none⟩ = false := by subst hW; intro o; go_simp
  have mzu : ∀ o, W3.frozen? ⟨u, o, none⟩ = false := by subst hW; intro o; go_simp
  have mzv : ∀ o, W3.frozen? ⟨v, o, none⟩ = false := by subst hW; intro o; go_simp
  have gW : Chg (fun k => k = b ∨ k = u ∨ k = v) w W3 := by subst hW; exact (by repeat (first | with_reducible exact Chg.refl _ _ | with_reducible assumption | with_reducible refine Chg.drewN ?_ _ | with_reducible refine Chg.drew ?_ | with_reducible refine Chg.alloc ?_ _ | with_reducible refine Chg.setCell ?_ (by first | (left; rfl) | (left; left; rfl) | (left; right; rfl) | (left; right; left; rfl) | (left; right; right; rfl) | (right; exact Nat.le_refl _) | (right; simp; done) | (right; omega) | (right; simp at *; omega) | (simp at *; omega)) _ | with_reducible refine Chg.trans ?_ (by with_reducible assumption) (by intro i hi hT; first | exact hT | exact False.elim hT | omega | (simp at *; omega))))
  have kW : Keep b off w W3 := by subst hW; exact (by repeat (first | with_reducible exact Keep.refl _ _ _ | with_reducible assumption | with_reducible refine Keep.set ?_ (by first | (left; simp only; omega) | (right; simp only; omega)) _))
  clear hW cb0 cb1 cb2 cp0 cp1 cp2 cp3 cp4 cu0 cu1 cu2 cu3 cu4 cv0 cv1 cv2 cv3 cv4 zb zp zu zv G kO
  have lb : b < W3.heap.size := cell_lt mb0
  have lp : p < W3.heap.size := cell_lt mp0
  have lu : u < W3.heap.size := cell_lt mu0
  have lv : v < W3.heap.size := cell_lt mv0
  have KW := Lib.hid kW
  clear kW
  (have hN : W3.heap.size ≤ (World.heap W3).size := by first | assumption | exact Nat.le_refl _ | (simp; done) | omega | (simp; omega) | (simp at *; omega)); (have kr := fun d os b o (h : b < W3.heap.size) => (below_regrown W3 d os).cell (p := ⟨b, o, none⟩) (Nat.lt_of_lt_of_le h hN)); (refine wp_region_below_tail 10 (by kernel_rfl) (by kernel_rfl) ?_); (simp only [List.take_succ_cons, List.take_zero, List.drop_succ_cons, List.drop_zero]); (repeat (first | go_big_quiet_step ((first | fail)) | quiet_step ((first | fail)))); (refine wpQuiet_nil ?_); (intro w3 hw9); (obtain ⟨⟨dq, osq⟩, hw9⟩ := hw9); (have g9 := below_regrown W3 dq osq); (rw [← hw9] at g9); (have g3 : Below (W3.heap.size) _ w3 := g9.mono hN); (have z3 : W3.heap.size ≤ w3.heap.size := Nat.le_trans hN g9.size); (have c3 := fun b o h => g3.cell (p := ⟨b, o, none⟩) h); (have f3 := fun b o h => g3.frozen (p := ⟨b, o, none⟩) h); (clear hw9 kr hN g9)
  have e : ∀ q o, q < W3.heap.size → w3.cell? ⟨q, o, none⟩ = W3.cell? ⟨q, o, none⟩ := fun q o h => c3 q o h
  have cb0 : w3.cell? ⟨b, off, none⟩ = some (fr) := by rw [e b _ lb]; exact mb0
  have cb1 : w3.cell? ⟨b, off + 1, none⟩ = some (bk) := by rw [e b _ lb]; exact mb1
  have cb2 : w3.cell? ⟨b, off + 2, none⟩ = some (.int .i64 (n + s)) := by rw [e b _ lb]; exact mb2
  have cp0 : w3.cell? ⟨p, 0, none⟩ = some (.int .i64 key) := by rw [e p _ lp]; exact mp0
  have cp1 : w3.cell? ⟨p, 1, none⟩ = some (.int .i64 n) := by rw [e p _ lp]; exact mp1
  have cp2 : w3.cell? ⟨p, 2, none⟩ = some (.bool kept) := by rw [e p _ lp]; exact mp2
  have cp3 : w3.cell? ⟨p, 3, none⟩ = some (.pointer (some ⟨v, 0, none⟩)) := by rw [e p _ lp]; exact mp3
  have cp4 : w3.cell? ⟨p, 4, none⟩ = some (.pointer (some ⟨u, 0, none⟩)) := by rw [e p _ lp]; exact mp4
  have cu0 : w3.cell? ⟨u, 0, none⟩ = some (.int .i64 uk) := by rw [e u _ lu]; exact mu0
  have cu1 : w3.cell? ⟨u, 1, none⟩ = some (.int .i64 un) := by rw [e u _ lu]; exact mu1
  have cu2 : w3.cell? ⟨u, 2, none⟩ = some (.bool kept) := by rw [e u _ lu]; exact mu2
  have cu3 : w3.cell? ⟨u, 3, none⟩ = some (.pointer (some ⟨p, 0, none⟩)) := by rw [e u _ lu]; exact mu3
  have cu4 : w3.cell? ⟨u, 4, none⟩ = some (d) := by rw [e u _ lu]; exact mu4
  have cv0 : w3.cell? ⟨v, 0, none⟩ = some (.int .i64 vk) := by rw [e v _ lv]; exact mv0
  have cv1 : w3.cell? ⟨v, 1, none⟩ = some (.int .i64 vn) := by rw [e v _ lv]; exact mv1
  have cv2 : w3.cell? ⟨v, 2, none⟩ = some (.bool kept) := by rw [e v _ lv]; exact mv2
  have cv3 : w3.cell? ⟨v, 3, none⟩ = some (nx) := by rw [e v _ lv]; exact mv3
  have cv4 : w3.cell? ⟨v, 4, none⟩ = some (.pointer (some ⟨p, 0, none⟩)) := by rw [e v _ lv]; exact mv4
  have zb : ∀ o, w3.frozen? ⟨b, o, none⟩ = false := fun o => by rw [f3 b o lb]; exact mzb o
  have zp : ∀ o, w3.frozen? ⟨p, o, none⟩ = false := fun o => by rw [f3 p o lp]; exact mzp o
  have zu : ∀ o, w3.frozen? ⟨u, o, none⟩ = false := fun o => by rw [f3 u o lu]; exact mzu o
  have zv : ∀ o, w3.frozen? ⟨v, o, none⟩ = false := fun o => by rw [f3 v o lv]; exact mzv o
  have g9 : Chg (fun _ => False) W3 w3 := ⟨g3.os, g3.tape, g3.output, z3, fun k hk _ => g3.block k hk⟩
  have G : Chg (fun k => k = b ∨ k = u ∨ k = v) w w3 := gW.trans g9 (fun _ _ h => h.elim)
  have K : Hid (Keep b off w w3) := KW.out.trans (Keep.chg g9 id lb)
  clear e gW g9 KW mb0 mb1 mb2 mp0 mp1 mp2 mp3 mp4 mu0 mu1 mu2 mu3 mu4 mv0 mv1 mv2 mv3 mv4 mzb mzp mzu mzv lb lp lu lv g3 c3 f3 z3
  go_wp2_with fail
  have kO := K.out
  clear K
  refine name_region ?_; intro W4 hW
  have mb0 : W4.cell? ⟨b, off, none⟩ = some (fr) := by subst hW; go_simp
  have mb1 : W4.cell? ⟨b, off + 1, none⟩ = some (bk) := by subst hW; go_simp
  have mb2 : W4.cell? ⟨b, off + 2, none⟩ = some (.int .i64 (n + s)) := by subst hW; go_simp
  have mp0 : W4.cell? ⟨p, 0, none⟩ = some (.int .i64 key) := by subst hW; go_simp
  have mp1 : W4.cell? ⟨p, 1, none⟩ = some (.int .i64 n) := by subst hW; go_simp
  have mp2 : W4.cell? ⟨p, 2, none⟩ = some (.bool kept) := by subst hW; go_simp
  have mp3 : W4.cell? ⟨p, 3, none⟩ = some (.pointer (some ⟨v, 0, none⟩)) := by subst hW; go_simp
  have mp4 : W4.cell? ⟨p, 4, none⟩ = some (.pointer (some ⟨u, 0, none⟩)) := by subst hW; go_simp
  have mu0 : W4.cell? ⟨u, 0, none⟩ = some (.int .i64 uk) := by subst hW; go_simp
  have mu1 : W4.cell? ⟨u, 1, none⟩ = some (.int .i64 un) := by subst hW; go_simp
  have mu2 : W4.cell? ⟨u, 2, none⟩ = some (.bool kept) := by subst hW; go_simp
  have mu3 : W4.cell? ⟨u, 3, none⟩ = some (.pointer (some ⟨p, 0, none⟩)) := by subst hW; go_simp
  have mu4 : W4.cell? ⟨u, 4, none⟩ = some (d) := by subst hW; go_simp
  have mv0 : W4.cell? ⟨v, 0, none⟩ = some (.int .i64 vk) := by subst hW; go_simp
  have mv1 : W4.cell? ⟨v, 1, none⟩ = some (.int .i64 vn) := by subst hW; go_simp
  have mv2 : W4.cell? ⟨v, 2, none⟩ = some (.bool kept) := by subst hW; go_simp
  have mv3 : W4.cell? ⟨v, 3, none⟩ = some (nx) := by subst hW; go_simp
  have mv4 : W4.cell? ⟨v, 4, none⟩ = some (.pointer (some ⟨u, 0, none⟩)) := by subst hW; go_simp
  have mzb : ∀ o, W4.frozen? ⟨b, o, none⟩ = false := by subst hW; intro o; go_simp
  have mzp : ∀ o, W4.frozen? ⟨p, o, none⟩ = false := by subst hW; intro o; go_simp
  have mzu : ∀ o, W4.frozen? ⟨u, o, none⟩ = false := by subst hW; intro o; go_simp
  have mzv : ∀ o, W4.frozen? ⟨v, o, none⟩ = false := by subst hW; intro o; go_simp
  have gW : Chg (fun k => k = b ∨ k = u ∨ k = v) w W4 := by subst hW; exact (by repeat (first | with_reducible exact Chg.refl _ _ | with_reducible assumption | with_reducible refine Chg.drewN ?_ _ | with_reducible refine Chg.drew ?_ | with_reducible refine Chg.alloc ?_ _ | with_reducible refine Chg.setCell ?_ (by first | (left; rfl) | (left; left; rfl) | (left; right; rfl) | (left; right; left; rfl) | (left; right; right; rfl) | (right; exact Nat.le_refl _) | (right; simp; done) | (right; omega) | (right; simp at *; omega) | (simp at *; omega)) _ | with_reducible refine Chg.trans ?_ (by with_reducible assumption) (by intro i hi hT; first | exact hT | exact False.elim hT | omega | (simp at *; omega))))
  have kW : Keep b off w W4 := by subst hW; exact (by repeat (first | with_reducible exact Keep.refl _ _ _ | with_reducible assumption | with_reducible refine Keep.set ?_ (by first | (left; simp only; omega) | (right; simp only; omega)) _))
  clear hW cb0 cb1 cb2 cp0 cp1 cp2 cp3 cp4 cu0 cu1 cu2 cu3 cu4 cv0 cv1 cv2 cv3 cv4 zb zp zu zv G kO
  have lb : b < W4.heap.size := cell_lt mb0
  have lp : p < W4.heap.size := cell_lt mp0
  have lu : u < W4.heap.size := cell_lt mu0
  have lv : v < W4.heap.size := cell_lt mv0
  have KW := Lib.hid kW
  clear kW
  (have hN : W4.heap.size ≤ (World.heap W4).size := by first | assumption | exact Nat.le_refl _ | (simp; done) | omega | (simp; omega) | (simp at *; omega)); (have kr := fun d os b o (h : b < W4.heap.size) => (below_regrown W4 d os).cell (p := ⟨b, o, none⟩) (Nat.lt_of_lt_of_le h hN)); (refine wp_region_below_tail 10 (by kernel_rfl) (by kernel_rfl) ?_); (simp only [List.take_succ_cons, List.take_zero, List.drop_succ_cons, List.drop_zero]); (repeat (first | go_big_quiet_step ((first | fail)) | quiet_step ((first | fail)))); (refine wpQuiet_nil ?_); (intro w4 hw9); (obtain ⟨⟨dq, osq⟩, hw9⟩ := hw9); (have g9 := below_regrown W4 dq osq); (rw [← hw9] at g9); (have g4 : Below (W4.heap.size) _ w4 := g9.mono hN); (have z4 : W4.heap.size ≤ w4.heap.size := Nat.le_trans hN g9.size); (have c4 := fun b o h => g4.cell (p := ⟨b, o, none⟩) h); (have f4 := fun b o h => g4.frozen (p := ⟨b, o, none⟩) h); (clear hw9 kr hN g9)
  have e : ∀ q o, q < W4.heap.size → w4.cell? ⟨q, o, none⟩ = W4.cell? ⟨q, o, none⟩ := fun q o h => c4 q o h
  have cb0 : w4.cell? ⟨b, off, none⟩ = some (fr) := by rw [e b _ lb]; exact mb0
  have cb1 : w4.cell? ⟨b, off + 1, none⟩ = some (bk) := by rw [e b _ lb]; exact mb1
  have cb2 : w4.cell? ⟨b, off + 2, none⟩ = some (.int .i64 (n + s)) := by rw [e b _ lb]; exact mb2
  have cp0 : w4.cell? ⟨p, 0, none⟩ = some (.int .i64 key) := by rw [e p _ lp]; exact mp0
  have cp1 : w4.cell? ⟨p, 1, none⟩ = some (.int .i64 n) := by rw [e p _ lp]; exact mp1
  have cp2 : w4.cell? ⟨p, 2, none⟩ = some (.bool kept) := by rw [e p _ lp]; exact mp2
  have cp3 : w4.cell? ⟨p, 3, none⟩ = some (.pointer (some ⟨v, 0, none⟩)) := by rw [e p _ lp]; exact mp3
  have cp4 : w4.cell? ⟨p, 4, none⟩ = some (.pointer (some ⟨u, 0, none⟩)) := by rw [e p _ lp]; exact mp4
  have cu0 : w4.cell? ⟨u, 0, none⟩ = some (.int .i64 uk) := by rw [e u _ lu]; exact mu0
  have cu1 : w4.cell? ⟨u, 1, none⟩ = some (.int .i64 un) := by rw [e u _ lu]; exact mu1
  have cu2 : w4.cell? ⟨u, 2, none⟩ = some (.bool kept) := by rw [e u _ lu]; exact mu2
  have cu3 : w4.cell? ⟨u, 3, none⟩ = some (.pointer (some ⟨p, 0, none⟩)) := by rw [e u _ lu]; exact mu3
  have cu4 : w4.cell? ⟨u, 4, none⟩ = some (d) := by rw [e u _ lu]; exact mu4
  have cv0 : w4.cell? ⟨v, 0, none⟩ = some (.int .i64 vk) := by rw [e v _ lv]; exact mv0
  have cv1 : w4.cell? ⟨v, 1, none⟩ = some (.int .i64 vn) := by rw [e v _ lv]; exact mv1
  have cv2 : w4.cell? ⟨v, 2, none⟩ = some (.bool kept) := by rw [e v _ lv]; exact mv2
  have cv3 : w4.cell? ⟨v, 3, none⟩ = some (nx) := by rw [e v _ lv]; exact mv3
  have cv4 : w4.cell? ⟨v, 4, none⟩ = some (.pointer (some ⟨u, 0, none⟩)) := by rw [e v _ lv]; exact mv4
  have zb : ∀ o, w4.frozen? ⟨b, o, none⟩ = false := fun o => by rw [f4 b o lb]; exact mzb o
  have zp : ∀ o, w4.frozen? ⟨p, o, none⟩ = false := fun o => by rw [f4 p o lp]; exact mzp o
  have zu : ∀ o, w4.frozen? ⟨u, o, none⟩ = false := fun o => by rw [f4 u o lu]; exact mzu o
  have zv : ∀ o, w4.frozen? ⟨v, o, none⟩ = false := fun o => by rw [f4 v o lv]; exact mzv o
  have g9 : Chg (fun _ => False) W4 w4 := ⟨g4.os, g4.tape, g4.output, z4, fun k hk _ => g4.block k hk⟩
  have G : Chg (fun k => k = b ∨ k = u ∨ k = v) w w4 := gW.trans g9 (fun _ _ h => h.elim)
  have K : Hid (Keep b off w w4) := KW.out.trans (Keep.chg g9 id lb)
  clear e gW g9 KW mb0 mb1 mb2 mp0 mp1 mp2 mp3 mp4 mu0 mu1 mu2 mu3 mu4 mv0 mv1 mv2 mv3 mv4 mzb mzp mzu mzv lb lp lu lv g4 c4 f4 z4
  go_wp2_with fail
  have kO := K.out
  clear K
  refine name_region ?_; intro W5 hW
  have mb0 : W5.cell? ⟨b, off, none⟩ = some (fr) := by subst hW; go_simp
  have mb1 : W5.cell? ⟨b, off + 1, none⟩ = some (bk) := by subst hW; go_simp
  have mb2 : W5.cell? ⟨b, off + 2, none⟩ = some (.int .i64 (n + s)) := by subst hW; go_simp
  have mp0 : W5.cell? ⟨p, 0, none⟩ = some (.int .i64 key) := by subst hW; go_simp
  have mp1 : W5.cell? ⟨p, 1, none⟩ = some (.int .i64 n) := by subst hW; go_simp
  have mp2 : W5.cell? ⟨p, 2, none⟩ = some (.bool kept) := by subst hW; go_simp
  have mp3 : W5.cell? ⟨p, 3, none⟩ = some (.pointer (some ⟨v, 0, none⟩)) := by subst hW; go_simp
  have mp4 : W5.cell? ⟨p, 4, none⟩ = some (.pointer (some ⟨u, 0, none⟩)) := by subst hW; go_simp
  have mu0 : W5.cell? ⟨u, 0, none⟩ = some (.int .i64 uk) := by subst hW; go_simp
  have mu1 : W5.cell? ⟨u, 1, none⟩ = some (.int .i64 un) := by subst hW; go_simp
  have mu2 : W5.cell? ⟨u, 2, none⟩ = some (.bool kept) := by subst hW; go_simp
  have mu3 : W5.cell? ⟨u, 3, none⟩ = some (.pointer (some ⟨v, 0, none⟩)) := by subst hW; go_simp
  have mu4 : W5.cell? ⟨u, 4, none⟩ = some (d) := by subst hW; go_simp
  have mv0 : W5.cell? ⟨v, 0, none⟩ = some (.int .i64 vk) := by subst hW; go_simp
  have mv1 : W5.cell? ⟨v, 1, none⟩ = some (.int .i64 vn) := by subst hW; go_simp
  have mv2 : W5.cell? ⟨v, 2, none⟩ = some (.bool kept) := by subst hW; go_simp
  have mv3 : W5.cell? ⟨v, 3, none⟩ = some (nx) := by subst hW; go_simp
  have mv4 : W5.cell? ⟨v, 4, none⟩ = some (.pointer (some ⟨u, 0, none⟩)) := by subst hW; go_simp
  have mzb : ∀ o, W5.frozen? ⟨b, o, none⟩ = false := by subst hW; intro o; go_simp
  have mzp : ∀ o, W5.frozen? ⟨p, o, none⟩ = false := by subst hW; intro o; go_simp
  have mzu : ∀ o, W5.frozen? ⟨u, o, none⟩ = false := by subst hW; intro o; go_simp
  have mzv : ∀ o, W5.frozen? ⟨v, o, none⟩ = false := by subst hW; intro o; go_simp
  have gW : Chg (fun k => k = b ∨ k = u ∨ k = v) w W5 := by subst hW; exact (by repeat (first | with_reducible exact Chg.refl _ _ | with_reducible assumption | with_reducible refine Chg.drewN ?_ _ | with_reducible refine Chg.drew ?_ | with_reducible refine Chg.alloc ?_ _ | with_reducible refine Chg.setCell ?_ (by first | (left; rfl) | (left; left; rfl) | (left; right; rfl) | (left; right; left; rfl) | (left; right; right; rfl) | (right; exact Nat.le_refl _) | (right; simp; done) | (right; omega) | (right; simp at *; omega) | (simp at *; omega)) _ | with_reducible refine Chg.trans ?_ (by with_reducible assumption) (by intro i hi hT; first | exact hT | exact False.elim hT | omega | (simp at *; omega))))
  have kW : Keep b off w W5 := by subst hW; exact (by repeat (first | with_reducible exact Keep.refl _ _ _ | with_reducible assumption | with_reducible refine Keep.set ?_ (by first | (left; simp only; omega) | (right; simp only; omega)) _))
  clear hW cb0 cb1 cb2 cp0 cp1 cp2 cp3 cp4 cu0 cu1 cu2 cu3 cu4 cv0 cv1 cv2 cv3 cv4 zb zp zu zv G kO
  have lb : b < W5.heap.size := cell_lt mb0
  have lp : p < W5.heap.size := cell_lt mp0
  have lu : u < W5.heap.size := cell_lt mu0
  have lv : v < W5.heap.size := cell_lt mv0
  have KW := Lib.hid kW
  clear kW
  (have hN : W5.heap.size ≤ (World.heap W5).size := by first | assumption | exact Nat.le_refl _ | (simp; done) | omega | (simp; omega) | (simp at *; omega)); (have kr := fun d os b o (h : b < W5.heap.size) => (below_regrown W5 d os).cell (p := ⟨b, o, none⟩) (Nat.lt_of_lt_of_le h hN)); (refine wp_region_below_tail 11 (by kernel_rfl) (by kernel_rfl) ?_); (simp only [List.take_succ_cons, List.take_zero, List.drop_succ_cons, List.drop_zero]); (repeat (first | go_big_quiet_step ((first | fail)) | quiet_step ((first | fail)))); (refine wpQuiet_nil ?_); (intro w5 hw9); (obtain ⟨⟨dq, osq⟩, hw9⟩ := hw9); (have g9 := below_regrown W5 dq osq); (rw [← hw9] at g9); (have g5 : Below (W5.heap.size) _ w5 := g9.mono hN); (have z5 : W5.heap.size ≤ w5.heap.size := Nat.le_trans hN g9.size); (have c5 := fun b o h => g5.cell (p := ⟨b, o, none⟩) h); (have f5 := fun b o h => g5.frozen (p := ⟨b, o, none⟩) h); (clear hw9 kr hN g9)
  have e : ∀ q o, q < W5.heap.size → w5.cell? ⟨q, o, none⟩ = W5.cell? ⟨q, o, none⟩ := fun q o h => c5 q o h
  have cb0 : w5.cell? ⟨b, off, none⟩ = some (fr) := by rw [e b _ lb]; exact mb0
  have cb1 : w5.cell? ⟨b, off + 1, none⟩ = some (bk) := by rw [e b _ lb]; exact mb1
  have cb2 : w5.cell? ⟨b, off + 2, none⟩ = some (.int .i64 (n + s)) := by rw [e b _ lb]; exact mb2
  have cp0 : w5.cell? ⟨p, 0, none⟩ = some (.int .i64 key) := by rw [e p _ lp]; exact mp0
  have cp1 : w5.cell? ⟨p, 1, none⟩ = some (.int .i64 n) := by rw [e p _ lp]; exact mp1
  have cp2 : w5.cell? ⟨p, 2, none⟩ = some (.bool kept) := by rw [e p _ lp]; exact mp2
  have cp3 : w5.cell? ⟨p, 3, none⟩ = some (.pointer (some ⟨v, 0, none⟩)) := by rw [e p _ lp]; exact mp3
  have cp4 : w5.cell? ⟨p, 4, none⟩ = some (.pointer (some ⟨u, 0, none⟩)) := by rw [e p _ lp]; exact mp4
  have cu0 : w5.cell? ⟨u, 0, none⟩ = some (.int .i64 uk) := by rw [e u _ lu]; exact mu0
  have cu1 : w5.cell? ⟨u, 1, none⟩ = some (.int .i64 un) := by rw [e u _ lu]; exact mu1
  have cu2 : w5.cell? ⟨u, 2, none⟩ = some (.bool kept) := by rw [e u _ lu]; exact mu2
  have cu3 : w5.cell? ⟨u, 3, none⟩ = some (.pointer (some ⟨v, 0, none⟩)) := by rw [e u _ lu]; exact mu3
  have cu4 : w5.cell? ⟨u, 4, none⟩ = some (d) := by rw [e u _ lu]; exact mu4
  have cv0 : w5.cell? ⟨v, 0, none⟩ = some (.int .i64 vk) := by rw [e v _ lv]; exact mv0
  have cv1 : w5.cell? ⟨v, 1, none⟩ = some (.int .i64 vn) := by rw [e v _ lv]; exact mv1
  have cv2 : w5.cell? ⟨v, 2, none⟩ = some (.bool kept) := by rw [e v _ lv]; exact mv2
  have cv3 : w5.cell? ⟨v, 3, none⟩ = some (nx) := by rw [e v _ lv]; exact mv3
  have cv4 : w5.cell? ⟨v, 4, none⟩ = some (.pointer (some ⟨u, 0, none⟩)) := by rw [e v _ lv]; exact mv4
  have zb : ∀ o, w5.frozen? ⟨b, o, none⟩ = false := fun o => by rw [f5 b o lb]; exact mzb o
  have zp : ∀ o, w5.frozen? ⟨p, o, none⟩ = false := fun o => by rw [f5 p o lp]; exact mzp o
  have zu : ∀ o, w5.frozen? ⟨u, o, none⟩ = false := fun o => by rw [f5 u o lu]; exact mzu o
  have zv : ∀ o, w5.frozen? ⟨v, o, none⟩ = false := fun o => by rw [f5 v o lv]; exact mzv o
  have g9 : Chg (fun _ => False) W5 w5 := ⟨g5.os, g5.tape, g5.output, z5, fun k hk _ => g5.block k hk⟩
  have G : Chg (fun k => k = b ∨ k = u ∨ k = v) w w5 := gW.trans g9 (fun _ _ h => h.elim)
  have K : Hid (Keep b off w w5) := KW.out.trans (Keep.chg g9 id lb)
  clear e gW g9 KW mb0 mb1 mb2 mp0 mp1 mp2 mp3 mp4 mu0 mu1 mu2 mu3 mu4 mv0 mv1 mv2 mv3 mv4 mzb mzp mzu mzv lb lp lu lv g5 c5 f5 z5
  go_wp2
  go_end0
  have hns : n + s - n = s := by omega
  try rw [hns]
  have K1 := K.out
  have KF : Keep b off w (w5.setCell ⟨b, off + 2, none⟩ (.int .i64 s)) := Keep.set K1 (.inr ⟨by simp, by simp⟩) _
  have GF : Chg (fun k => k = b ∨ k = u ∨ k = v) w (w5.setCell ⟨b, off + 2, none⟩ (.int .i64 s)) := Chg.setCell G (p := ⟨b, off + 2, none⟩) (.inl (.inl rfl)) _
  have nep : ∀ o o', (⟨b, o, none⟩ : Addr) ≠ ⟨p, o', none⟩ := fun o o' h => by injection h with h1; exact hb h1.symm
  have neu : ∀ o o', (⟨b, o, none⟩ : Addr) ≠ ⟨u, o', none⟩ := fun o o' h => by injection h with h1; exact hub h1.symm
  have nev : ∀ o o', (⟨b, o, none⟩ : Addr) ≠ ⟨v, o', none⟩ := fun o o' h => by injection h with h1; exact hvb h1.symm
  have hsub : (A ++ (u, uk, un) :: (v, vk, vn) :: B).Sublist (A ++ (u, uk, un) :: (p, key, n) :: (v, vk, vn) :: B) := ((List.Sublist.refl A).append ((List.sublist_cons_self _ _).cons_cons (u, uk, un)))
  have LB : Lk (w5.setCell ⟨b, off + 2, none⟩ (.int .i64 s)) kept (some v) none B := Lk.chg GF HLK.out.2.2.2.2 fun x hx hS => (hS.elim (fun h => HW.out.apart x (by simp [hx]) h) fun h => (h.elim (fun h => HO2.out.1.2.2 (List.mem_map.2 ⟨x, hx, h⟩)) fun h => HO2.out.2.2.1 (List.mem_map.2 ⟨x, hx, h⟩)))
  have NV : Nd (w5.setCell ⟨b, off + 2, none⟩ (.int .i64 s)) kept (v, vk, vn) (some u) (headP B none) := ⟨by rw [cell_other (nev _ _)]; first | exact cv0 | rw [cv0], by rw [cell_other (nev _ _)]; first | exact cv1 | rw [cv1], by rw [cell_other (nev _ _)]; first | exact cv2 | rw [cv2], by rw [cell_other (nev _ _)]; first | exact cv3 | rw [cv3, Hhnx.out], by rw [cell_other (nev _ _)]; first | exact cv4 | rw [cv4], fun o => by rw [World.frozen?_setCell]; exact zv o⟩
  have LA : Lk (w5.setCell ⟨b, off + 2, none⟩ (.int .i64 s)) kept none (some u) A := Lk.chg GF HLK.out.1 fun x hx hS => (hS.elim (fun h => HW.out.apart x (by simp [hx]) h) fun h => (h.elim (fun h => HO.out.2.2 x.1 (List.mem_map.2 ⟨x, hx, rfl⟩) u (by simp) h) fun h => HO.out.2.2 x.1 (List.mem_map.2 ⟨x, hx, rfl⟩) v (by simp) h))
  have NU : Nd (w5.setCell ⟨b, off + 2, none⟩ (.int .i64 s)) kept (u, uk, un) (lastP none A) (some v) := ⟨by rw [cell_other (neu _ _)]; first | exact cu0 | rw [cu0], by rw [cell_other (neu _ _)]; first | exact cu1 | rw [cu1], by rw [cell_other (neu _ _)]; first | exact cu2 | rw [cu2], by rw [cell_other (neu _ _)]; first | exact cu3 | rw [cu3], by rw [cell_other (neu _ _)]; first | exact cu4 | rw [cu4, Hhd.out], fun o => by rw [World.frozen?_setCell]; exact zu o⟩
  refine ⟨rfl, ⟨?_, ?_, ?_, fun o => by rw [World.frozen?_setCell]; exact zb o, Lk.append.2 ⟨LA, NU, NV, LB⟩, fun x hx => HW.out.apart x (hsub.subset hx), HW.out.one.sublist (hsub.map _)⟩, ⟨some u, some v, ⟨by rw [cell_other (nep _ _)]; first | exact cp0 | rw [cp0], by rw [cell_other (nep _ _)]; first | exact cp1 | rw [cp1], by rw [cell_other (nep _ _)]; first | exact cp2 | rw [cp2], by rw [cell_other (nep _ _)]; exact cp3, by rw [cell_other (nep _ _)]; first | exact cp4 | rw [cp4], fun o => by rw [World.frozen?_setCell]; exact zp o⟩⟩, GF, KF⟩
  · rw [cell_other (by simp), cb0, Hhfr.out, lastP_append, lastP_append] <;> rfl
  · rw [cell_other (by simp), cb1]; rw [Hhbk.out]; cases A <;> rfl
  · rw [cell_same cb2, HS.out]

theorem pull_any (w : World) (b off : Nat) (kept : Bool) (A B : List Th) (t : Th) (hw : Rw w b off kept (A ++ t :: B)) (hn : 0 ≤ t.2.2 ∧ t.2.2 ≤ 1099511627776) (hs : 0 ≤ sumT (A ++ B) ∧ sumT (A ++ B) ≤ 1152921504606846976) :
    Calls Try.prog 62 #[.pointer (some ⟨b, off, none⟩), .pointer (some ⟨t.1, 0, none⟩)] w fun e w' => e = .returned (.tuple #[]) ∧ Rw w' b off kept (A ++ B) ∧ (∃ x y, Nd w' kept t x y) ∧ Chg (fun k => k = b ∨ ∃ x ∈ A ++ B, k = x.1) w w' ∧ Keep b off w w' := by
  rcases List.eq_nil_or_concat A with rfl | ⟨A, u, rfl⟩
  · cases B with
    | nil =>
      refine (pull_alone w b off kept t hw hn hs).mono ?_
      rintro e w' ⟨h1, h2, h3, h4, h5⟩
      exact ⟨h1, h2, h3, h4.mono (fun k _ h => .inl h), h5⟩
    | cons v B =>
      refine (pull_back w b off kept t v B hw hn hs).mono ?_
      rintro e w' ⟨h1, h2, h3, h4, h5⟩
      exact ⟨h1, h2, h3, h4.mono (fun k _ h => h.imp id fun h => ⟨v, by simp, h⟩), h5⟩
  · have e1 : A.concat u ++ t :: B = A ++ u :: t :: B := by simp
    have e2 : A.concat u ++ B = A ++ u :: B := by simp
    rw [e1] at hw
    rw [e2] at hs ⊢
    cases B with
    | nil =>
      refine (pull_front w b off kept t u A hw hn hs).mono ?_
      rintro e w' ⟨h1, h2, h3, h4, h5⟩
      exact ⟨h1, h2, h3, h4.mono (fun k _ h => h.imp id fun h => ⟨u, by simp, h⟩), h5⟩
    | cons v B =>
      refine (pull_mid w b off kept t u v A B hw hn hs).mono ?_
      rintro e w' ⟨h1, h2, h3, h4, h5⟩
      exact ⟨h1, h2, h3, h4.mono (fun k _ h => h.imp id fun h => h.elim (fun h => ⟨u, by simp, h⟩) fun h => ⟨v, by simp, h⟩), h5⟩
end Go.Proofs.Ytdoepjokaekckaa
