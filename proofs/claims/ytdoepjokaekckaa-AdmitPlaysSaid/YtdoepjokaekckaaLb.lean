/- A row's struct; push. -/
import Derived.Test.YtdoepjokaekckaaLa
namespace Go.Proofs.Ytdoepjokaekckaa
set_option linter.unusedVariables false
open Go.RowKit

/-- The row whose struct lies at block b from offset 'off' on. -/
structure Rw (w : World) (b off : Nat) (kept : Bool) (l : List Th) : Prop where
  front : w.cell? ⟨b, off, none⟩ = some (ptr (lastP none l))
  back : w.cell? ⟨b, off + 1, none⟩ = some (ptr (headP l none))
  bytes : w.cell? ⟨b, off + 2, none⟩ = some (.int .i64 (sumT l))
  fz : ∀ o, w.frozen? ⟨b, o, none⟩ = false
  lk : Lk w kept none none l
  apart : ∀ t ∈ l, t.1 ≠ b
  one : (l.map fun t => t.1).Nodup

set_option maxHeartbeats 1000000 in
theorem push_empty (w : World) (b off : Nat) (kept : Bool) (t : Th) (a0 h0 : Option Nat) (hw : Rw w b off kept []) (ht : Nd w kept t h0 a0) (hb : t.1 ≠ b) (hn : 0 ≤ t.2.2 ∧ t.2.2 ≤ 1099511627776) :
    Calls Try.prog 54 #[.pointer (some ⟨b, off, none⟩), .pointer (some ⟨t.1, 0, none⟩)] w fun e w' => e = .returned (.tuple #[]) ∧ Rw w' b off kept [t] ∧ Chg (fun k => k = b ∨ k = t.1) w w' ∧ Keep b off w w' := by
  obtain ⟨p, key, n⟩ := t
  have f0 : w.cell? ⟨b, off, none⟩ = some (.pointer none) := hw.front
  have f1 : w.cell? ⟨b, off + 1, none⟩ = some (.pointer none) := hw.back
  have f2 : w.cell? ⟨b, off + 2, none⟩ = some (.int .i64 0) := hw.bytes
  have ff := hw.fz
  have c0 := ht.c0
  have c1 := ht.c1
  have c2 := ht.c2
  have c3 := ht.c3
  have c4 := ht.c4
  have cf := ht.fz
  simp only at c0 c1 c2 c3 c4 cf hb hn
  clear hw ht
  go_enter Try.func54, Try.ntmps54
  go_wp2_with fail
  refine name_region ?_; intro W hW
  have k0 : W.cell? ⟨b, off, none⟩ = some (.pointer (some ⟨p, 0, none⟩)) := by subst hW; go_simp
  have k1 : W.cell? ⟨b, off + 1, none⟩ = some (.pointer (some ⟨p, 0, none⟩)) := by subst hW; go_simp
  have k2 : W.cell? ⟨b, off + 2, none⟩ = some (.int .i64 0) := by subst hW; go_simp
  have kf : ∀ o, W.frozen? ⟨b, o, none⟩ = false := by subst hW; intro o; go_simp
  have m0 : W.cell? ⟨p, 0, none⟩ = some (.int .i64 key) := by subst hW; go_simp
  have m1 : W.cell? ⟨p, 1, none⟩ = some (.int .i64 n) := by subst hW; go_simp
  have m2 : W.cell? ⟨p, 2, none⟩ = some (.bool kept) := by subst hW; go_simp
  have m3 : W.cell? ⟨p, 3, none⟩ = some (.pointer none) := by subst hW; go_simp
  have m4 : W.cell? ⟨p, 4, none⟩ = some (.pointer none) := by subst hW; go_simp
  have mf : ∀ o, W.frozen? ⟨p, o, none⟩ = false := by subst hW; intro o; go_simp
  have gW : Chg (fun k => k = b ∨ k = p) w W := by subst hW; exact (by repeat (first | with_reducible exact Chg.refl _ _ | with_reducible assumption | with_reducible refine Chg.drewN ?_ _ | with_reducible refine Chg.drew ?_ | with_reducible refine Chg.alloc ?_ _ | with_reducible refine Chg.setCell ?_ (by first | (left; rfl) | (left; left; rfl) | (left; right; rfl) | (left; right; left; rfl) | (left; right; right; rfl) | (right; exact Nat.le_refl _) | (right; simp; done) | (right; omega) | (right; simp at *; omega) | (simp at *; omega)) _ | with_reducible refine Chg.trans ?_ (by with_reducible assumption) (by intro i hi hT; first | exact hT | exact False.elim hT | omega | (simp at *; omega))))
  have kW0 : Keep b off w W := by subst hW; exact (by repeat (first | with_reducible exact Keep.refl _ _ _ | with_reducible assumption | with_reducible refine Keep.set ?_ (by first | (left; simp only; omega) | (right; simp only; omega)) _))
  have kW := Lib.hid kW0
  clear kW0
  clear hW f0 f1 f2 ff c0 c1 c2 c3 c4 cf
  have lb : b < W.heap.size := cell_lt k0
  have lp : p < W.heap.size := cell_lt m0
  (have hN : W.heap.size ≤ (World.heap W).size := by first | assumption | exact Nat.le_refl _ | (simp; done) | omega | (simp; omega) | (simp at *; omega)); (have kr := fun d os b o (h : b < W.heap.size) => (below_regrown W d os).cell (p := ⟨b, o, none⟩) (Nat.lt_of_lt_of_le h hN)); (refine wp_region_below_tail 11 (by kernel_rfl) (by kernel_rfl) ?_); (simp only [List.take_succ_cons, List.take_zero, List.drop_succ_cons, List.drop_zero]); (repeat (first | go_big_quiet_step ((first | fail)) | quiet_step ((first | fail)))); (refine wpQuiet_nil ?_); (intro w9 hw9); (obtain ⟨⟨dq, osq⟩, hw9⟩ := hw9); (have g9 := below_regrown W dq osq); (rw [← hw9] at g9); (have g9 : Below (W.heap.size) _ w9 := g9.mono hN); (have z9 : W.heap.size ≤ w9.heap.size := Nat.le_trans hN g9.size); (have c9 := fun b o h => g9.cell (p := ⟨b, o, none⟩) h); (have f9 := fun b o h => g9.frozen (p := ⟨b, o, none⟩) h); (clear hw9 kr hN g9)
  go_wp2
  go_end0
  have e : ∀ q o, q < W.heap.size → w9.cell? ⟨q, o, none⟩ = W.cell? ⟨q, o, none⟩ := fun q o h => c9 q o h
  have g9' : Chg (fun _ => False) W w9 := ⟨g9.os, g9.tape, g9.output, z9, fun k hk _ => g9.block k hk⟩
  have KF : Keep b off w (w9.setCell ⟨b, off + 2, none⟩ _) := Keep.set (kW.out.trans (Keep.chg g9' id lb)) (.inr ⟨by simp, by simp⟩) (.int .i64 n)
  have hp : ∀ o o', (⟨b, o, none⟩ : Addr) ≠ ⟨p, o', none⟩ := fun o o' h => by injection h with h1; exact hb h1.symm
  refine ⟨rfl, ⟨?_, ?_, ?_, ?_, ⟨⟨?_, ?_, ?_, ?_, ?_, ?_⟩, trivial⟩, ?_, ?_⟩, (gW.trans g9' (fun _ _ h => h.elim)).setCell (p := ⟨b, off + 2, none⟩) (.inl (.inl rfl)) _, KF⟩
  · rw [cell_other (by simp), e b _ lb]; exact k0
  · rw [cell_other (by simp), e b _ lb]; exact k1
  · rw [cell_same ((e b _ lb).trans k2)]
    simp [sumT]
  · intro o; rw [World.frozen?_setCell, f9 b o lb]; exact kf o
  · rw [cell_other (hp _ _), e p _ lp]; exact m0
  · rw [cell_other (hp _ _), e p _ lp]; exact m1
  · rw [cell_other (hp _ _), e p _ lp]; exact m2
  · rw [cell_other (hp _ _), e p _ lp]; exact m3
  · rw [cell_other (hp _ _), e p _ lp]; exact m4
  · intro o; rw [World.frozen?_setCell, f9 p o lp]; exact mf o
  · intro t ht; simp at ht; subst ht; exact hb
  · simp

set_option maxHeartbeats 1000000 in
theorem push_more (w : World) (b off : Nat) (kept : Bool) (A : List Th) (u t : Th) (a0 h0 : Option Nat) (hw : Rw w b off kept (A ++ [u])) (ht : Nd w kept t h0 a0) (hb : t.1 ≠ b) (hne : ∀ x ∈ A ++ [u], x.1 ≠ t.1) (hn : 0 ≤ t.2.2 ∧ t.2.2 ≤ 1099511627776) (hs : 0 ≤ sumT (A ++ [u]) ∧ sumT (A ++ [u]) ≤ 1152921504606846976) :
    Calls Try.prog 54 #[.pointer (some ⟨b, off, none⟩), .pointer (some ⟨t.1, 0, none⟩)] w fun e w' => e = .returned (.tuple #[]) ∧ Rw w' b off kept (A ++ [u] ++ [t]) ∧ Chg (fun k => k = b ∨ k = t.1 ∨ k = u.1) w w' ∧ Keep b off w w' := by
  obtain ⟨p, key, n⟩ := t
  obtain ⟨q, uk, un⟩ := u
  have hub : q ≠ b := hw.apart (q, uk, un) (by simp)
  have hup : q ≠ p := hne (q, uk, un) (by simp)
  have hlk := Lk.append.1 hw.lk
  have hu : Nd w kept (q, uk, un) (lastP none A) none := hlk.2.1
  have f0 : w.cell? ⟨b, off, none⟩ = some (.pointer (some ⟨q, 0, none⟩)) := by have := hw.front; rw [lastP_append] at this; exact this
  obtain ⟨bk, f1⟩ : ∃ bk, w.cell? ⟨b, off + 1, none⟩ = some bk := ⟨_, hw.back⟩
  obtain ⟨s, hs'⟩ : ∃ s, s = sumT (A ++ [(q, uk, un)]) := ⟨_, rfl⟩
  have f2 : w.cell? ⟨b, off + 2, none⟩ = some (.int .i64 s) := by rw [hs']; exact hw.bytes
  have hsb : 0 ≤ s ∧ s ≤ 1152921504606846976 := by rw [hs']; exact hs
  have HS := Lib.hid hs'
  have HW := Lib.hid hw
  have ff := hw.fz
  have c0 := ht.c0
  have c1 := ht.c1
  have c2 := ht.c2
  have c3 := ht.c3
  have c4 := ht.c4
  have cf := ht.fz
  have d0 := hu.c0
  have d1 := hu.c1
  have d2 := hu.c2
  have d3 := hu.c3
  obtain ⟨d, hd⟩ : ∃ d, d = ptr (lastP none A) := ⟨_, rfl⟩
  have d4 : w.cell? ⟨q, 4, none⟩ = some d := by rw [hd]; exact hu.c4
  have df := hu.fz
  have HD := Lib.hid hd
  have HL := Lib.hid hlk.1
  have HBK : Hid (bk = ptr (headP (A ++ [(q, uk, un)]) none)) := by have := hw.back; rw [f1] at this; injection this
  have HN := Lib.hid hne
  simp only at c0 c1 c2 c3 c4 cf d0 d1 d2 d3 df hb hn
  clear hw ht hlk hu hs hs' hd hne
  go_enter Try.func54, Try.ntmps54
  go_wp2_with fail
  refine name_region ?_; intro W hW
  have k0 : W.cell? ⟨b, off, none⟩ = some (.pointer (some ⟨p, 0, none⟩)) := by subst hW; go_simp
  have k1 : W.cell? ⟨b, off + 1, none⟩ = some bk := by subst hW; go_simp
  have k2 : W.cell? ⟨b, off + 2, none⟩ = some (.int .i64 s) := by subst hW; go_simp
  have kf : ∀ o, W.frozen? ⟨b, o, none⟩ = false := by subst hW; intro o; go_simp
  have m0 : W.cell? ⟨p, 0, none⟩ = some (.int .i64 key) := by subst hW; go_simp
  have m1 : W.cell? ⟨p, 1, none⟩ = some (.int .i64 n) := by subst hW; go_simp
  have m2 : W.cell? ⟨p, 2, none⟩ = some (.bool kept) := by subst hW; go_simp
  have m3 : W.cell? ⟨p, 3, none⟩ = some (.pointer none) := by subst hW; go_simp
  have m4 : W.cell? ⟨p, 4, none⟩ = some (.pointer (some ⟨q, 0, none⟩)) := by subst hW; go_simp
  have mf : ∀ o, W.frozen? ⟨p, o, none⟩ = false := by subst hW; intro o; go_simp
  have n0 : W.cell? ⟨q, 0, none⟩ = some (.int .i64 uk) := by subst hW; go_simp
  have n1 : W.cell? ⟨q, 1, none⟩ = some (.int .i64 un) := by subst hW; go_simp
  have n2 : W.cell? ⟨q, 2, none⟩ = some (.bool kept) := by subst hW; go_simp
  have n3 : W.cell? ⟨q, 3, none⟩ = some (.pointer (some ⟨p, 0, none⟩)) := by subst hW; go_simp
  have n4 : W.cell? ⟨q, 4, none⟩ = some d := by subst hW; go_simp
  have nf : ∀ o, W.frozen? ⟨q, o, none⟩ = false := by subst hW; intro o; go_simp
  have gW : Chg (fun k => k = b ∨ k = p ∨ k = q) w W := by subst hW; exact (by repeat (first | with_reducible exact Chg.refl _ _ | with_reducible assumption | with_reducible refine Chg.drewN ?_ _ | with_reducible refine Chg.drew ?_ | with_reducible refine Chg.alloc ?_ _ | with_reducible refine Chg.setCell ?_ (by first | (left; rfl) | (left; left; rfl) | (left; right; rfl) | (left; right; left; rfl) | (left; right; right; rfl) | (right; exact Nat.le_refl _) | (right; simp; done) | (right; omega) | (right; simp at *; omega) | (simp at *; omega)) _ | with_reducible refine Chg.trans ?_ (by with_reducible assumption) (by intro i hi hT; first | exact hT | exact False.elim hT | omega | (simp at *; omega))))
  have kW0 : Keep b off w W := by subst hW; exact (by repeat (first | with_reducible exact Keep.refl _ _ _ | with_reducible assumption | with_reducible refine Keep.set ?_ (by first | (left; simp only; omega) | (right; simp only; omega)) _))
  have kW := Lib.hid kW0
  clear kW0
  clear hW f0 f1 f2 ff c0 c1 c2 c3 c4 cf d0 d1 d2 d3 d4 df
  have lb : b < W.heap.size := cell_lt k0
  have lp : p < W.heap.size := cell_lt m0
  have lq : q < W.heap.size := cell_lt n0
  (have hN : W.heap.size ≤ (World.heap W).size := by first | assumption | exact Nat.le_refl _ | (simp; done) | omega | (simp; omega) | (simp at *; omega)); (have kr := fun d os b o (h : b < W.heap.size) => (below_regrown W d os).cell (p := ⟨b, o, none⟩) (Nat.lt_of_lt_of_le h hN)); (refine wp_region_below_tail 11 (by kernel_rfl) (by kernel_rfl) ?_); (simp only [List.take_succ_cons, List.take_zero, List.drop_succ_cons, List.drop_zero]); (repeat (first | go_big_quiet_step ((first | fail)) | quiet_step ((first | fail)))); (refine wpQuiet_nil ?_); (intro w9 hw9); (obtain ⟨⟨dq, osq⟩, hw9⟩ := hw9); (have g9 := below_regrown W dq osq); (rw [← hw9] at g9); (have g9 : Below (W.heap.size) _ w9 := g9.mono hN); (have z9 : W.heap.size ≤ w9.heap.size := Nat.le_trans hN g9.size); (have c9 := fun b o h => g9.cell (p := ⟨b, o, none⟩) h); (have f9 := fun b o h => g9.frozen (p := ⟨b, o, none⟩) h); (clear hw9 kr hN g9)
  go_wp2
  go_end0
  have e : ∀ q o, q < W.heap.size → w9.cell? ⟨q, o, none⟩ = W.cell? ⟨q, o, none⟩ := fun q o h => c9 q o h
  have g9' : Chg (fun _ => False) W w9 := ⟨g9.os, g9.tape, g9.output, z9, fun k hk _ => g9.block k hk⟩
  have KF : Keep b off w (w9.setCell ⟨b, off + 2, none⟩ _) := Keep.set (kW.out.trans (Keep.chg g9' id lb)) (.inr ⟨by simp, by simp⟩) (.int .i64 (s + n))
  have hp : ∀ o o', (⟨b, o, none⟩ : Addr) ≠ ⟨p, o', none⟩ := fun o o' h => by injection h with h1; exact hb h1.symm
  have hq : ∀ o o', (⟨b, o, none⟩ : Addr) ≠ ⟨q, o', none⟩ := fun o o' h => by injection h with h1; exact hub h1.symm
  have K : Chg (fun k => k = b ∨ k = p ∨ k = q) w (w9.setCell ⟨b, off + 2, none⟩ (.int .i64 (s + n))) := (gW.trans g9' (fun _ _ h => h.elim)).setCell (p := ⟨b, off + 2, none⟩) (.inl (.inl rfl)) _
  refine ⟨rfl, ⟨?_, ?_, ?_, ?_, ?_, ?_, ?_⟩, K, KF⟩
  · rw [cell_other (by simp), e b _ lb, lastP_append]; exact k0
  · rw [cell_other (by simp), e b _ lb, k1, HBK.out]
    cases A <;> rfl
  · have h1 := HS.out
    rw [sumT_append] at h1
    rw [cell_same ((e b _ lb).trans k2), sumT_append]
    simp only [sumT] at h1 ⊢
    congr 2
    omega
  · intro o; rw [World.frozen?_setCell, f9 b o lb]; exact kf o
  · have hnd := HW.out.one
    rw [List.map_append, List.nodup_append] at hnd
    refine Lk.append.2 ⟨Lk.chg K HL.out fun x hx hS => ?_, ⟨⟨?_, ?_, ?_, ?_, ?_, ?_⟩, ⟨⟨?_, ?_, ?_, ?_, ?_, ?_⟩, trivial⟩⟩⟩
    · rcases hS with h | h | h
      · exact HW.out.apart x (by simp [hx]) h
      · exact HN.out x (by simp [hx]) h
      · exact hnd.2.2 x.1 (List.mem_map.2 ⟨x, hx, rfl⟩) q (by simp) h
    · rw [cell_other (hq _ _), e q _ lq]; exact n0
    · rw [cell_other (hq _ _), e q _ lq]; exact n1
    · rw [cell_other (hq _ _), e q _ lq]; exact n2
    · rw [cell_other (hq _ _), e q _ lq]; exact n3
    · rw [cell_other (hq _ _), e q _ lq, n4, HD.out]
    · intro o; rw [World.frozen?_setCell, f9 q o lq]; exact nf o
    · rw [cell_other (hp _ _), e p _ lp]; exact m0
    · rw [cell_other (hp _ _), e p _ lp]; exact m1
    · rw [cell_other (hp _ _), e p _ lp]; exact m2
    · rw [cell_other (hp _ _), e p _ lp]; exact m3
    · rw [cell_other (hp _ _), e p _ lp]; exact m4
    · intro o; rw [World.frozen?_setCell, f9 p o lp]; exact mf o
  · intro x hx
    rcases List.mem_append.1 hx with h | h
    · exact HW.out.apart x (by simp [h])
    · simp at h
      rcases h with h | h
      · subst h; exact hub
      · subst h; exact hb
  · have h1 := HW.out.one
    have e3 : (A ++ [(q, uk, un), (p, key, n)]).map (fun t => t.1) = (A ++ [(q, uk, un)]).map (fun t => t.1) ++ [p] := by simp
    rw [e3, List.nodup_append]
    refine ⟨h1, by simp, fun x hx y hy hxy => ?_⟩
    obtain ⟨z, hz, rfl⟩ := List.mem_map.1 hx
    simp at hy
    subst hy
    exact HN.out z hz hxy
/-- A thing goes to the front. -/
theorem push_any (w : World) (b off : Nat) (kept : Bool) (l : List Th) (t : Th) (a0 h0 : Option Nat) (hw : Rw w b off kept l) (ht : Nd w kept t h0 a0) (hb : t.1 ≠ b) (hne : ∀ x ∈ l, x.1 ≠ t.1) (hn : 0 ≤ t.2.2 ∧ t.2.2 ≤ 1099511627776) (hs : 0 ≤ sumT l ∧ sumT l ≤ 1152921504606846976) :
    Calls Try.prog 54 #[.pointer (some ⟨b, off, none⟩), .pointer (some ⟨t.1, 0, none⟩)] w fun e w' => e = .returned (.tuple #[]) ∧ Rw w' b off kept (l ++ [t]) ∧ Chg (fun k => k = b ∨ k = t.1 ∨ ∃ x ∈ l, k = x.1) w w' ∧ Keep b off w w' := by
  rcases List.eq_nil_or_concat l with rfl | ⟨A, u, rfl⟩
  · refine (push_empty w b off kept t a0 h0 hw ht hb hn).mono ?_
    rintro e w' ⟨h1, h2, h3, h4⟩
    exact ⟨h1, h2, h3.mono (fun k _ h => h.imp id .inl), h4⟩
  · simp only [List.concat_eq_append] at hw hne hs ⊢
    refine (push_more w b off kept A u t a0 h0 hw ht hb hne hn hs).mono ?_
    rintro e w' ⟨h1, h2, h3, h4⟩
    exact ⟨h1, h2, h3.mono (fun k _ h => h.imp id (fun h => h.imp id fun h => ⟨u, by simp, h⟩)), h4⟩
end Go.Proofs.Ytdoepjokaekckaa
