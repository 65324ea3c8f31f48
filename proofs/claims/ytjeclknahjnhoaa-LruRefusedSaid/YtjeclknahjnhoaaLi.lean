/- The laws' helper run. -/
import Derived.Test.YtjeclknahjnhoaaLh
import Derived.Test.YtjeclknahjnhoaaOpen
namespace Go.Proofs.Ytjeclknahjnhoaa
set_option linter.unusedVariables false
open Go.RowKit

theorem rf_new {w : World} {r : Nat} {most : Int} (h0 : w.cell? ⟨r, 0, none⟩ = some (.int .i64 most)) (h1 : w.cell? ⟨r, 1, none⟩ = some (.slice none 0 0)) (h2 : w.cell? ⟨r, 2, none⟩ = some (.slice none 0 0)) (fz : ∀ o, w.frozen? ⟨r, o, none⟩ = false) : Rf w (fun k => k = r) r most [] [] := by
  have e : IsP w none 0 [] := ⟨rfl, ⟨Nat.le_refl _, by unfold maxLen; omega⟩, fun _ => ⟨rfl, rfl⟩, by simp [flat], fun j u hj => by simp [flat] at hj, fun x hx => by cases hx⟩
  exact ⟨none, 0, none, 0, ⟨h0, h1, h2, fz, e, e, fun g hg => by simp [Value.ownBlock] at hg, fun g hg => by simp [Value.ownBlock] at hg⟩, rfl, fun g hg => by simp [Value.ownBlock] at hg, fun g hg => by simp [Value.ownBlock] at hg, fun k hk => by rw [hk]; exact cell_lt h0⟩
theorem p4_new {w0 w1 w2 : World} {most : Int} (hm : badMost most = false) (g : Chg (fun _ => False) w0 w1) (h1 : Ls w1 (fun k => k = w0.heap.size) w0.heap.size most 0 [] []) (g2 : Chg (fun _ => False) w1 w2) (h2 : Rf w2 (fun k => k = w1.heap.size) w1.heap.size most [] []) : P4 w0 (fun _ => False) w0.heap.size w1.heap.size most 0 [] [] [] [] w2 := by
  have hl := h1.lt w0.heap.size rfl
  have hs := g.size
  have h0 : 0 ≤ most := by simp [badMost] at hm; omega
  exact ⟨_, _, h1.still g2, h2, fun k hk hk2 => by omega, fun k hk => by omega, fun k hk => by omega, g.trans g2 fun _ _ h => h, fun k hk => hk.elim, inv_empty h0, inv_empty h0, h0, by simp⟩
def RunOk (w : World) (most : Int) (e : Ending) (w' : World) : Prop := ∃ b r T K, e = .returned (.tuple #[.pointer (some ⟨b, 0, none⟩), .pointer (some ⟨r, 0, none⟩)]) ∧ P4 w (fun _ => False) b r most 120 T K T K w'
def RunNo (w : World) (e : Ending) (w' : World) : Prop := ∃ r, e = .returned (.tuple #[.pointer none, .pointer (some ⟨r, 0, none⟩)]) ∧ Chg (fun _ => False) w w'
def badRun (most : Int) (n : Nat) : Bool := badMost most || decide (60 < n)

set_option maxHeartbeats 2000000 in
theorem run_no (w : World) (most : Int) (a : Option Addr) (n c : Nat) (h : badRun most n = true) (hn : n ≤ 9223372036854775807) :
    Calls Try.prog 23 #[.int .i64 most, .slice a n c] w (RunNo w) := by
  cases hb : badMost most with
  | true =>
    have HB := Lib.hid hb
    clear h hb
    go_enter Try.func23, Try.ntmps23
    go_wp2_with fail
    refine (new_bad w most HB.out).mono ?_
    rintro e w1 ⟨rfl, rfl⟩
    go_wp2
    go_ret2
    exact ⟨_, rfl, (by repeat (first | with_reducible exact Chg.refl _ _ | with_reducible assumption | with_reducible refine Chg.drewN ?_ _ | with_reducible refine Chg.drew ?_ | with_reducible refine Chg.alloc ?_ _ | with_reducible refine Chg.setCell ?_ (by first | (left; rfl) | (left; left; rfl) | (left; right; rfl) | (left; right; left; rfl) | (left; right; right; rfl) | (right; exact Nat.le_refl _) | (right; simp; done) | (right; omega) | (right; simp at *; omega) | (simp at *; omega)) _ | with_reducible refine Chg.trans ?_ (by with_reducible assumption) (by intro i hi hT; first | exact hT | exact False.elim hT | omega | (simp at *; omega))))⟩
  | false =>
    have h60 : 60 < n := by rw [badRun, hb] at h; simpa using h
    have q1 : decide ((60 : Int) < (n : Int)) = true := by simp; omega
    have q2 : (60 : Int) < (n : Int) := by omega
    have HB := Lib.hid hb
    clear h hb
    go_enter Try.func23, Try.ntmps23
    go_wp2_with fail
    refine (new_ls w most HB.out).mono ?_
    rintro e w1 ⟨rfl, hL, g1⟩
    have G1 := Lib.hid g1
    clear hL g1
    go_wp2_with fail
    refine (may_any _ most).mono ?_
    rintro e w2 ⟨rfl, rfl⟩
    rw [HB.out]
    go_wp2
    go_ret2
    exact ⟨_, rfl, G1.out.trans (T := fun _ => False) (by repeat (first | with_reducible exact Chg.refl _ _ | with_reducible assumption | with_reducible refine Chg.drewN ?_ _ | with_reducible refine Chg.drew ?_ | with_reducible refine Chg.alloc ?_ _ | with_reducible refine Chg.setCell ?_ (by first | (left; rfl) | (left; left; rfl) | (left; right; rfl) | (left; right; left; rfl) | (left; right; right; rfl) | (right; exact Nat.le_refl _) | (right; simp; done) | (right; omega) | (right; simp at *; omega) | (simp at *; omega)) _ | with_reducible refine Chg.trans ?_ (by with_reducible assumption) (by intro i hi hT; first | exact hT | exact False.elim hT | omega | (simp at *; omega)))) fun _ _ h => h⟩

set_option maxHeartbeats 2000000 in
theorem run_ok (w : World) (most : Int) (v : Value) (l : List (Int × Int × Int)) (h : badRun most l.length = false) (hL : IsL3 .i64 .i64 .i64 w v l) :
    Calls Try.prog 23 #[.int .i64 most, v] w (RunOk w most) := by
  obtain ⟨hwf, a, cap, rfl, hlen, hc⟩ := hL
  rw [badRun, Bool.or_eq_false_iff] at h
  obtain ⟨hb, h60⟩ := h
  have h60' : l.length ≤ 60 := by simpa using h60
  have q1 : decide ((60 : Int) < (l.length : Int)) = false := by simp; omega
  have HC := Lib.hid hc
  have HWF := Lib.hid hwf
  have HB := Lib.hid hb
  clear hc hwf hb h60
  go_enter Try.func23, Try.ntmps23
  go_wp2_with fail
  refine (new_ls w most HB.out).mono ?_
  rintro e w1 ⟨rfl, hL, g1⟩
  have G1 := Lib.hid g1
  have HL := Lib.hid hL
  clear hL g1
  go_wp2_with fail
  refine name_calls ?_; intro W hW
  have gW : Chg (fun _ => False) w1 W := by subst hW; exact (by repeat (first | with_reducible exact Chg.refl _ _ | with_reducible assumption | with_reducible refine Chg.drewN ?_ _ | with_reducible refine Chg.drew ?_ | with_reducible refine Chg.alloc ?_ _ | with_reducible refine Chg.setCell ?_ (by first | (left; rfl) | (left; left; rfl) | (left; right; rfl) | (left; right; left; rfl) | (left; right; right; rfl) | (right; exact Nat.le_refl _) | (right; simp; done) | (right; omega) | (right; simp at *; omega) | (simp at *; omega)) _ | with_reducible refine Chg.trans ?_ (by with_reducible assumption) (by intro i hi hT; first | exact hT | exact False.elim hT | omega | (simp at *; omega))))
  have hR : Rf W (fun k => k = w1.heap.size) w1.heap.size most [] [] := by subst hW; exact rf_new (by go_simp) (by go_simp) (by go_simp) (by intro o; go_simp)
  clear hW
  have HP := Lib.hid (p4_new HB.out G1.out HL.out gW hR)
  clear hR gW
  obtain ⟨b, hb⟩ : ∃ b, b = w.heap.size := ⟨_, rfl⟩
  obtain ⟨r, hr⟩ : ∃ r, r = w1.heap.size := ⟨_, rfl⟩
  rw [← hb, ← hr] at HP
  rw [← hb, ← hr]
  clear hb hr
  refine (may_any W most).mono ?_
  rintro e w2 ⟨rfl, rfl⟩
  rw [HB.out]
  go_wp2_with fail
  go_loopw [34] (fun i wr => ∃ k : Nat, k ≤ l.length ∧ i = .int .i64 (↑k : Int) ∧ Hid (∃ T K, P4 w (fun _ => False) b r most (2 * k) T K T K wr)) (fun i _ => l.length - (intOf i).toNat)
  case atStart => exact ⟨0, by omega, rfl, _, _, HP.out⟩
  case round =>
    obtain ⟨k, hk, rfl, HQ⟩ := hrel
    by_cases hlt : k < l.length
    · obtain ⟨lb, lo, rfl, hlb, hc⟩ := HC.out (by omega)
      obtain ⟨⟨kd, x, n⟩, hx⟩ : ∃ x, l[k]? = some x := ⟨_, List.getElem?_eq_getElem hlt⟩
      obtain ⟨kc0, kc1, kc2⟩ := hc k _ hx
      obtain ⟨T, K, hP⟩ := HQ.out
      have HG := Lib.hid hP.g
      have e0 : wr.cell? ⟨lb, lo + k * 3, none⟩ = some (.int .i64 kd) := by rw [HG.out.cell hlb id]; exact kc0
      have e1 : wr.cell? ⟨lb, lo + k * 3 + 1, none⟩ = some (.int .i64 x) := by rw [HG.out.cell hlb id]; exact kc1
      have e2 : wr.cell? ⟨lb, lo + k * 3 + 2, none⟩ = some (.int .i64 n) := by rw [HG.out.cell hlb id]; exact kc2
      have hw := (HWF.out _ (List.mem_of_getElem? hx)).2.1
      have HP2 := Lib.hid hP
      clear kc0 kc1 kc2 hc hx hP
      go_wp2_with fail
      refine name_calls ?_; intro W2 hW2
      have gW2 : Chg (fun _ => False) wr W2 := by subst hW2; exact (by repeat (first | with_reducible exact Chg.refl _ _ | with_reducible assumption | with_reducible refine Chg.drewN ?_ _ | with_reducible refine Chg.drew ?_ | with_reducible refine Chg.alloc ?_ _ | with_reducible refine Chg.setCell ?_ (by first | (left; rfl) | (left; left; rfl) | (left; right; rfl) | (left; right; left; rfl) | (left; right; right; rfl) | (right; exact Nat.le_refl _) | (right; simp; done) | (right; omega) | (right; simp at *; omega) | (simp at *; omega)) _ | with_reducible refine Chg.trans ?_ (by with_reducible assumption) (by intro i hi hT; first | exact hT | exact False.elim hT | omega | (simp at *; omega))))
      clear hW2
      have HP3 := Lib.hid (HP2.out.still gW2)
      clear gW2
      refine (do_any w W2 _ b r most (2 * k) T K kd x n HP3.out (by omega) hw).mono ?_
      rintro e w4 ⟨rfl, hP4, _⟩
      have HP4 := Lib.hid hP4
      clear hP4
      go_wp2
      go_roundw
      case rel => exact ⟨k + 1, by omega, by go_num, _, _, HP4.out.mono (by omega)⟩
      case measure => simp [intOf]; omega
    · obtain rfl : k = l.length := by omega
      obtain ⟨T, K, hP⟩ := HQ.out
      have HP2 := Lib.hid (hP.mono (N' := 120) (by omega))
      clear hP
      go_wp2
      go_ret2
      exact ⟨b, r, T, K, rfl, HP2.out⟩
end Go.Proofs.Ytjeclknahjnhoaa
