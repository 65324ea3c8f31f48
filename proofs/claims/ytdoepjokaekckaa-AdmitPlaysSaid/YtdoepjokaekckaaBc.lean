/- The book's call Add, where it fits. -/
import Derived.Test.YtdoepjokaekckaaBb
namespace Go.Proofs.Ytdoepjokaekckaa
set_option linter.unusedVariables false
open Go.RowKit

set_option maxHeartbeats 2000000 in
theorem badd_any (w : World) (b N : Nat) (room share all : Int) (v : Value) (F : List UInt8 → Int) (s : ByteArray) (n : Int) (h : Bk w b room share all v N F) (hs : s.size ≤ 200) (hb : 0 ≤ all ∧ all ≤ 1125899906842624 ∧ 0 ≤ F s.data.toList ∧ F s.data.toList ≤ 1125899906842624 ∧ 0 ≤ n ∧ n ≤ 1125899906842624) (hN : N ≤ 10000000) (h1 : all + n ≤ room) (h2 : F s.data.toList + n ≤ share) :
    Calls Try.prog 31 #[.pointer (some ⟨b, 0, none⟩), .string s, .int .i64 n] w fun e w' => e = .returned (.int .i64 0) ∧ BkPost w b room share (all + n) v (N + 1) (putF F s.data.toList (F s.data.toList + n)) w' := by
  have c0 := h.c0
  have c1 := h.c1
  have c2 := h.c2
  have c3 := h.c3
  have H := Lib.hid h
  have hs2 : s.size ≤ maxLen := by unfold maxLen; omega
  have HB := Lib.hid hb
  obtain ⟨f, hf⟩ : ∃ f, f = F s.data.toList := ⟨_, rfl⟩
  rw [← hf] at hb h2
  have hlk : ∀ d, (Instr.lookup 49 v (.string s) false).run Try.prog (w.drewN d) = .ok (.int .i64 f) (w.drewN d) := fun d => by
    rw [hf]; exact (H.out.mp.chg (S := fun _ => False) (by repeat (first | with_reducible exact Chg.refl _ _ | with_reducible assumption | with_reducible refine Chg.drewN ?_ _ | with_reducible refine Chg.drew ?_ | with_reducible refine Chg.alloc ?_ _ | with_reducible refine Chg.setCell ?_ (by first | (left; rfl) | (left; left; rfl) | (left; right; rfl) | (left; right; left; rfl) | (left; right; right; rfl) | (right; exact Nat.le_refl _) | (right; simp; done) | (right; omega) | (right; simp at *; omega) | (simp at *; omega)) _ | with_reducible refine Chg.trans ?_ (by with_reducible assumption) (by intro i hi hT; first | exact hT | exact False.elim hT | omega | (simp at *; omega)))) fun _ _ => id).get hs2
  have q1 : decide (room < all + n) = false := by simp; omega
  have q2 : decide (share < f + n) = false := by simp; omega
  have e1 : IntKind.i64.wrap (all + n) = all + n := IntWalk.i64_in _ (by omega)
  have e2 : IntKind.i64.wrap (f + n) = f + n := IntWalk.i64_in _ (by omega)
  have HF := Lib.hid hf
  clear h hf
  go_enter Try.func31, Try.ntmps31
  go_wp2_with fail
  refine (asks_yes w b s n hs (by omega)).mono ?_
  rintro e w' ⟨rfl, rfl⟩
  go_upto_region 3 with fail
  go_quiet (fail)
  clear hlk
  go_upto_region 5 with fail
  refine name_region ?_; intro W hW
  have gW : Chg (fun _ => False) w W := by subst hW; exact (by repeat (first | with_reducible exact Chg.refl _ _ | with_reducible assumption | with_reducible refine Chg.drewN ?_ _ | with_reducible refine Chg.drew ?_ | with_reducible refine Chg.alloc ?_ _ | with_reducible refine Chg.setCell ?_ (by first | (left; rfl) | (left; left; rfl) | (left; right; rfl) | (left; right; left; rfl) | (left; right; right; rfl) | (right; exact Nat.le_refl _) | (right; simp; done) | (right; omega) | (right; simp at *; omega) | (simp at *; omega)) _ | with_reducible refine Chg.trans ?_ (by with_reducible assumption) (by intro i hi hT; first | exact hT | exact False.elim hT | omega | (simp at *; omega))))
  have k3 : W.cell? ⟨b, 3, none⟩ = some v := by subst hW; go_simp
  clear hW
  have HW := Lib.hid (H.out.still gW)
  have HM := Lib.hid HW.out.mp
  have GW := Lib.hid gW
  clear gW c0 c1 c2 c3
  go_wp2_with (at_lookup; go_loud (refine list_nget rfl _ _ rfl v N F rfl HM.out s rfl hs2 ?_; rw [← HF.out]))
  refine (set_any W b N room share all v F s (f + n) HW.out hs2 (by have := HB.out; rw [← HF.out] at this ⊢; omega) hN).mono ?_
  rintro e w1 ⟨rfl, hP⟩
  rw [← HF.out] at hP
  have HP := Lib.hid hP
  clear hP
  go_wp2
  go_ret
  have e : all + (f + n - f) = all + n := by omega
  have hP := HP.out
  rw [e] at hP
  rw [← HF.out]
  obtain ⟨m, p1, p2, p3⟩ := hP
  refine ⟨rfl, m, p1, ?_, (GW.out.mono (T := ownB b v) fun _ _ h => h.elim).trans p3 fun _ _ h => h⟩
  rcases p2 with h | h
  · exact .inl h
  · exact .inr (Nat.le_trans GW.out.size h)
end Go.Proofs.Ytdoepjokaekckaa
