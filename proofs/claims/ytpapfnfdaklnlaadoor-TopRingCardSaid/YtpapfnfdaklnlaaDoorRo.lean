/- Who has an object. -/
import Derived.Test.YtpapfnfdaklnlaaDoorRm
import Derived.Test.YtpapfnfdaklnlaaDoorSh
import Derived.Deep.CutBlock
namespace Go.Proofs.YtpapfnfdaklnlaaDoor
set_option linter.unusedVariables false
open Go.RowKit

theorem find_at (h : Int) : ∀ (L : List Pt) (k : Nat) (x : Pt), L[k]? = some x → h ≤ x.1 → (∀ (i : Nat) y, L[i]? = some y → i < k → y.1 < h) → L.find? (fun p => decide (h ≤ p.1)) = some x
  | [], k, x, hx, _, _ => by simp at hx
  | y :: L, 0, x, hx, hh, _ => by
    simp at hx
    subst hx
    simp [hh]
  | y :: L, k + 1, x, hx, hh, hl => by
    have h0 := hl 0 y (by simp) (by omega)
    have hn : decide (h ≤ y.1) = false := by simp; omega
    rw [List.find?_cons, hn]
    exact find_at h L k x (by simpa using hx) hh fun i z hz hi => hl (i + 1) z (by simpa using hz) (by omega)
theorem owner_at {L : List Pt} {h : Int} {k j : Nat} {x : Pt} (hk : ∀ (i : Nat) y, L[i]? = some y → (i < k ↔ y.1 < h)) (hj : (k < L.length ∧ j = k) ∨ (L.length ≤ k ∧ j = 0)) (hx : L[j]? = some x) : ownerL L h = some x.2 := by
  unfold ownerL
  rcases hj with ⟨h1, rfl⟩ | ⟨h1, rfl⟩
  · have hh : h ≤ x.1 := by
      have : ¬ x.1 < h := fun hh => Nat.lt_irrefl j ((hk j x hx).2 hh)
      omega
    rw [find_at h L j x hx hh fun i y hy hi => (hk i y hy).1 hi]
    rfl
  · have hn : L.find? (fun p => decide (h ≤ p.1)) = none := List.find?_eq_none.2 fun y hy => by
      obtain ⟨i, hi, rfl⟩ := List.mem_iff_getElem.1 hy
      have := (hk i L[i] (List.getElem?_eq_getElem hi)).1 (by omega)
      simp; omega
    rw [hn]
    cases L with
    | nil => simp at hx
    | cons y L => simp at hx; subst hx; rfl
theorem owner_nil (h : Int) : ownerL [] h = none := rfl

set_option maxHeartbeats 1000000 in
theorem search_nil (h : Int) (w : World) :
    Calls Tryd.prog 42 #[.slice none 0 0, .int .u64 h, .func (.func 43) #[] #[]] w fun e w' => e = .returned (.tuple #[.int .i64 0, .bool false]) ∧ w = w' := by
  go_enter Tryd.func42, Tryd.ntmps42
  go_wp2
  refine wp_loop_rounds 1 ?_
  rw [rounds_succ]
  go_wp2
  go_ret2
  exact ⟨rfl, rfl⟩
/-- What the search tells. -/
def Place (L : List Pt) (h : Int) (k : Nat) : Prop := k ≤ L.length ∧ ∀ (i : Nat) y, L[i]? = some y → (i < k ↔ y.1 < h)
theorem search_any {b U : Nat} {v pv : Value} {K : List UInt8 → Bool} {L : List Pt} {w : World} (hr : Rg w b v pv U K L) (hU : U ≤ 100) (h : Int) :
    Calls Tryd.prog 42 #[pv, .int .u64 h, .func (.func 43) #[] #[]] w fun e w' => (∃ (k : Nat) (b : Bool), e = .returned (.tuple #[.int .i64 k, .bool b]) ∧ Place L h k) ∧ Below w.heap.size w w' := by
  have hl := hr.len
  rcases hr.ow.2 with ⟨h1, h2⟩ | ⟨g, cap, cur, h1, _⟩
  · rw [h1]
    have hL : L = [] := List.eq_nil_of_length_eq_zero h2
    subst hL
    refine (search_nil h w).mono ?_
    rintro e w' ⟨rfl, rfl⟩
    exact ⟨⟨0, false, rfl, Nat.zero_le _, fun i y hy => by simp at hy⟩, Below.refl _ _⟩
  · have ho := hr.ow
    rw [h1] at ho ⊢
    refine (search_pts 0 g cap L.length L h w rfl (by omega) ho hr.asc).mono ?_
    rintro e w' ⟨⟨k, b, rfl, h3, h4⟩, hb⟩
    exact ⟨⟨k, b, rfl, h3, h4⟩, hb⟩
end Go.Proofs.YtpapfnfdaklnlaaDoor
