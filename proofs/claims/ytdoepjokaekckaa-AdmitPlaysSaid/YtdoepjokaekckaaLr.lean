/- The reference: find, sum, without. -/
import Derived.Test.YtdoepjokaekckaaLw
namespace Go.Proofs.Ytdoepjokaekckaa
set_option linter.unusedVariables false
open Go.RowKit

section
variable {w w' : World} {a : Option Addr} {c : Nat} {fs : List Pt}
theorem IsP.take (h : IsP w a c fs) (i : Nat) (hi : i ≤ fs.length) (a' : Option Addr) (ha : a' = a ∨ a' = a.map (·.add 0)) : RdS w 2 a' i i (flat (fs.take i)) := by
  have e : a' = a := by
    rcases ha with h | h
    · exact h
    · rw [h]; cases a <;> simp [Addr.add]
  subst e
  refine ⟨by rw [flat_len, List.length_take, Nat.min_eq_left hi], ⟨Nat.le_refl _, by have := h.le; omega⟩, fun e => by have := h.nil e; omega, flat_one _, fun j u hj => ?_, h.adr⟩
  rw [flat_take] at hj
  rw [List.getElem?_take] at hj
  by_cases hj2 : j < i * 2
  · rw [if_pos hj2] at hj; exact h.cells j u hj
  · rw [if_neg hj2] at hj; cases hj
theorem IsP.drop (h : IsP w a c fs) (k : Nat) (hk : k ≤ fs.length) : RdS w 2 (if c = k then a else a.map (·.add (k * 2))) (fs.length - k) (c - k) (flat (fs.drop k)) := by
  have hl := h.le
  refine ⟨by rw [flat_len, List.length_drop], by omega, fun e => ?_, flat_one _, fun j u hj => ?_, fun x hx => ?_⟩
  · by_cases hc : c = k
    · omega
    · rw [if_neg hc] at e
      cases a with
      | none => have := h.nil rfl; omega
      | some x => simp at e
  · rw [flat_drop, List.getElem?_drop] at hj
    obtain ⟨g, o, rfl, hc⟩ := h.cells _ _ hj
    have hlt := (List.getElem?_eq_some_iff.1 hj).1
    rw [flat_len] at hlt
    by_cases hck : c = k
    · omega
    · rw [if_neg hck]
      refine ⟨g, o + k * 2, by simp [Addr.add_lit], by rw [Nat.add_assoc]; exact hc⟩
  · by_cases hc : c = k
    · rw [if_pos hc] at hx; exact h.adr x hx
    · rw [if_neg hc] at hx
      cases a with
      | none => cases hx
      | some y =>
        obtain ⟨g, o, rfl⟩ := h.adr y rfl
        simp only [Option.map_some, Addr.add_lit] at hx
        injection hx with hx
        exact ⟨_, _, hx.symm⟩
end
theorem RdS.drew {w : World} {sz n cap : Nat} {a : Option Addr} {xs : List Value} (h : RdS w sz a n cap xs) : RdS w.drew sz a n cap xs := ⟨h.1, h.2, h.3, h.4, h.5, h.6⟩
theorem RdS.cast {w : World} {sz n cap m : Nat} {a : Option Addr} {xs : List Value} (h : RdS w sz a n cap xs) (e : n = m) : RdS w sz a m cap xs := e ▸ h
theorem IsP.rest {w : World} {g o c : Nat} {A R : List Pt} (h : IsP w (some ⟨g, o, none⟩) c (A ++ R)) (k : Nat) (hk : A.length = k) : RdS w.drew 2 (if c = k then some ⟨g, o, none⟩ else some ⟨g, o + k * 2, none⟩) R.length (c - k) (flat R) := by
  subst hk
  have h2 := (h.drop A.length (by simp)).drew
  rw [List.drop_left, List.length_append, Nat.add_sub_cancel_left] at h2
  have e : (if c = A.length then some (⟨g, o, none⟩ : Addr) else Option.map (fun x : Addr => x.add (A.length * 2)) (some (⟨g, o, none⟩ : Addr))) = (if c = A.length then some (⟨g, o, none⟩ : Addr) else some ⟨g, o + A.length * 2, none⟩) := by
    simp only [Option.map_some, Addr.add_lit]
  rw [e] at h2
  exact h2
theorem IsP.init {w : World} {g o c : Nat} {A R : List Pt} (h : IsP w (some ⟨g, o, none⟩) c (A ++ R)) : RdS w 2 (some ⟨g, o, none⟩) A.length A.length (flat A) := by
  have := h.take A.length (by simp) _ (.inl rfl)
  rw [List.take_left] at this
  exact this

theorem own_drew {w : World} {B : Nat} {e : TypeId} {sz n : Nat} {v : Value} {xs : List Value} (h : w.ownsRow B e sz v n xs) : w.drew.ownsRow B e sz v n xs := h
theorem IsP.front {w : World} {a : Option Addr} {c : Nat} {A R : List Pt} (h : IsP w a c (A ++ R)) : RdS w 2 a A.length c (flat A) := by
  have h1 := h.take A.length (by simp) _ (.inl rfl)
  rw [List.take_left] at h1
  have hl := h.le
  rw [List.length_append] at hl
  refine ⟨h1.1, ⟨by omega, hl.2⟩, fun e => ?_, h1.4, h1.5, h1.6⟩
  have := h.nil e
  rw [List.length_append] at this
  omega
def findI (l : List Pt) (x : Int) : Int := match l.findIdx? (isK x) with | some i => i | none => -1
theorem findI_yes {A B : List Pt} {x n : Int} (hA : hasK A x = false) : findI (A ++ (x, n) :: B) x = A.length := by
  unfold findI
  have h : A.findIdx? (isK x) = none := List.findIdx?_eq_none_iff.2 fun u hu => hasK_false.1 hA u hu
  rw [List.findIdx?_append, h]
  simp [isK, List.findIdx?_cons]
theorem findI_no {l : List Pt} {x : Int} (h : hasK l x = false) : findI l x = -1 := by
  unfold findI
  rw [List.findIdx?_eq_none_iff.2 fun u hu => hasK_false.1 h u hu]
theorem split_at {l : List Pt} {k : Nat} {t : Pt} (h : l[k]? = some t) : l = l.take k ++ t :: l.drop (k + 1) := by
  obtain ⟨hl, he⟩ := List.getElem?_eq_some_iff.1 h
  rw [← he, List.getElem_cons_drop, List.take_append_drop]
theorem take_step {l : List Pt} {k : Nat} {t : Pt} (h : l[k]? = some t) : l.take (k + 1) = l.take k ++ [t] := by
  rw [List.take_add_one, h]; rfl
set_option maxHeartbeats 1000000 in
theorem find_any (w : World) (a : Option Addr) (c : Nat) (l : List Pt) (x : Int) (h : IsP w a c l) (hl : l.length ≤ 100000) :
    Calls Try.prog 59 #[.slice a l.length c, .int .i64 x] w fun e w' => e = .returned (.int .i64 (findI l x)) ∧ w = w' := by
  have H := Lib.hid h
  clear h
  go_enter Try.func59, Try.ntmps59
  go_wp2
  go_loop [5] (fun i => ∃ k : Nat, k ≤ l.length ∧ i = .int .i64 (↑k : Int) ∧ Hid (hasK (l.take k) x = false)) (fun i => l.length - (intOf i).toNat)
  case atStart => exact ⟨0, by omega, rfl, rfl⟩
  case round =>
    obtain ⟨k, hk, rfl, HN⟩ := hrel
    by_cases hkt : k < l.length
    · obtain ⟨⟨y, n⟩, ht⟩ : ∃ t, l[k]? = some t := ⟨_, List.getElem?_eq_getElem hkt⟩
      obtain ⟨g, o, rfl, k0, k1⟩ := H.out.at ht
      have HT := Lib.hid ht
      clear ht
      by_cases e : y = x
      · subst e
        go_wp2
        go_ret
        exact ⟨ret_int (by
          rw [split_at HT.out, findI_yes HN.out, List.length_take, Nat.min_eq_left (by omega)]), rfl⟩
      · have q1 : (y == x) = false := by simpa using e
        have HE := Lib.hid e
        clear e
        go_wp2
        go_round
        case rel => exact ⟨k + 1, by omega, by go_num, by
          show hasK _ _ = false
          rw [take_step HT.out, hasK_append, HN.out]
          simpa [hasK, isK] using HE.out⟩
        case measure => simp [intOf]; omega
    · obtain rfl : k = l.length := by omega
      go_wp2
      go_ret
      exact ⟨ret_int (by rw [findI_no (by have := HN.out; rw [List.take_length] at this; exact this)]), rfl⟩
set_option maxHeartbeats 1000000 in
theorem sum_any (w : World) (a : Option Addr) (c : Nat) (l : List Pt) (h : IsP w a c l) (hl : l.length ≤ 1000) (hb : ∀ t ∈ l, 1 ≤ t.2 ∧ t.2 ≤ 1099511627776) :
    Calls Try.prog 65 #[.slice a l.length c] w fun e w' => e = .returned (.int .i64 (sumP l)) ∧ w = w' := by
  have H := Lib.hid h
  have HB := Lib.hid hb
  clear h hb
  go_enter Try.func65, Try.ntmps65
  go_wp2
  go_loop [3, 4] (fun s i => ∃ k : Nat, k ≤ l.length ∧ i = .int .i64 (↑k : Int) ∧ s = .int .i64 (sumP (l.take k))) (fun _ i => l.length - (intOf i).toNat)
  case atStart => exact ⟨0, by omega, rfl, rfl⟩
  case round =>
    obtain ⟨k, hk, rfl, hs⟩ := hrel
    by_cases hkt : k < l.length
    · obtain ⟨⟨y, n⟩, ht⟩ : ∃ t, l[k]? = some t := ⟨_, List.getElem?_eq_getElem hkt⟩
      obtain ⟨g, o, rfl, k0, k1⟩ := H.out.at ht
      obtain ⟨s, hs2⟩ : ∃ s, s = sumP (l.take k) := ⟨_, rfl⟩
      rw [← hs2] at hs
      obtain rfl := hs
      have hn := HB.out _ (List.mem_of_getElem? ht)
      simp only at hn
      have h1 := sum_nonneg (l := l.take k) fun t ht => (HB.out t (List.mem_of_mem_take ht)).1
      have h2 := sum_le (l := l.take k) fun t ht => (HB.out t (List.mem_of_mem_take ht)).2
      rw [← hs2, List.length_take, Nat.min_eq_left (by omega)] at h2
      rw [← hs2] at h1
      have h2' : s ≤ 1099511627776 * 1000 := by omega
      have hst : Hid (s + n = sumP (l.take (k + 1))) := by
        show _ = _
        rw [take_step ht, sumP_append, ← hs2]; simp [sumP]
      clear ht hs2 h2
      go_wp2
      go_round
      case rel => exact ⟨k + 1, by omega, by go_num, by rw [← hst.out]⟩
      case measure => simp [intOf]; omega
    · obtain rfl : k = l.length := by omega
      rw [List.take_length] at hs
      obtain rfl := hs
      go_wp2
      go_ret
      exact ⟨rfl, rfl⟩

set_option maxHeartbeats 2000000 in
set_option maxRecDepth 100000 in
theorem without_any (w : World) (a : Option Addr) (c : Nat) (A B : List Pt) (t : Pt) (h : IsP w a c (A ++ t :: B)) (hl : A.length + B.length ≤ 100000) :
    Calls Try.prog 66 #[.slice a (A ++ t :: B).length c, .int .i64 (A.length : Int)] w fun e w' => (∃ a' c', e = .returned (.slice a' (A ++ B).length c') ∧ w'.ownsRow w.heap.size 127 2 (.slice a' (A ++ B).length c') (A ++ B).length (flat (A ++ B))) ∧ Chg (fun _ => False) w w' := by
  obtain ⟨ie, hie, ez0, ez1, ez2⟩ := info_parts infoThing
  obtain ⟨g, o, rfl, _, _⟩ := h.at (j := A.length) (t := t) (by simp)
  have hlen : A.length + B.length + 1 = (A ++ t :: B).length := by simp; omega
  have hc : A.length + (B.length + 1) ≤ c ∧ c ≤ 9223372036854775807 := by have := h.le; unfold maxLen at this; simp at this; omega
  have H := Lib.hid h
  have RX : Hid (RdS w 2 (if c = A.length + 1 then some ⟨g, o, none⟩ else some ⟨g, o + (A.length + 1) * 2, none⟩) B.length (c - (A.length + 1)) (flat B)) := by
    have h' : IsP w (some ⟨g, o, none⟩) c ((A ++ [t]) ++ B) := by simpa using h
    have := h'.rest (A.length + 1) (by simp)
    exact ⟨this.1, this.2, this.3, this.4, this.5, this.6⟩
  have RI := Lib.hid h.front
  obtain ⟨L, hL⟩ : ∃ L, L = (A ++ t :: B).length := ⟨_, rfl⟩
  rw [← hL]
  have HL : Hid (L = A.length + 1 + B.length) := by show _ = _; omega
  have hL2 : (L : Int) = (A.length : Int) + 1 + B.length := by omega
  rw [← hL] at hlen
  clear h hL
  go_enter Try.func66, Try.ntmps66
  go_wp2_with fail
  have q1 : IntKind.i64.wrap ((A.length : Int) + 1) = (A.length : Int) + 1 := IntWalk.i64_in _ (by omega)
  have q2 : A.length ≤ c := by omega
  have q3 : A.length + 1 ≤ L := by have := HL.out; omega
  have q4 : L ≤ c := by have := HL.out; omega
  have q5 : L - (A.length + 1) = B.length := by have := HL.out; omega
  have q6 : ((A.length : Int) + 1).toNat = A.length + 1 := by omega
  have q7 : 0 ≤ (A.length : Int) + 1 := by omega
  have q8 : ((A.length : Int) + 1) = ((A.length + 1 : Nat) : Int) := by omega
  have q9 : (A.length : Int) + 1 ≤ (A.length : Int) + 1 + (B.length : Int) := by omega
  clear q8
  have H0 : Hid (A.length + B.length = (A ++ B).length) := by show _ = _; simp
  go_region_law (first
    | (refine step_owned (by rfl) _ _ 77 (by rfl) w.heap.size 127 ie _ 2 16 Try.underlying77 hie ez0 ez1 ez2 rfl (by decide) (by rfl) (by rfl) (by first | exact row_empty (by simp) (by simp) (by unfold maxLen; omega) | exact own_drew (row_empty (by simp) (by simp) (by unfold maxLen; omega))) (by simp) (RdS.block RI.out (S := fun _ => False) (by repeat (first | with_reducible exact Chg.refl _ _ | with_reducible assumption | with_reducible refine Chg.drewN ?_ _ | with_reducible refine Chg.drew ?_ | with_reducible refine Chg.alloc ?_ _ | with_reducible refine Chg.setCell ?_ (by first | (left; rfl) | (left; left; rfl) | (left; right; rfl) | (left; right; left; rfl) | (left; right; right; rfl) | (right; exact Nat.le_refl _) | (right; simp; done) | (right; omega) | (right; simp at *; omega) | (simp at *; omega)) _ | with_reducible refine Chg.trans ?_ (by with_reducible assumption) (by intro i hi hT; first | exact hT | exact False.elim hT | omega | (simp at *; omega)))) (fun _ _ h => h)) (by unfold maxLen; omega) (by omega) (by simp) ?_; intro a1 c1 w1 ho1 hg1 hone1; rw [Nat.zero_add, List.nil_append] at ho1; rw [List.nil_append] at hone1; have s1 := hg1.size; simp at s1; have j1 : Chg (fun _ => False) w w1 := Chg.grown (by repeat (first | with_reducible exact Chg.refl _ _ | with_reducible assumption | with_reducible refine Chg.drewN ?_ _ | with_reducible refine Chg.drew ?_ | with_reducible refine Chg.alloc ?_ _ | with_reducible refine Chg.setCell ?_ (by first | (left; rfl) | (left; left; rfl) | (left; right; rfl) | (left; right; left; rfl) | (left; right; right; rfl) | (right; exact Nat.le_refl _) | (right; simp; done) | (right; omega) | (right; simp at *; omega) | (simp at *; omega)) _ | with_reducible refine Chg.trans ?_ (by with_reducible assumption) (by intro i hi hT; first | exact hT | exact False.elim hT | omega | (simp at *; omega)))) hg1 (fun k hk => .inr (by simp [Value.ownBlock] at hk; omega)))
    | (refine step_owned (by rfl) _ _ 77 (by rfl) w.heap.size 127 ie _ 2 16 Try.underlying77 hie ez0 ez1 ez2 rfl (by decide) (by rfl) (by rfl) ho1 hone1 (RdS.block RX.out (S := fun _ => False) j1 (fun _ _ h => h)) (by unfold maxLen; omega) (by omega) (by omega) ?_; intro a2 c2 w2 ho2 hg2 hone2; have j2 : Chg (fun _ => False) w w2 := Chg.grown j1 hg2 (fun k hk => .inr (own_below ho1 hk).1)))
  all_goals go_wp2
  all_goals go_ret
  all_goals
    rw [← flat_append] at ho2
    exact ⟨⟨a2, c2, rfl, ho2⟩, j2⟩
end Go.Proofs.Ytdoepjokaekckaa
