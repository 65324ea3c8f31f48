/- The reference's Free. -/
import Derived.Test.YtheiodnckjmieaaEn
namespace Go.Proofs.Ytheiodnckjmieaa
set_option linter.unusedVariables false
open Go.RowKit

theorem freeB_take {base : Int} {F : List Bool} {k : Nat} {x : Int} : freeB base (F.take k) x ↔ freeB base F x ∧ x < base + k := by
  unfold freeB
  rw [List.getElem?_take]
  constructor
  · rintro ⟨h1, h2⟩
    by_cases hk : (x - base).toNat < k
    · rw [if_pos hk] at h2; exact ⟨⟨h1, h2⟩, by omega⟩
    · rw [if_neg hk] at h2; cases h2
  · rintro ⟨⟨h1, h2⟩, h3⟩
    refine ⟨h1, ?_⟩
    rw [if_pos (by omega)]
    exact h2
theorem freeB_at {base : Int} {F : List Bool} {k : Nat} {y : Bool} (h : F[k]? = some y) : freeB base F (base + k) ↔ y = true := by
  unfold freeB
  have e : (base + k - base).toNat = k := by omega
  rw [e, h]
  constructor
  · rintro ⟨_, h⟩; injection h
  · intro h; exact ⟨by omega, by rw [h]⟩
theorem norm_hi {hi hi' : Int} (hh : hi ≤ hi') : ∀ {fs : List Ext} {lo : Int}, Norm hi lo fs → Norm hi' lo fs
  | [], _, _ => trivial
  | _ :: _, _, h => ⟨h.1, h.2.1, by have := h.2.2.1; omega, norm_hi hh h.2.2.2⟩
theorem take_len {F : List Bool} {k : Nat} {y : Bool} (h : F[k]? = some y) : (F.take k).length = k ∧ (F.take (k + 1)).length = k + 1 := by
  have := (List.getElem?_eq_some_iff.1 h).1
  simp [List.length_take]; omega

theorem same_zero (base : Int) (F : List Bool) : Same base (F.take 0) [] := by
  refine ⟨trivial, fun x => ⟨fun h => absurd h (mem_nil x), fun h => ?_⟩⟩
  have := (freeB_take.1 h)
  have := this.1.1
  omega
section
variable {base : Int} {F : List Bool} {k : Nat} {gs : List Ext}
theorem same_skip (h : Same base (F.take k) gs) (hk : F[k]? = some false) : Same base (F.take (k + 1)) gs := by
  obtain ⟨l1, l2⟩ := take_len hk
  have hn := h.norm
  rw [l1] at hn
  refine ⟨by rw [l2]; exact norm_hi (by omega) hn, fun x => ?_⟩
  rw [h.mem, freeB_take, freeB_take]
  constructor
  · rintro ⟨h1, h2⟩; exact ⟨h1, by omega⟩
  · rintro ⟨h1, h2⟩
    refine ⟨h1, ?_⟩
    by_cases e : x = base + k
    · subst e
      have := (freeB_at hk).1 h1
      cases this
    · omega
theorem mem_snoc {x : Int} {e : Ext} : Mem x (gs ++ [e]) ↔ Mem x gs ∨ inE x e := by
  rw [mem_append, mem_cons]
  simp [mem_nil]
theorem mem_next (h : Same base (F.take k) gs) (hk : F[k]? = some true) (x : Int) : freeB base (F.take (k + 1)) x ↔ Mem x gs ∨ x = base + k := by
  rw [h.mem, freeB_take, freeB_take]
  constructor
  · rintro ⟨h1, h2⟩
    by_cases e : x = base + k
    · exact .inr e
    · exact .inl ⟨h1, by omega⟩
  · rintro (⟨h1, h2⟩ | h1)
    · exact ⟨h1, by omega⟩
    · subst h1; exact ⟨(freeB_at hk).2 rfl, by omega⟩
theorem same_new (h : Same base (F.take k) gs) (hk : F[k]? = some true) (hp : ∀ j, k = j + 1 → F[j]? = some false) : Same base (F.take (k + 1)) (gs ++ [(base + k, 1)]) := by
  obtain ⟨l1, l2⟩ := take_len hk
  have hn := h.norm
  rw [l1] at hn
  refine ⟨?_, fun x => ?_⟩
  · rw [l2, norm_app]
    refine ⟨norm_hi (by omega) hn, ?_, by simp, by simp; omega, trivial⟩
    -- the last one ends ahead of the sector before
    rcases List.eq_nil_or_concat gs with rfl | ⟨gs', e, rfl⟩
    · show base ≤ base + k; omega
    · rw [List.concat_eq_append] at hn h ⊢
      rw [endOf_snoc]
      have he := hn.bounds e (by simp)
      have hne : e.1 + e.2 ≠ base + k := fun e1 => by
        obtain ⟨j, rfl⟩ : ∃ j, k = j + 1 := ⟨k - 1, by have := he.1; omega⟩
        have hm : Mem (base + j) (gs' ++ [e]) := mem_append.2 (.inr (mem_cons.2 (.inl ⟨by omega, by omega⟩)))
        have := (freeB_take.1 ((h.mem _).1 hm)).1
        have := (freeB_at (hp j rfl)).1 this
        cases this
      show e.1 + e.2 + 1 ≤ base + k
      omega
  · rw [mem_snoc, mem_next h hk]
    unfold inE
    simp only
    constructor
    · rintro (h | h)
      · exact .inl h
      · exact .inr (by omega)
    · rintro (h | h)
      · exact .inl h
      · exact .inr (by omega)
theorem same_join {j : Nat} (h : Same base (F.take (j + 1)) gs) (hk : F[j + 1]? = some true) (hp : F[j]? = some true) : ∃ gs' e, gs = gs' ++ [e] ∧ e.1 + e.2 = base + (j + 1 : Nat) ∧ Same base (F.take (j + 1 + 1)) (gs' ++ [(e.1, e.2 + 1)]) := by
  obtain ⟨l1, l2⟩ := take_len hk
  have hn := h.norm
  rw [l1] at hn
  have hm : Mem (base + j) gs := (h.mem _).2 (freeB_take.2 ⟨(freeB_at hp).2 rfl, by omega⟩)
  rcases List.eq_nil_or_concat gs with rfl | ⟨gs', e, rfl⟩
  · exact absurd hm (mem_nil _)
  · rw [List.concat_eq_append] at hn h hm ⊢
    have hn1 := norm_app.1 hn
    have he := hn.bounds e (by simp)
    have hend : e.1 + e.2 = base + (j + 1 : Nat) := by
      rcases mem_snoc.1 hm with h1 | h1
      · have := (end_ge hn1.1).2 _ h1
        have := hn1.2.1
        omega
      · unfold inE at h1; omega
    refine ⟨gs', e, rfl, hend, ?_, fun x => ?_⟩
    · rw [l2, norm_app]
      exact ⟨norm_hi (by omega) hn1.1, hn1.2.1, by show 1 ≤ e.2 + 1; omega, by show e.1 + (e.2 + 1) ≤ _; omega, trivial⟩
    · rw [mem_snoc, mem_next h hk, mem_snoc]
      unfold inE
      simp only
      constructor
      · rintro (h | h)
        · exact .inl (.inl h)
        · by_cases e2 : x = base + (j + 1 : Nat)
          · exact .inr e2
          · exact .inl (.inr (by omega))
      · rintro ((h | h) | h)
        · exact .inl h
        · exact .inr (by omega)
        · exact .inr (by omega)
end
theorem flat_put (gs : List Ext) (e : Ext) (v : Int) : (flat (gs ++ [e])).set (gs.length * 2 + 1) (.int .i64 v) = flat (gs ++ [(e.1, v)]) := by
  rw [flat_append, flat_append]
  rw [List.set_append_right _ _ (by rw [flat_len]; omega), flat_len]
  have : gs.length * 2 + 1 - gs.length * 2 = 1 := by omega
  rw [this]
  rfl

set_option maxHeartbeats 2000000 in
theorem rfree_any (w : World) (S : Nat → Prop) (b : Nat) (base : Int) (a : Option Addr) (c : Nat) (F : List Bool) (h : Rm w S b base a c F) :
    Calls Try.prog 17 #[.pointer (some ⟨b, 0, none⟩)] w fun e w' => (∃ gs a' c', e = .returned (.slice a' gs.length c') ∧ w'.ownsRow w.heap.size 59 2 (.slice a' gs.length c') gs.length (flat gs) ∧ Same base F gs) ∧ Chg (fun _ => False) w w' := by
  obtain ⟨ie, hie, ez0, ez1, ez2⟩ := info_parts (show (Try.prog.info? 59).map (fun i => (i.zero, i.size, i.bytes)) = some (some (.agg #[.int .i64 0, .int .i64 0]), 2, 16) by kernel_rfl)
  have lb := cell_lt h.c0
  have hbd := h.bd
  have H := Lib.hid h
  clear h
  go_enter Try.func17, Try.ntmps17
  go_wp2_with fail
  go_loopw [3, 4] (fun o3 i wr => ∃ (k : Nat) (gs : List Ext) (a' : Option Addr) (c' : Nat), k ≤ F.length ∧ i = .int .i64 (↑k : Int) ∧ o3 = .slice a' gs.length c' ∧ gs.length ≤ k ∧ w.heap.size ≤ wr.heap.size ∧ Hid (wr.ownsRow w.heap.size 59 2 (.slice a' gs.length c') gs.length (flat gs)) ∧ Hid (Same base (F.take k) gs) ∧ Hid (Chg (fun _ => False) w wr)) (fun _ i _ => F.length - (intOf i).toNat)
  case atStart => exact ⟨0, [], _, _, by omega, rfl, rfl, by simp, by simp, row_empty rfl (Nat.le_refl _) (by unfold maxLen; omega), same_zero base F, by show Chg _ _ _; exact (by repeat (first | with_reducible exact Chg.refl _ _ | with_reducible assumption | with_reducible refine Chg.drewN ?_ _ | with_reducible refine Chg.drew ?_ | with_reducible refine Chg.alloc ?_ _ | with_reducible refine Chg.setCell ?_ (by first | (left; rfl) | (right; exact Nat.le_refl _) | (right; simp; done) | (right; omega) | (right; simp at *; omega) | (simp at *; omega)) _ | with_reducible refine Chg.trans ?_ (by with_reducible assumption) (by intro i hi hT; first | exact hT | exact False.elim hT | omega | (simp at *; omega))))⟩
  case round =>
    obtain ⟨k, gs, a', c', hk, rfl, rfl, hgk, zr, HO, HS, HG⟩ := hrel
    have HR := Lib.hid (H.out.chg HG.out (fun _ _ h => h.elim) id)
    have e0 := HR.out.c0
    have e1 := HR.out.c1
    by_cases hkt : k < F.length
    · obtain ⟨y, hy⟩ : ∃ y, F[k]? = some y := ⟨_, List.getElem?_eq_getElem hkt⟩
      obtain ⟨g, o, rfl, lg, j0⟩ := HR.out.at hy
      have HY := Lib.hid hy
      clear hy
      cases y with
      | false =>
        go_wp2
        go_roundw
        case rel => exact ⟨k + 1, gs, a', c', by omega, by go_num, rfl, by omega, zr, HO.out, same_skip HS.out HY.out, HG.out⟩
        case measure => simp [intOf]; omega
      | true =>
        by_cases hk0 : k = 0
        · have HN := Lib.hid (same_new HS.out HY.out (fun j h => by omega))
          have q0 : decide (0 < (k : Int)) = false := by simp; omega
          have q1 : decide (0 < k) = false := by simp; omega
          clear hk0
          go_wp2_with (at_builtin; go_loud (refine list_owned rfl _ _ 38 rfl w.heap.size 59 ie _ 2 16 Try.underlying38 hie ez0 ez1 ez2 rfl (by decide) rfl rfl (HO.out.alloc _) (flat_one _) (rd_cells' (u := base + k) (v := 1) (by go_simp) (by go_simp)) (by unfold maxLen; omega) (by omega) (by simp; omega) ?_; intro a2 c2 w2 ho2 hg2 hone2; have s2 := hg2.size; simp at s2))
          go_roundw
          case rel => exact ⟨k + 1, gs ++ [(base + (k + 1 : Nat) - 1, 1)], a2, c2, by omega, by go_num, by rw [List.length_append]; rfl, by rw [List.length_append]; simp; omega, by omega, by
            have e : base + (k + 1 : Nat) - 1 = base + (k) := by omega
            show World.ownsRow _ _ _ _ _ _ _
            rw [e, List.length_append, flat_append]; exact ho2, by
            have e : base + (k + 1 : Nat) - 1 = base + (k) := by omega
            show Same _ _ _
            rw [e]; exact HN.out, Chg.grown (HG.out.alloc _) hg2 (fun q hq => .inr (own_below HO.out hq).1)⟩
          case measure => simp [intOf]; omega
        · obtain ⟨j, rfl⟩ : ∃ j, k = j + 1 := ⟨k - 1, by omega⟩
          obtain ⟨y, hy⟩ : ∃ y, F[j]? = some y := ⟨_, List.getElem?_eq_getElem (by omega)⟩
          obtain ⟨g', o', hadr, _, i0⟩ := HR.out.at hy
          injection hadr with hadr
          injection hadr with h1 h2
          subst h1 h2
          cases y with
          | false =>
            have HN := Lib.hid (same_new HS.out HY.out (fun j' h => by obtain rfl : j = j' := (by omega); exact hy))
            clear hy
            go_wp2_with (at_builtin; go_loud (refine list_owned rfl _ _ 38 rfl w.heap.size 59 ie _ 2 16 Try.underlying38 hie ez0 ez1 ez2 rfl (by decide) rfl rfl (HO.out.alloc _) (flat_one _) (rd_cells' (u := base + ((j : Int) + 1)) (v := 1) (by go_simp) (by go_simp)) (by unfold maxLen; omega) (by omega) (by simp; omega) ?_; intro a2 c2 w2 ho2 hg2 hone2; have s2 := hg2.size; simp at s2))
            go_roundw
            case rel => exact ⟨j + 1 + 1, gs ++ [(base + (j + 1 + 1 : Nat) - 1, 1)], a2, c2, by omega, by go_num, by rw [List.length_append]; rfl, by rw [List.length_append]; simp; omega, by omega, by
              have e : base + (j + 1 + 1 : Nat) - 1 = base + (((j : Int) + 1)) := by omega
              show World.ownsRow _ _ _ _ _ _ _
              rw [e, List.length_append, flat_append]; exact ho2, by
              have e : base + (j + 1 + 1 : Nat) - 1 = base + (((j : Int) + 1)) := by omega
              show Same _ _ _
              rw [e]; exact HN.out, Chg.grown (HG.out.alloc _) hg2 (fun q hq => .inr (own_below HO.out hq).1)⟩
            case measure => simp [intOf]; omega
          | true =>
            obtain ⟨gs', e, rfl, hend, hs⟩ := same_join HS.out HY.out hy
            have HN := Lib.hid hs
            have hlen : (gs' ++ [e]).length = gs'.length + 1 := by simp
            have hat : (gs' ++ [e])[gs'.length]? = some e := by simp
            obtain ⟨f0, f1⟩ := flat_at hat
            obtain ⟨_, _, hf, hc1, hc2, hf2⟩ := own_form HO.out
            injection hf with hf hf' hf''
            subst hf hf''
            obtain ⟨q, rfl, hqB, hql, _, hqf⟩ := hf2 _ _ f0
            obtain ⟨m0, mf, _, _⟩ := own_cell HO.out (j := gs'.length * 2) f0
            obtain ⟨m1, _, _, _⟩ := own_cell HO.out (j := gs'.length * 2 + 1) f1
            have hb := HS.out.norm.bounds e (by simp)
            rw [(take_len HY.out).1] at hb
            have HP : Hid (w.heap.size ≤ q) := hqB
            clear hy hs hf2 hf' hat f0 f1
            have HSET := Lib.hid (own_put HO.out (j := gs'.length * 2 + 1) (by rw [flat_len]; simp; omega) (.int .i64 (e.2 + 1)))
            go_wp2
            go_roundw
            case rel => exact ⟨j + 1 + 1, gs' ++ [(e.1, e.2 + 1)], some ⟨q, 0, none⟩, c', by omega, by go_num, by simp, by simp at hgk ⊢; omega, by simp [World.setCell]; omega, by
              have h1 := HSET.out
              rw [flat_put] at h1
              have e1 : (gs' ++ [(e.1, e.2 + 1)]).length = (gs' ++ [e]).length := by simp
              show World.ownsRow _ _ _ _ _ _ _
              rw [e1]
              exact h1, HN.out, HG.out.setCell (p := ⟨q, gs'.length * 2 + 1, none⟩) (.inr HP.out) _⟩
            case measure => simp [intOf]; omega
    · obtain rfl : k = F.length := by omega
      go_wp2
      go_ret
      refine ⟨⟨gs, a', c', rfl, HO.out, ?_⟩, HG.out⟩
      have := HS.out
      rw [List.take_length] at this
      exact this
end Go.Proofs.Ytheiodnckjmieaa
