/- The law Back. -/
import Derived.Test.YtheiodnckjmieaaEl
import Derived.Maps.AppendAt
namespace Go.Proofs.Ytheiodnckjmieaa
set_option linter.unusedVariables false
open Go.RowKit

/-- As list_owned, something being appended: the new slice lies in the old row or in a new block. -/
theorem list_owned_at {P : Program} {w : World} {n m cap cx : Nat} {a ax : Option Addr} {xs news : List Value} {ops : Array Oper} {o : Oper} {act : Act} {Q : Exit → Act → World → Prop} {rest : List Oper}
    (hgd : o.guard = none) (s x : Operand) (t : TypeId) (ho : o.op = .call { callee := .builtin .append, args := #[s, x], argTypes := #[t, t] }) (B : Nat) (e : TypeId) (i : TypeInfo) (z : Value) (size bytes : Nat) (ht : P.underlying t = some (.slice e)) (hi : P.info? e = some i) (hz : i.zero = some z)
    (hsize : i.size = size) (hby : i.bytes = bytes) (hzs : z.cells.size = size) (hsz : 0 < size) (hs : act.eval s = .slice a n cap) (hx : act.eval x = .slice ax m cx) (rs : w.ownsRow B e size (.slice a n cap) n xs) (h1 : ∀ u ∈ xs, u.oneCell' = true) (rx : RdS w size ax m cx news) (hm : 0 < m) (h63 : n + m ≤ maxLen) (hbytes : (n + m) * bytes ≤ 140737488355328) (hb : B ≤ w.heap.size)
    (h : ∀ a' c' w', w'.ownsRow B e size (.slice a' (n + m) c') (n + m) (xs ++ news) → w.grownBy w' (Value.slice a n cap).ownBlock → (∀ q, (Value.slice a' (n + m) c').ownBlock = some q → (Value.slice a n cap).ownBlock = some q ∨ q = w.heap.size) → wpList P ops Q rest (act.put o.dst (.slice a' (n + m) c')) w') : wpList P ops Q (o :: rest) act w := by
  refine wpList_plain hgd fun _ hK => ?_
  cases ax with
  | none => exact absurd (rx.nil rfl).1 (by omega)
  | some ax =>
  obtain ⟨v', w', hrun, h2, h3, _, h5⟩ := run_append_own_at (P := P) w B t o.type e i z size bytes ht hi hz hsize hby hzs hsz (.slice a n cap) n xs rs ax m cx news rx.len (rx.at rfl) rx.one h63 hbytes hb
  obtain ⟨a', c', rfl, _⟩ := own_form h2
  unfold Oper.wp
  simp [execOp, ho, resolve, invoke, builtin, hs, hx, hrun, Result.andThen]
  refine hK _ _ (h a' c' w' h2 h3 fun q hq => ?_)
  rcases h5 with h6 | h6
  · rw [h6] at hq; exact .inl hq
  · rw [h6] at hq; injection hq with hq; exact .inr hq.symm
theorem Ef.grow {w w1 : World} {S T S' : Nat → Prop} {b : Nat} {base : Int} {F : List Bool} (h : Ef w S b base F) (k : Chg T w w1) (hT : ∀ k, k < w.heap.size → T k → S k) (hb : ¬ T b) (hs : ∀ q, S' q → S q ∨ w.heap.size ≤ q ∧ q < w1.heap.size) (hb' : S' b) : Ef w1 S' b base F := by
  obtain ⟨a, c, fs, h1, h2⟩ := h
  have h3 := h1.chg k hT hb
  exact ⟨a, c, fs, ⟨h3.c0, h3.c1, h3.c2, h3.fz, h3.rd, fun g hg => ⟨fun hq => by
    rcases hs g hq with h4 | h4
    · exact (h1.ob g hg).1 h4
    · have := (h1.ob g hg).2; omega, (h3.ob g hg).2⟩, hb', fun q hq => by
    rcases hs q hq with h4 | h4
    · exact h3.lt q h4
    · exact h4.2, h3.norm, h3.bd⟩, h2⟩
theorem same_first (N : Nat) : Same 0 (List.replicate N true) (firstFs 0 N) := by
  refine ⟨?_, fun x => ?_⟩
  · rw [List.length_replicate]
    unfold firstFs
    by_cases h : 0 < (N : Int)
    · rw [if_pos h]; exact ⟨Int.le_refl _, by show (1 : Int) ≤ N; omega, Int.le_refl _, trivial⟩
    · rw [if_neg h]; trivial
  · have hf := ((held_new N).free x)
    rw [hf, List.length_replicate]
    unfold firstFs
    by_cases hs : 0 < (N : Int)
    · rw [if_pos hs, mem_one]
      unfold inE
      simp only
      constructor
      · intro h; exact ⟨by omega, fun p e h => by simp at h⟩
      · intro h; omega
    · rw [if_neg hs]
      constructor
      · intro h; exact absurd h (mem_nil x)
      · intro h; omega
theorem count_all (N : Nat) : countB (List.replicate N true) = N := by simp [countB]

set_option maxHeartbeats 4000000 in
set_option maxRecDepth 100000 in
theorem extentBack_any (s : Int) (v : Value) (xs : List Int) (t : Int) (w : World) (hs : (Lit.int .i64 s).wf = true) (hL : IsL1 .u8 w v xs) (ht : (Lit.int .u8 t).wf = true) :
    Calls Try.prog 6 #[.int .i64 s, v, .int .u8 t] w fun e w' => e = .returned (.bool true) ∧ Below w.heap.size w w' := by
  obtain ⟨ie, hie, ez0, ez1, ez2⟩ := info_parts infoExt
  obtain ⟨hwf, a, cap, rfl, hlen, hc⟩ := hL
  have HC := Lib.hid hc
  have HWF := Lib.hid hwf
  obtain ⟨tn, rfl⟩ : ∃ tn : Nat, t = tn := ⟨t.toNat, by have := wfU8 ht; omega⟩
  have htn : tn ≤ 255 := by have := wfU8 ht; omega
  clear hc hwf ht
  by_cases p1 : s < 0
  · go_enter Try.func6, Try.ntmps6
    go_wp2_with fail
    refine (awake_any w).mono ?_; rintro e w1 ⟨rfl, g1⟩
    go_wp2_with fail
    refine (awake_any w1).mono ?_; rintro e w2 ⟨rfl, g2⟩
    go_wp2
    go_ret
    exact ⟨rfl, Chg.below (g1.trans g2 (fun _ _ h => h))⟩
  have q1 : decide (s < 0) = false := by simp; omega
  by_cases p2 : 100 < s
  · go_enter Try.func6, Try.ntmps6
    go_wp2_with fail
    refine (awake_any w).mono ?_; rintro e w1 ⟨rfl, g1⟩
    go_wp2_with fail
    refine (awake_any w1).mono ?_; rintro e w2 ⟨rfl, g2⟩
    go_wp2
    go_ret
    exact ⟨rfl, Chg.below (g1.trans g2 (fun _ _ h => h))⟩
  have q2 : decide (100 < s) = false := by simp; omega
  by_cases p3 : 40 < xs.length
  · have q3 : decide (40 < (xs.length : Int)) = true := by simp; omega
    go_enter Try.func6, Try.ntmps6
    go_wp2_with fail
    refine (awake_any w).mono ?_; rintro e w1 ⟨rfl, g1⟩
    go_wp2_with fail
    refine (awake_any w1).mono ?_; rintro e w2 ⟨rfl, g2⟩
    go_wp2
    go_ret
    exact ⟨rfl, Chg.below (g1.trans g2 (fun _ _ h => h))⟩
  have q3 : decide (40 < (xs.length : Int)) = false := by simp; omega
  obtain ⟨N, rfl⟩ : ∃ n : Nat, s = n := ⟨s.toNat, by omega⟩
  go_enter Try.func6, Try.ntmps6
  go_wp2_with fail
  refine (awake_any w).mono ?_; rintro e w1 ⟨rfl, g1⟩
  go_wp2_with fail
  refine (new_ef w1 0 N (by simp [badN]; omega)).mono ?_; rintro e w2 ⟨rfl, hE, g2⟩
  obtain ⟨B, hB⟩ : ∃ B, B = w1.heap.size := ⟨_, rfl⟩
  rw [← hB] at hE ⊢
  have zB : w.heap.size ≤ B := by have := g1.size; omega
  have HE2 := Lib.hid hE
  have G2 := Lib.hid (g1.trans g2 (fun _ _ h => h))
  clear hB hE g1 g2 q1 q2 q3
  go_wp2_with fail
  go_loopw [9, 45] (fun o9 i wr => ∃ (k : Nat) (es : List Ext) (F : List Bool) (a' : Option Addr) (c' : Nat), k ≤ xs.length ∧ i = .int .i64 (↑k : Int) ∧ o9 = .slice a' es.length c' ∧ es.length ≤ k ∧ B < wr.heap.size ∧ Hid (F.length = N) ∧ Hid (wr.ownsRow (B + 1) 44 2 (.slice a' es.length c') es.length (flat es)) ∧ Hid (Ef wr (fun q => q = B ∨ (Value.slice a' es.length c').ownBlock = some q) B 0 F) ∧ Hid (Held F es (fun _ => False)) ∧ Hid (Chg (fun _ => False) w wr)) (fun _ i _ => xs.length - (intOf i).toNat)
  case atStart => exact ⟨0, [], _, none, 0, by omega, rfl, rfl, by simp, HE2.out.sb.2, List.length_replicate, World.ownsRow_nil _ _ _ _, HE2.out.grow (T := fun _ => False) (Chg.refl _ _) (fun _ _ h => h.elim) id (fun q hq => .inl (by rcases hq with hq | hq; exact hq; simp [Value.ownBlock] at hq)) (.inl rfl), held_new N, G2.out⟩
  case round =>
    obtain ⟨k, es, F, a', c', hk, rfl, rfl, hek, zr, HFL, HO, HE, HH, HG⟩ := hrel
    by_cases hlt : k < xs.length
    · obtain ⟨lb, lo, rfl, hlb, hc⟩ := HC.out (by omega)
      obtain ⟨x, hx⟩ : ∃ x, xs[k]? = some x := ⟨_, List.getElem?_eq_getElem hlt⟩
      have e0 : wr.cell? ⟨lb, lo + k, none⟩ = some (.int .u8 x) := by rw [HG.out.cell hlb id]; exact hc k _ hx
      have hw := wfU8 (HWF.out _ (List.mem_of_getElem? hx))
      obtain ⟨m, hm⟩ : ∃ m : Nat, m = x.toNat % 9 + 1 := ⟨_, rfl⟩
      have em : x.tmod 9 = (m : Int) - 1 := by rw [Int.tmod_eq_emod_of_nonneg (by omega)]; omega
      have hm2 : 1 ≤ m ∧ m ≤ 9 := by omega
      clear hc hx hm
      go_wp2_with fail
      refine (take_ef wr _ B 0 F m HE.out (by omega)).mono ?_; rintro e w5 ⟨rfl, hE, g5⟩
      obtain ⟨⟨X, Y⟩, hXY⟩ : ∃ q : Int × Int, q = takeX 0 F m := ⟨_, rfl⟩
      obtain ⟨Z, hZ⟩ : ∃ q : Int, q = takeC F m := ⟨_, rfl⟩
      have eX : (takeX 0 F m).1 = X := by rw [← hXY]
      have eY : (takeX 0 F m).2 = Y := by rw [← hXY]
      rw [eX, eY, ← hZ]
      have HX := Lib.hid (And.intro hXY hZ)
      have HE5 := Lib.hid hE
      have G5 : Hid (Chg (fun _ => False) w w5) := HG.out.trans g5 (fun q hq h => by omega)
      have HO5 := Lib.hid (own_chg HO.out g5 (fun g h1 h2 h3 h4 => by omega))
      have z5 : B < w5.heap.size := Nat.lt_of_lt_of_le zr g5.size
      clear hE g5 hXY hZ eX eY
      by_cases hz : Z = 0
      · subst hz
        have HH2 : Hid (Held (takeF F m) (es ++ [(X, Y)]) (fun _ => False)) := by
          have := held_take HH.out HX.out.2.symm
          rw [← HX.out.1] at this
          exact this
        go_wp2_with (at_builtin; go_loud (refine list_owned_at rfl _ _ 36 rfl (B + 1) 44 ie _ 2 16 Try.underlying36 hie ez0 ez1 ez2 rfl (by decide) rfl rfl ((HO5.out.alloc _).alloc _) (flat_one _) (rd_cells' (u := X) (v := Y) (by go_simp) (by go_simp)) (by omega) (by unfold maxLen; omega) (by omega) (by simp; omega) ?_; intro a6 c6 w6 ho6 hg6 hat6; have s6 := hg6.size; simp at s6))
        have K6 : Chg (fun q => (Value.slice a' es.length c').ownBlock = some q) w5 w6 := Chg.grown (by repeat (first | with_reducible exact Chg.refl _ _ | with_reducible assumption | with_reducible refine Chg.drewN ?_ _ | with_reducible refine Chg.drew ?_ | with_reducible refine Chg.alloc ?_ _ | with_reducible refine Chg.setCell ?_ (by first | (left; rfl) | (right; exact Nat.le_refl _) | (right; simp; done) | (right; omega) | (right; simp at *; omega) | (simp at *; omega)) _ | with_reducible refine Chg.trans ?_ (by with_reducible assumption) (by intro i hi hT; first | exact hT | exact False.elim hT | omega | (simp at *; omega)))) hg6 (fun q hq => .inl hq)
        have HE6 : Hid (Ef w6 (fun q => q = B ∨ (Value.slice a6 (es.length + 1) c6).ownBlock = some q) B 0 (takeF F m)) := HE5.out.grow K6 (fun q _ hq => .inr hq) (fun hq => by have := own_below HO5.out hq; omega) (fun q hq => by
          rcases hq with hq | hq
          · exact .inl (.inl hq)
          · have h6 := (own_below ho6 hq).2
            rcases hat6 q hq with h | h
            · exact .inl (.inr h)
            · right; simp at h; omega) (.inl rfl)
        go_roundw
        case rel => exact ⟨k + 1, es ++ [(X, Y)], takeF F m, a6, c6, by omega, by go_num, by rw [List.length_append]; rfl, by rw [List.length_append]; simp; omega, by omega, (by show _ = _; rw [takeF_len]; exact HFL.out), (by show World.ownsRow _ _ _ _ _ _ _; rw [List.length_append, flat_append]; exact ho6), (by show Ef _ _ _ _ _; rw [List.length_append]; exact HE6.out), HH2.out, Chg.grown (Chg.alloc (Chg.alloc G5.out _) _) hg6 (fun q hq => .inr (by have := own_below HO5.out hq; omega))⟩
        case measure => simp [intOf]; omega
      · have hz2 : (Z == 0) = false := by simpa using hz
        have hFF : takeF F m = F := by rcases ref_take F m with h | h; exact absurd (HX.out.2.trans h) hz; exact h
        have HE6 := HE5
        rw [hFF] at HE6
        clear hz hFF HE5
        go_wp2
        go_roundw
        case rel => exact ⟨k + 1, es, F, a', c', by omega, by go_num, rfl, by omega, by simp; omega, HFL.out, HO5.out.alloc _, HE6.out.chg (T := fun _ => False) (by repeat (first | with_reducible exact Chg.refl _ _ | with_reducible assumption | with_reducible refine Chg.drewN ?_ _ | with_reducible refine Chg.drew ?_ | with_reducible refine Chg.alloc ?_ _ | with_reducible refine Chg.setCell ?_ (by first | (left; rfl) | (right; exact Nat.le_refl _) | (right; simp; done) | (right; omega) | (right; simp at *; omega) | (simp at *; omega)) _ | with_reducible refine Chg.trans ?_ (by with_reducible assumption) (by intro i hi hT; first | exact hT | exact False.elim hT | omega | (simp at *; omega)))) (fun _ _ h => h.elim) id, HH.out, G5.out.alloc _⟩
        case measure => simp [intOf]; omega
    · obtain rfl : k = xs.length := by omega
      have HI : Hid (IsE wr a' c' es) := RdS.row HO.out (flat_one _)
      have HB : Hid (∀ q, (Value.slice a' es.length c').ownBlock = some q → q ≠ B) := fun q hq => by have := own_below HO.out hq; omega
      have HEB : Hid (Ef wr (fun q => q = B) B 0 F) := HE.out.grow (T := fun _ => False) (Chg.refl _ _) (fun _ _ h => h.elim) id (fun q hq => .inl (.inl hq)) rfl
      have hel : es.length ≤ 40 := by omega
      have HG0 := HG
      clear HO HE
      obtain ⟨w6, hw6⟩ : ∃ w6, w6 = wr := ⟨_, rfl⟩
      rw [← hw6]
      have HH0 : Hid (∃ F, Ef w6 (fun q => q = B) B 0 F ∧ Held F es (fun p => ∃ j, j < 0 ∧ bi es.length j tn = p) ∧ F.length = N) := by
        subst hw6
        refine ⟨F, HEB.out, ⟨HH.out.fit, HH.out.apart, fun x => ?_⟩, HFL.out⟩
        rw [HH.out.free]
        constructor
        · rintro ⟨h1, h2⟩; exact ⟨h1, fun p e hp _ => h2 p e hp id⟩
        · rintro ⟨h1, h2⟩; exact ⟨h1, fun p e hp _ => h2 p e hp (by rintro ⟨j, hj, _⟩; omega)⟩
      have HI6 : Hid (IsE w6 a' c' es) := by subst hw6; exact HI.out
      have HG6 : Hid (Chg (fun _ => False) w w6) := by subst hw6; exact HG0.out
      clear hw6 HH HFL HEB HI HG0 HG zr
      go_wp2_with fail
      go_loopw [67] (fun i wr => ∃ k : Nat, k ≤ es.length ∧ i = .int .i64 (↑k : Int) ∧ Hid (∃ F, Ef wr (fun q => q = B) B 0 F ∧ Held F es (fun p => ∃ j, j < k ∧ bi es.length j tn = p) ∧ F.length = N) ∧ Hid (IsE wr a' c' es) ∧ Hid (Chg (fun _ => False) w wr)) (fun i _ => es.length - (intOf i).toNat)
      case atStart => exact ⟨0, by omega, rfl, HH0.out, HI6.out, HG6.out⟩
      case round =>
        obtain ⟨k, hk, rfl, HF, HI, HG⟩ := hrel
        by_cases hke : k < es.length
        · obtain ⟨F, hE, hH, hN⟩ := HF.out
          have HE := Lib.hid hE
          have HH := Lib.hid hH
          have HNN := Lib.hid hN
          obtain ⟨q, hq⟩ : ∃ q, q = bi es.length k tn := ⟨_, rfl⟩
          have hql : q < es.length := by rw [hq]; exact bi_lt (by omega)
          have em : ((es.length : Int) - 1 - k + tn).tmod es.length = (q : Int) := by
            have e1 : (es.length : Int) - 1 - k + tn = ((es.length - 1 - k + tn : Nat) : Int) := by omega
            rw [e1, Int.tmod_eq_emod_of_nonneg (by omega), hq]
            rfl
          obtain ⟨f, hf⟩ : ∃ f, es[q]? = some f := ⟨_, List.getElem?_eq_getElem hql⟩
          obtain ⟨g, o, rfl, lg, k0, k1⟩ := HI.out.at hf
          have hgv := held_give hH hf (by
            rintro ⟨j, hj, hb⟩
            have := bi_inj (by omega) hke (hb.trans hq)
            omega)
          have hft := hH.fit q f hf
          have hbd := hE.bd
          have HGV := Lib.hid hgv
          have HQ := Lib.hid hq
          clear hE hH hN hgv hq hf
          go_wp2_with fail
          refine (give_ef _ _ B 0 F f.1 f.2 HE.out (by omega) (by omega)).mono ?_; rintro e w8 ⟨rfl, hE, g8⟩
          rw [HGV.out.1]
          have HE8 := Lib.hid hE
          have HI8 := Lib.hid (IsE.keep HI.out g8 (fun q hq h => HB.out q hq h))
          have G8 : Hid (Chg (fun _ => False) w w8) := HG.out.trans g8 (fun q hq h => by omega)
          clear hE g8
          go_wp2
          go_roundw
          case rel =>
            refine ⟨k + 1, by omega, by go_num, ⟨_, HE8.out, ?_, by rw [giveF_len]; exact HNN.out⟩, HI8.out, G8.out⟩
            have h1 := HGV.out.2
            refine ⟨h1.fit, h1.apart, fun x => ?_⟩
            rw [h1.free]
            constructor
            · rintro ⟨h2, h3⟩
              refine ⟨h2, fun p e hp hg => h3 p e hp fun hh => hg ?_⟩
              rcases hh with ⟨j, hj, hb⟩ | hh
              · exact ⟨j, by omega, hb⟩
              · exact ⟨k, by omega, by rw [hh]; exact HQ.out.symm⟩
            · rintro ⟨h2, h3⟩
              refine ⟨h2, fun p e hp hg => h3 p e hp fun hh => hg ?_⟩
              obtain ⟨j, hj, hb⟩ := hh
              by_cases hjk : j = k
              · subst hjk; exact .inr (hb.symm.trans HQ.out.symm)
              · exact .inl ⟨j, by omega, hb⟩
          case measure => simp [intOf]; omega
        · obtain rfl : k = es.length := by omega
          obtain ⟨F, hE, hH, hN⟩ := HF.out
          have hall := held_end hH (fun p hp => bi_onto hp)
          rw [hN] at hall
          subst hall
          have HE := Lib.hid hE
          clear hE hH hN
          go_wp2_with fail
          refine (free_ef _ _ B 0 _ HE.out).mono ?_; rintro e w8 ⟨⟨gs, a8, c8, rfl, ho, hS⟩, g8⟩
          obtain rfl := same_uniq hS (same_first N)
          have HE8 := Lib.hid (HE.out.chg g8 (fun _ _ h => h.elim) id)
          have G8 := Lib.hid (HG.out.trans g8 (fun _ _ h => h))
          have HI8 : Hid (IsE w8 a8 c8 (firstFs 0 N)) := RdS.row ho (flat_one _)
          clear ho hS g8
          by_cases hN0 : N = 0
          · subst hN0
            have hff : firstFs 0 ((0 : Nat) : Int) = [] := rfl
            rw [hff]
            go_wp2_with fail
            refine (left_ef w8 _ B 0 _ HE8.out).mono ?_; rintro e w9 ⟨rfl, g9⟩
            rw [count_all]
            go_wp2
            go_ret
            exact ⟨rfl, Chg.below (G8.out.trans g9 (fun _ _ h => h))⟩
          · have hff : firstFs 0 (N : Int) = [((0 : Int), (N : Int))] := if_pos (by omega)
            rw [hff]
            rw [hff] at HI8
            have q0 : ((N : Int) == 0) = false := by simp; omega
            go_wp2_with fail
            refine (left_ef w8 _ B 0 _ HE8.out).mono ?_; rintro e w9 ⟨rfl, g9⟩
            rw [count_all]
            obtain ⟨g, o, rfl, lg, k0, k1⟩ := (IsE.keep HI8.out g9 (fun _ _ h => h)).at (i := 0) (e := ((0 : Int), (N : Int))) rfl
            simp at k0 k1
            go_wp2
            go_ret
            exact ⟨by simp, Chg.below (G8.out.trans g9 (fun _ _ h => h))⟩
end Go.Proofs.Ytheiodnckjmieaa
