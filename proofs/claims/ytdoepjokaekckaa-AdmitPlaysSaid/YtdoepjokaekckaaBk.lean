/- The door's call Offer, walked. -/
import Derived.Test.YtdoepjokaekckaaBj
import Derived.Maps.AppendAt
namespace Go.Proofs.Ytdoepjokaekckaa
set_option linter.unusedVariables false
open Go.RowKit

/-- As list_owned, something being appended: the new slice lies in the old row or in a new block. -/
theorem list_owned_at {P : Program} {w : World} {n m cap cx : Nat} {a ax : Option Addr} {xs news : List Value} {ops : Array Oper} {o : Oper} {act : Act} {Q : Exit → Act → World → Prop} {rest : List Oper}
    (hgd : o.guard = none) (s x : Operand) (t : TypeId) (ho : o.op = .call { callee := .builtin .append, args := #[s, x], argTypes := #[t, t] }) (B : Nat) (e : TypeId) (i : TypeInfo) (z : Value) (size bytes : Nat) (ht : P.underlying t = some (.slice e)) (hi : P.info? e = some i) (hz : i.zero = some z)
    (hsize : i.size = size) (hby : i.bytes = bytes) (hzs : z.cells.size = size) (hsz : 0 < size) (hs : act.eval s = .slice a n cap) (hx : act.eval x = .slice ax m cx) (rs : w.ownsRow B e size (.slice a n cap) n xs) (h1 : ∀ u ∈ xs, u.oneCell' = true) (rx : RdS w size ax m cx news) (hm : 0 < m) (h63 : n + m ≤ maxLen) (hbytes : (n + m) * bytes ≤ 140737488355328) (hb : B ≤ w.heap.size)
    (h : ∀ a' c' w', w'.ownsRow B e size (.slice a' (n + m) c') (n + m) (xs ++ news) → w.grownBy w' (Value.slice a n cap).ownBlock → (∀ q, (Value.slice a' (n + m) c').ownBlock = some q → (Value.slice a n cap).ownBlock = some q ∨ q = w.heap.size) → wpList P ops Q rest (act.put o.dst (.slice a' (n + m) c')) w') : wpList P ops Q (o :: rest) act w := by
  refine wpList_plain hgd fun _ hK => ?_
  cases ax with
  | none => exact absurd (rx.nil rfl).1 (by omega)
  | some ax =>
  obtain ⟨v', w', hrun, h2, h3, _, h5⟩ := run_append_own_at (P := P) w B t o.type e i z size bytes ht hi hz hsize hby hzs hsz (.slice a n cap) n xs rs ax m cx news rx.len (rx.at rfl) rx.one h63 hbytes hb
  obtain ⟨a', c', rfl, _⟩ := own_form h2
  unfold Oper.wp
  simp [execOp, ho, resolve, invoke, builtin, hs, hx, hrun, Result.andThen]
  refine hK _ _ (h a' c' w' h2 h3 fun q hq => ?_)
  rcases h5 with h6 | h6
  · rw [h6] at hq; exact .inl hq
  · rw [h6] at hq; injection hq with hq; exact .inr hq.symm
section
variable (room share : Int) (T K : List Tg) (ns : List Int) (t : Tg) (hs : List Int)
def goesX : Ps := roomP room share (T ++ K) t.2.1 t.2.2.1 hs
/-- Does it come in? -/
def offB : Bool := decide (1 ≤ t.2.1 ∧ t.2.1 ≤ 1099511627776 ∧ t.2.2.1.size ≤ 200) && (getX (T ++ K) t.1).isNone && roomB room share t.2.1 (goesX room share T K t hs) && (goesX room share T K t hs).G.all fun g => decide (tell ns g.2.2.2 < tell ns t.2.2.2)
variable {room share T K ns t hs}
theorem offB_bad (h : t.2.1 < 1 ∨ 1099511627776 < t.2.1 ∨ 200 < t.2.2.1.size ∨ (getX (T ++ K) t.1).isSome = true) : offB room share T K ns t hs = false := by
  unfold offB
  rcases h with h | h | h | h
  · rw [decN (by omega)]; rfl
  · rw [decN (by omega)]; rfl
  · rw [decN (by omega)]; rfl
  · cases e : getX (T ++ K) t.1 with
    | none => rw [e] at h; cases h
    | some u => simp
theorem offB_room (h : roomB room share t.2.1 (goesX room share T K t hs) = false) : offB room share T K ns t hs = false := by unfold offB; rw [h]; simp
theorem offB_name {g : Tg} (hg : g ∈ (goesX room share T K t hs).G) (h : tell ns t.2.2.2 ≤ tell ns g.2.2.2) : offB room share T K ns t hs = false := by
  unfold offB
  have : ((goesX room share T K t hs).G.all fun g => decide (tell ns g.2.2.2 < tell ns t.2.2.2)) = false := by
    rw [List.all_eq_false]
    exact ⟨g, hg, by simp; omega⟩
  rw [this]; simp
theorem offB_yes (h1 : 1 ≤ t.2.1 ∧ t.2.1 ≤ 1099511627776 ∧ t.2.2.1.size ≤ 200) (h2 : (getX (T ++ K) t.1).isSome = false) (h3 : roomB room share t.2.1 (goesX room share T K t hs) = true) (h4 : ∀ g ∈ (goesX room share T K t hs).G, tell ns g.2.2.2 < tell ns t.2.2.2) : offB room share T K ns t hs = true := by
  unfold offB
  rw [decP h1, h3]
  cases e : getX (T ++ K) t.1 with
  | none => simpa using h4
  | some u => rw [e] at h2; cases h2
end
/-- What Offer leaves. -/
def OffPost (w : World) (lab : Nat → Nat) (d : Nat) (room share : Int) (N : Nat) (T K : List Tg) (ns : List Int) (t : Tg) (hs : List Int) (e : Ending) (w' : World) : Prop :=
  (offB room share T K ns t hs = false ∧ e = .returned (.tuple #[.bool false, .slice none 0 0]) ∧ Chg (fun _ => False) w w') ∨
  (offB room share T K ns t hs = true ∧ ∃ a c lab', e = .returned (.tuple #[.bool true, .slice a (goesX room share T K t hs).G.length c]) ∧ w'.ownsRow w.heap.size 2 1 (.slice a (goesX room share T K t hs).G.length c) (goesX room share T K t hs).G.length (nums (keyT (goesX room share T K t hs).G)) ∧ (∀ q, (Value.slice a (goesX room share T K t hs).G.length c).ownBlock = some q → lab' q = 0) ∧ Dr w' lab' d room share (N + 3 * (goesX room share T K t hs).G.length + 3) ((dropsX T K (goesX room share T K t hs).G).1 ++ [t]) (dropsX T K (goesX room share T K t hs).G).2 ns ∧ Lab w lab lab' w')
theorem Dr.low {w : World} {lab : Nat → Nat} {d N : Nat} {room share : Int} {T K : List Tg} {ns : List Int} (h : Dr w lab d room share N T K ns) {k : Nat} (hk : w.heap.size ≤ k) : lab k = 0 := by
  obtain ⟨bb, lb, sb, mb, h1, _⟩ := h
  rcases Nat.eq_zero_or_pos (lab k) with e | e
  · exact e
  · have := h1.low k (by omega); omega
/-- Some of those that go are dropped; their keys are told. -/
structure OfL (w w5 : World) (lab : Nat → Nat) (d : Nat) (room share : Int) (N : Nat) (T K : List Tg) (ns : List Int) (G : List Tg) (wr : World) (lab2 : Nat → Nat) (k : Nat) (a : Option Addr) (c : Nat) : Prop where
  row : wr.ownsRow w5.heap.size 2 1 (.slice a k c) k (nums (keyT (G.take k)))
  free : ∀ q, (Value.slice a k c).ownBlock = some q → lab2 q = 0
  dr : Dr wr lab2 d room share (N + 3 * k) (dropsX T K (G.take k)).1 (dropsX T K (G.take k)).2 ns
  lb : Lab w lab lab2 wr
  kp : Chg (fun i => i < w.heap.size) w5 wr
  zl : ∀ i, w.heap.size ≤ i → i < w5.heap.size → lab2 i = 0
theorem row_lab {wA wB : World} {B : Nat} {lab : Nat → Nat} {a : Option Addr} {k c j : Nat} {xs : List Value} (row : wA.ownsRow B 2 1 (.slice a k c) k xs) (free : ∀ q, (Value.slice a k c).ownBlock = some q → lab q = 0) (h : Chg (fun i => lab i = j) wA wB) (hj : 1 ≤ j) : wB.ownsRow B 2 1 (.slice a k c) k xs ∧ ∀ q, (Value.slice a k c).ownBlock = some q → relab lab wA wB j q = 0 :=
  ⟨own_chg row h fun g _ _ hg => by have := free g hg; omega, fun q hq => by rw [relab_old (own_below row hq).2]; exact free q hq⟩
theorem nums_keyT_snoc (A : List Tg) (g : Tg) : nums (keyT (A ++ [g])) = nums (keyT A) ++ [.int .i64 g.1] := by simp [nums, keyT]
set_option maxHeartbeats 4000000 in
set_option maxRecDepth 4000 in
theorem offer_dr (w : World) (lab : Nat → Nat) (d N : Nat) (room share : Int) (T K : List Tg) (ns : List Int) (x n : Int) (s : ByteArray) (nm : Int) (a : Option Addr) (c : Nat) (hs : List Int) (h : Dr w lab d room share N T K ns) (hN : N + 3 * (T ++ K).length ≤ 890) (hx : -9223372036854775808 ≤ x ∧ x ≤ 9223372036854775807) (hnm : 0 ≤ nm ∧ nm ≤ 18446744073709551615) (hz : s.size ≤ maxLen) (hns : ns.length ≤ 10000) (hh : IsH w a hs) (hl : hs.length ≤ 4611686018427380000) (hw : ∀ y ∈ hs, -9223372036854775808 ≤ y ∧ y ≤ 9223372036854775807) :
    Calls Try.prog 11 #[.pointer (some ⟨d, 0, none⟩), tv (x, n, s, nm), .slice a hs.length c] w (OffPost w lab d room share N T K ns (x, n, s, nm) hs) := by
  show Calls _ _ #[_, .agg #[.int .i64 x, .int .i64 n, .string s, .int .u64 nm], _] _ _
  have hxw : (Lit.int .i64 x).wf = true := WalkArith.wf_i64 hx
  have HD := Lib.hid h
  have HH := Lib.hid hh
  have HWK := Lib.hid hw
  have HZ := Lib.hid hz
  clear h hh hw hz
  go_enter Try.func11, Try.ntmps11
  go_upto_region 1 with fail
  refine name_region ?_; intro W hW
  have gW : Chg (fun _ => False) w W := by subst hW; exact (by repeat (first | with_reducible exact Chg.refl _ _ | with_reducible assumption | with_reducible refine Chg.drewN ?_ _ | with_reducible refine Chg.drew ?_ | with_reducible refine Chg.alloc ?_ _ | with_reducible refine Chg.setCell ?_ (by first | (left; rfl) | (left; left; rfl) | (left; right; rfl) | (left; right; left; rfl) | (left; right; right; rfl) | (right; exact Nat.le_refl _) | (right; simp; done) | (right; omega) | (right; simp at *; omega) | (simp at *; omega)) _ | with_reducible refine Chg.trans ?_ (by with_reducible assumption) (by intro i hi hT; first | exact hT | exact False.elim hT | omega | (simp at *; omega))))
  have b0 : W.cell? ⟨w.heap.size, 0, none⟩ = some (.int .i64 x) := by subst hW; go_simp
  have b1 : W.cell? ⟨w.heap.size, 1, none⟩ = some (.int .i64 n) := by subst hW; go_simp
  have b2 : W.cell? ⟨w.heap.size, 2, none⟩ = some (.string s) := by subst hW; go_simp
  have b3 : W.cell? ⟨w.heap.size, 3, none⟩ = some (.int .u64 nm) := by subst hW; go_simp
  clear hW
  have HW := Lib.hid (HD.out.still gW)
  have GW := Lib.hid gW
  have lW1 := cell_lt b0
  have HB := Lib.hid (And.intro b0 (And.intro b1 (And.intro b2 b3)))
  obtain ⟨bb, lb, sb, mb, h1, hi⟩ := HD.out.still gW
  have c5 := h1.c5
  have HI := Lib.hid hi
  clear h1 hi gW
  go_wp2_with fail
  refine (shut_no W d mb c5).mono ?_; rintro e w' ⟨rfl, rfl⟩
  clear c5
  by_cases h1 : n < 1
  · have HF : Hid (offB room share T K ns (x, n, s, nm) hs = false) := offB_bad (.inl h1)
    go_wp2
    go_ret2
    exact .inl ⟨HF.out, rfl, GW.out⟩
  by_cases h2 : 1099511627776 < n
  · have HF : Hid (offB room share T K ns (x, n, s, nm) hs = false) := offB_bad (.inr (.inl h2))
    go_wp2
    go_ret2
    exact .inl ⟨HF.out, rfl, GW.out⟩
  by_cases h3 : (200 : Int) < ↑s.size
  · have HF : Hid (offB room share T K ns (x, n, s, nm) hs = false) := offB_bad (.inr (.inr (.inl (by simp only; omega))))
    go_wp2
    go_ret2
    exact .inl ⟨HF.out, rfl, GW.out⟩
  have HBD : Hid ((1 ≤ n ∧ n ≤ 1099511627776) ∧ s.size ≤ 200) := ⟨by omega, by omega⟩
  go_wp2_with fail
  refine (has_dr W lab d N room share T K ns x HW.out hxw).mono ?_; rintro e w1 ⟨rfl, g1⟩
  have G1 := Lib.hid (GW.out.trans g1 fun _ _ h => h)
  have H1 := Lib.hid (HW.out.still g1)
  clear b0 b1 b2 b3
  have b0 := (g1.cell lW1 id _).trans HB.out.1
  have b1 := (g1.cell lW1 id _).trans HB.out.2.1
  have b2 := (g1.cell lW1 id _).trans HB.out.2.2.1
  have b3 := (g1.cell lW1 id _).trans HB.out.2.2.2
  have HB1 := Lib.hid (And.intro b0 (And.intro b1 (And.intro b2 b3)))
  have lw1 := cell_lt b0
  clear g1
  cases hhas : (getX (T ++ K) x).isSome with
  | true =>
    have HF : Hid (offB room share T K ns (x, n, s, nm) hs = false) := offB_bad (.inr (.inr (.inr hhas)))
    clear hhas
    go_wp2
    go_ret2
    exact .inl ⟨HF.out, rfl, G1.out⟩
  | false =>
    have HHAS := Lib.hid hhas
    clear hhas
    go_wp2_with fail
    refine (room_dr w1 lab d N room share T K ns x n s nm a c hs H1.out (by omega) HBD.out.1 HBD.out.2 (HH.out.keep G1.out) hl HWK.out).mono ?_; rintro e w3 ⟨a3, c3, rfl, ho, g3⟩
    obtain ⟨z, hz⟩ : ∃ z, z = goesX room share T K (x, n, s, nm) hs := ⟨_, rfl⟩
    rw [show roomP room share (T ++ K) n s hs = z from hz.symm] at ho ⊢
    have HZE := Lib.hid hz
    have HO := Lib.hid ho
    have H3 := Lib.hid (H1.out.still g3)
    have G3 := Lib.hid (G1.out.trans g3 fun _ _ h => h)
    clear b0 b1 b2 b3
    have b0 := (g3.cell lw1 id _).trans HB1.out.1
    have b1 := (g3.cell lw1 id _).trans HB1.out.2.1
    have b2 := (g3.cell lw1 id _).trans HB1.out.2.2.1
    have b3 := (g3.cell lw1 id _).trans HB1.out.2.2.2
    have HB3 := Lib.hid (And.intro b0 (And.intro b1 (And.intro b2 b3)))
    have lw3 := cell_lt b0
    clear hz ho g3 b0 b1 b2 b3 h1 h2 h3
    cases hrb : roomB room share n z with
    | false =>
      have HF : Hid (offB room share T K ns (x, n, s, nm) hs = false) := offB_room (by rw [← HZE.out]; exact hrb)
      clear hrb
      go_wp2
      go_ret2
      exact .inl ⟨HF.out, rfl, G3.out⟩
    | true =>
      have HRB := Lib.hid hrb
      clear hrb
      obtain ⟨⟨T2, K2⟩, hd⟩ : ∃ D, D = dropsX T K z.G := ⟨_, rfl⟩
      have HD2 := Lib.hid hd
      have hfit := offer_fit (room := room) (share := share) (n := n) (s := s) (hs := hs) HI.out (by show roomB _ _ _ (goesX room share T K (x, n, s, nm) hs) = true; rw [← HZE.out]; exact HRB.out) (T2 := T2) (K2 := K2) (by show dropsX T K (goesX room share T K (x, n, s, nm) hs).G = _; rw [← HZE.out]; exact hd.symm)
      rw [show roomP room share (T ++ K) n s hs = z from HZE.out.symm] at hfit
      have HFIT := Lib.hid hfit
      have hgl : z.G.length ≤ (T ++ K).length := by have h9 := hfit.2.2.2.2.length_eq; have h8 : (z.G ++ (T2 ++ K2)).length = z.G.length + (T2 ++ K2).length := List.length_append; omega
      clear hd hfit
      go_wp2_with fail
      go_loopw [50] (fun i wr => ∃ k : Nat, k ≤ z.G.length ∧ i = .int .i64 (↑k : Int) ∧ Hid (∀ g ∈ z.G.take k, tell ns g.2.2.2 < tell ns nm) ∧ Hid (Chg (fun _ => False) w3 wr)) (fun i _ => z.G.length - (intOf i).toNat)
      case atStart => exact ⟨0, by omega, rfl, fun g hg => by simp at hg, Chg.refl _ _⟩
      case round =>
        obtain ⟨k, hk, rfl, HT, HG⟩ := hrel
        by_cases hkt : k < z.G.length
        · obtain ⟨⟨y, m, q, qn⟩, ht⟩ : ∃ t, z.G[k]? = some t := ⟨_, List.getElem?_eq_getElem hkt⟩
          have HM : Hid ((y, m, q, qn) ∈ z.G) := List.mem_of_getElem? ht
          have HTK : Hid (z.G.take (k + 1) = z.G.take k ++ [(y, m, q, qn)]) := by show _ = _; rw [List.take_add_one, ht]; rfl
          have he := HI.out.each (y, m, q, qn) (HFIT.out.2.2.1 _ HM.out)
          have HE := Lib.hid he
          obtain ⟨g, o, rfl, k0, k1, k2, k3⟩ := ((show IsT w3 a3 c3 z.G from RdS.row HO.out (flatT_one _)).keep HG.out fun _ _ => id).at ht
          have lr := HG.out.size
          clear ht he
          go_upto_region 9 with fail
          refine name_region ?_; intro W4 hW4
          have gW4 : Chg (fun _ => False) wr W4 := by subst hW4; exact (by repeat (first | with_reducible exact Chg.refl _ _ | with_reducible assumption | with_reducible refine Chg.drewN ?_ _ | with_reducible refine Chg.drew ?_ | with_reducible refine Chg.alloc ?_ _ | with_reducible refine Chg.setCell ?_ (by first | (left; rfl) | (left; left; rfl) | (left; right; rfl) | (left; right; left; rfl) | (left; right; right; rfl) | (right; exact Nat.le_refl _) | (right; simp; done) | (right; omega) | (right; simp at *; omega) | (simp at *; omega)) _ | with_reducible refine Chg.trans ?_ (by with_reducible assumption) (by intro i hi hT; first | exact hT | exact False.elim hT | omega | (simp at *; omega))))
          have f3 : W4.cell? ⟨wr.heap.size, 3, none⟩ = some (.int .u64 qn) := by subst hW4; go_simp
          clear hW4 k0 k1 k2 k3
          have HG4 := Lib.hid (HG.out.trans gW4 fun _ _ h => h)
          have b3 := (HG4.out.cell lw3 id _).trans HB3.out.2.2.2
          obtain ⟨bb, lb, sb, mb, h4, hi4⟩ := H3.out.still HG4.out
          have c4 := h4.c4
          obtain ⟨ta, hta⟩ : ∃ u, u = tell ns nm := ⟨_, rfl⟩
          obtain ⟨tb, htb⟩ : ∃ u, u = tell ns qn := ⟨_, rfl⟩
          have HTT := Lib.hid (And.intro hta htb)
          have HA : Hid (∀ m, Calls Try.prog 30 #[.pointer (some ⟨sb, 0, none⟩), .int .u64 nm] (W4.drewN m) (Quiet (.int .i64 ta) (W4.drewN m))) := fun m => by rw [hta]; exact count_so _ _ sb ns nm (h4.sk.chg (S := fun _ => False) (by repeat (first | with_reducible exact Chg.refl _ _ | with_reducible assumption | with_reducible refine Chg.drewN ?_ _ | with_reducible refine Chg.drew ?_ | with_reducible refine Chg.alloc ?_ _ | with_reducible refine Chg.setCell ?_ (by first | (left; rfl) | (left; left; rfl) | (left; right; rfl) | (left; right; left; rfl) | (left; right; right; rfl) | (right; exact Nat.le_refl _) | (right; simp; done) | (right; omega) | (right; simp at *; omega) | (simp at *; omega)) _ | with_reducible refine Chg.trans ?_ (by with_reducible assumption) (by intro i hi hT; first | exact hT | exact False.elim hT | omega | (simp at *; omega)))) fun _ _ => id) hnm hns
          have HC : Hid (∀ m, Calls Try.prog 30 #[.pointer (some ⟨sb, 0, none⟩), .int .u64 qn] (W4.drewN m) (Quiet (.int .i64 tb) (W4.drewN m))) := fun m => by rw [htb]; exact count_so _ _ sb ns qn (h4.sk.chg (S := fun _ => False) (by repeat (first | with_reducible exact Chg.refl _ _ | with_reducible assumption | with_reducible refine Chg.drewN ?_ _ | with_reducible refine Chg.drew ?_ | with_reducible refine Chg.alloc ?_ _ | with_reducible refine Chg.setCell ?_ (by first | (left; rfl) | (left; left; rfl) | (left; right; rfl) | (left; right; left; rfl) | (left; right; right; rfl) | (right; exact Nat.le_refl _) | (right; simp; done) | (right; omega) | (right; simp at *; omega) | (simp at *; omega)) _ | with_reducible refine Chg.trans ?_ (by with_reducible assumption) (by intro i hi hT; first | exact hT | exact False.elim hT | omega | (simp at *; omega)))) fun _ _ => id) HE.out.2.2.2 hns
          clear h4 hi4 gW4 hta htb
          go_quiet ((first | (go_at_call 30; first | with_reducible exact quiet_qa (HA.out _) | with_reducible exact quiet_q (HA.out _) | with_reducible exact quiet_qa (HC.out _) | with_reducible exact quiet_q (HC.out _))))
          clear b3 c4 f3
          by_cases hB : ta ≤ tb
          · have qB := decP hB
            have hB' : ¬ tb < ta := by omega
            have HF : Hid (offB room share T K ns (x, n, s, nm) hs = false) := offB_name (g := (y, m, q, qn)) (by rw [← HZE.out]; exact HM.out) (by show tell ns nm ≤ tell ns qn; rw [← HTT.out.1, ← HTT.out.2]; exact hB)
            go_wp2
            go_ret2
            exact .inl ⟨HF.out, rfl, (G3.out.trans HG4.out fun _ _ h => h).trans (show Chg (fun _ => False) W4 _ from (by repeat (first | with_reducible exact Chg.refl _ _ | with_reducible assumption | with_reducible refine Chg.drewN ?_ _ | with_reducible refine Chg.drew ?_ | with_reducible refine Chg.alloc ?_ _ | with_reducible refine Chg.setCell ?_ (by first | (left; rfl) | (left; left; rfl) | (left; right; rfl) | (left; right; left; rfl) | (left; right; right; rfl) | (right; exact Nat.le_refl _) | (right; simp; done) | (right; omega) | (right; simp at *; omega) | (simp at *; omega)) _ | with_reducible refine Chg.trans ?_ (by with_reducible assumption) (by intro i hi hT; first | exact hT | exact False.elim hT | omega | (simp at *; omega))))) fun _ _ h => h⟩
          · have qB := decN hB
            have hB' : tb < ta := by omega
            have HBB : Hid (tell ns qn < tell ns nm) := by show _ < _; rw [← HTT.out.1, ← HTT.out.2]; exact hB'
            go_wp2
            go_roundw
            case rel => exact ⟨k + 1, by omega, by go_num, fun g hg => by
              rw [HTK.out] at hg
              rcases List.mem_append.1 hg with hg | hg
              · exact HT.out g hg
              · rw [List.mem_singleton.1 hg]; exact HBB.out, HG4.out.trans (show Chg (fun _ => False) W4 _ from (by repeat (first | with_reducible exact Chg.refl _ _ | with_reducible assumption | with_reducible refine Chg.drewN ?_ _ | with_reducible refine Chg.drew ?_ | with_reducible refine Chg.alloc ?_ _ | with_reducible refine Chg.setCell ?_ (by first | (left; rfl) | (left; left; rfl) | (left; right; rfl) | (left; right; left; rfl) | (left; right; right; rfl) | (right; exact Nat.le_refl _) | (right; simp; done) | (right; omega) | (right; simp at *; omega) | (simp at *; omega)) _ | with_reducible refine Chg.trans ?_ (by with_reducible assumption) (by intro i hi hT; first | exact hT | exact False.elim hT | omega | (simp at *; omega))))) fun _ _ h => h⟩
            case measure => simp [intOf]; omega
        · obtain rfl : k = z.G.length := by omega
          rw [List.take_length] at HT
          obtain ⟨w5, hw5⟩ : ∃ w5, w5 = wr := ⟨_, rfl⟩
          subst hw5
          have HALL : Hid (∀ g ∈ z.G, tell ns g.2.2.2 < tell ns nm) := HT.out
          have H5 := Lib.hid (H3.out.still HG.out)
          have G5 := Lib.hid (G3.out.trans HG.out fun _ _ h => h)
          have HB5 : Hid (w5.cell? ⟨w.heap.size, 0, none⟩ = some (.int .i64 x) ∧ w5.cell? ⟨w.heap.size, 1, none⟩ = some (.int .i64 n) ∧ w5.cell? ⟨w.heap.size, 2, none⟩ = some (.string s) ∧ w5.cell? ⟨w.heap.size, 3, none⟩ = some (.int .u64 nm)) := ⟨(HG.out.cell lw3 id _).trans HB3.out.1, (HG.out.cell lw3 id _).trans HB3.out.2.1, (HG.out.cell lw3 id _).trans HB3.out.2.2.1, (HG.out.cell lw3 id _).trans HB3.out.2.2.2⟩
          have lw5 := cell_lt HB5.out.1
          have HIT : Hid (IsT w5 a3 c3 z.G) := (show IsT w3 a3 c3 z.G from RdS.row HO.out (flatT_one _)).keep HG.out fun _ _ => id
          have HLB : Hid (∀ q, (Value.slice a3 z.G.length c3).ownBlock = some q → w.heap.size ≤ q) := fun q hq => Nat.le_trans G1.out.size (own_below HO.out hq).1
          clear HT hkt
          obtain ⟨ie, hie, ez0, ez1, ez2⟩ := info_parts infoI64
          go_wp2_with fail
          go_loopw [12, 72] (fun o12 i wr => ∃ (k : Nat) (lab2 : Nat → Nat) (a4 : Option Addr) (c4 : Nat), k ≤ z.G.length ∧ o12 = .slice a4 k c4 ∧ i = .int .i64 (↑k : Int) ∧ Hid (OfL w w5 lab d room share N T K ns z.G wr lab2 k a4 c4)) (fun _ i _ => z.G.length - (intOf i).toNat)
          case atStart => exact ⟨0, lab, none, 0, by omega, rfl, rfl, World.ownsRow_nil _ _ _ _, fun q hq => (by cases hq), H5.out, Lab.still G5.out, Chg.refl _ _, fun i hi _ => HD.out.low hi⟩
          case round =>
            obtain ⟨k, lab2, a4, c4, hk, rfl, rfl, HQ⟩ := hrel
            by_cases hkt : k < z.G.length
            · obtain ⟨⟨y, m, q, qn⟩, ht⟩ : ∃ t, z.G[k]? = some t := ⟨_, List.getElem?_eq_getElem hkt⟩
              have hsp : z.G.take k ++ (y, m, q, qn) :: z.G.drop (k + 1) = z.G := by rw [← drop_at ht, List.take_append_drop]
              have HM : Hid ((y, m, q, qn) ∈ z.G) := List.mem_of_getElem? ht
              have HTK : Hid (z.G.take (k + 1) = z.G.take k ++ [(y, m, q, qn)]) := by show _ = _; rw [List.take_add_one, ht]; rfl
              have he := HI.out.each (y, m, q, qn) (HFIT.out.2.2.1 _ HM.out)
              have hyw : (Lit.int .i64 y).wf = true := WalkArith.wf_i64 he.2.2.1
              have HNX : Hid (getX ((dropsX T K (z.G.take k)).1 ++ (dropsX T K (z.G.take k)).2) y = some (y, m, q, qn)) := drops_next (g := (y, m, q, qn)) (B := z.G.drop (k + 1)) (by rw [← keyT_pts]; exact HI.out.nodup) (by rw [hsp]; exact HFIT.out.2.2.2.1) (by rw [hsp]; exact HFIT.out.2.2.1)
              obtain ⟨g, o, rfl, k0, k1, k2, k3⟩ := (HIT.out.keep HQ.out.kp fun g hg => by have := HLB.out g hg; omega).at ht
              have lr := HQ.out.kp.size
              clear ht he hsp
              go_upto_region 16 with fail
              refine name_region ?_; intro W6 hW6
              have g6 : Chg (fun _ => False) wr W6 := by subst hW6; exact (by repeat (first | with_reducible exact Chg.refl _ _ | with_reducible assumption | with_reducible refine Chg.drewN ?_ _ | with_reducible refine Chg.drew ?_ | with_reducible refine Chg.alloc ?_ _ | with_reducible refine Chg.setCell ?_ (by first | (left; rfl) | (left; left; rfl) | (left; right; rfl) | (left; right; left; rfl) | (left; right; right; rfl) | (right; exact Nat.le_refl _) | (right; simp; done) | (right; omega) | (right; simp at *; omega) | (simp at *; omega)) _ | with_reducible refine Chg.trans ?_ (by with_reducible assumption) (by intro i hi hT; first | exact hT | exact False.elim hT | omega | (simp at *; omega))))
              have f0 : W6.cell? ⟨wr.heap.size, 0, none⟩ = some (.int .i64 y) := by subst hW6; go_simp
              clear hW6 k0 k1 k2 k3
              have H6 := Lib.hid (HQ.out.dr.still g6)
              have G6 := Lib.hid g6
              have l6 := cell_lt f0
              clear g6
              go_wp2_with fail
              refine (drop_some W6 lab2 d (N + 3 * k) room share _ _ ns y (y, m, q, qn) H6.out hyw HNX.out (by omega)).mono ?_; rintro e w7 ⟨rfl, lab3, hD, hL⟩
              have z6 : lab2 wr.heap.size = 0 := HQ.out.dr.low (Nat.le_refl _)
              have f7 := (hL.2.cell l6 (by omega) _).trans f0
              have ls7 := hL.2.size
              have HE7 := Lib.hid hD
              have HL7 := Lib.hid hL
              have HR7 : Hid (w7.ownsRow w5.heap.size 2 1 (.slice a4 k c4) k (nums (keyT (z.G.take k)))) := own_chg (own_chg HQ.out.row G6.out fun _ _ _ _ => id) hL.2 fun g _ _ hg => by have := HQ.out.free g hg; omega
              have HF7 : Hid (∀ q, (Value.slice a4 k c4).ownBlock = some q → lab3 q = 0) := fun q hq => by
                have h1 := own_below HQ.out.row hq
                rw [hL.1 q (Nat.lt_of_lt_of_le h1.2 G6.out.size)]; exact HQ.out.free q hq
              have HZ7 : Hid (∀ i, w.heap.size ≤ i → i < w5.heap.size → lab3 i = 0) := fun i h1 h2 => by
                have := G6.out.size
                rw [hL.1 i (by omega)]; exact HQ.out.zl i h1 h2
              have HK7 : Hid (Chg (fun i => i < w.heap.size) w5 w7) := (HQ.out.kp.trans G6.out fun _ _ h => h.elim).trans hL.2 fun i hi h => by
                rcases Nat.lt_or_ge i w.heap.size with h1 | h1
                · exact h1
                · have := HQ.out.zl i h1 hi; omega
              have HB7 : Hid (Lab w lab lab3 w7) := (HQ.out.lb.trans (Lab.still G6.out)).trans hL
              have HST : Hid (nums (keyT (z.G.take (k + 1))) = nums (keyT (z.G.take k)) ++ [.int .i64 y]) := by show _ = _; rw [HTK.out]; exact nums_keyT_snoc _ _
              have l57 : w5.heap.size ≤ w7.heap.size := HK7.out.size
              clear f0 hD hL
              go_wp2_with (at_builtin; go_loud (refine list_owned_at rfl _ _ 35 rfl w5.heap.size 2 ie _ 1 8 Try.underlying35 hie ez0 ez1 ez2 rfl (by decide) rfl rfl (own_chg HR7.out ((Chg.refl (fun _ => False) w7).alloc _) fun _ _ _ _ => id) (nums_one _) (rd_one (u := .int .i64 y) (by go_simp) rfl) (by decide) (by unfold maxLen; omega) (by omega) (by simp; omega) ?_; intro a5 c5 w9 ho9 hg9 hq9; have HO9 := Lib.hid ho9; have HG9 : Hid (Chg (fun i => (Value.slice a4 k c4).ownBlock = some i) w7 w9) := (((Chg.refl (fun i => (Value.slice a4 k c4).ownBlock = some i) w7).alloc _).trans (grown_chg (S := fun i => (Value.slice a4 k c4).ownBlock = some i) hg9 (fun q hq => hq)) fun _ _ h => h); have HQ9 : Hid (∀ q, (Value.slice a5 (k + 1) c5).ownBlock = some q → (Value.slice a4 k c4).ownBlock = some q ∨ w7.heap.size ≤ q) := (fun q hq => (hq9 q hq).elim Or.inl (fun e => Or.inr (by rw [e]; simp))); clear ho9 hg9 hq9))
              go_roundw
              case rel =>
                refine ⟨k + 1, lab3, a5, c5, by omega, rfl, by go_num, ⟨?_, fun q hq => ?_, ?_, ?_, ?_, HZ7.out⟩⟩
                · rw [HST.out]; exact HO9.out
                · rcases HQ9.out q hq with h | h
                  · exact HF7.out q h
                  · exact HE7.out.low h
                · rw [HTK.out, drops_snoc]
                  have := HE7.out.chg HG9.out fun i _ h => .inl (HF7.out i h)
                  exact this.mono (by omega)
                · exact ⟨HB7.out.1, HB7.out.2.trans HG9.out fun i hi h => by
                    have := own_below HR7.out h
                    omega⟩
                · exact HK7.out.trans HG9.out fun i hi h => by
                    have := own_below HR7.out h
                    omega
              case measure => simp [intOf]; omega
            · obtain rfl : k = z.G.length := by omega
              obtain ⟨w8, hw8⟩ : ∃ w8, w8 = wr := ⟨_, rfl⟩
              subst hw8
              have hd8 := HQ.out.dr
              have hr8 := HQ.out.row
              rw [List.take_length, ← HD2.out] at hd8
              rw [List.take_length] at hr8
              obtain ⟨bb, lb, sb, mb, h8, hi8⟩ := hd8
              have H8 : Hid (DrR w8 lab2 d bb lb sb mb room share (N + 3 * z.G.length) (sumX (T2 ++ K2)) (ofX (T2 ++ K2)) (pts T2) (pts K2) ns (getX (T2 ++ K2))) := h8
              have HI8 : Hid (DInv room share T2 K2) := hi8
              have HR8 := Lib.hid hr8
              have HF8 := Lib.hid HQ.out.free
              have HX8 : Hid (getX (T2 ++ K2) x = none) := by
                show _ = _
                cases e : getX (T2 ++ K2) x with
                | none => rfl
                | some u =>
                  obtain ⟨e1, e2, _⟩ := getX_at e
                  have h1 := (getX_mem HI.out.nodup).2 (HFIT.out.2.2.2.2.mem_iff.2 (List.mem_append_right _ e2))
                  have h2 := HHAS.out
                  rw [← e1, h1] at h2
                  cases h2
              have HBB : Hid (0 ≤ sumX (T2 ++ K2) ∧ sumX (T2 ++ K2) ≤ 1125899906842624 ∧ 0 ≤ ofX (T2 ++ K2) s.data.toList ∧ ofX (T2 ++ K2) s.data.toList ≤ 1125899906842624 ∧ 0 ≤ n ∧ n ≤ 1125899906842624) := by
                have h1 := HI8.out.all
                have h2 := HI8.out.own s.data.toList
                have h3 := HI8.out.bd
                have h4 := sumX_nonneg (X := T2 ++ K2) fun u hu => (HI8.out.each u hu).1.1
                have h5 := ofX_nonneg (X := T2 ++ K2) (fun u hu => (HI8.out.each u hu).1.1) s.data.toList
                have h6 := HBD.out.1
                exact ⟨h4, by omega, h5, by omega, by omega, by omega⟩
              have b0 := (HQ.out.kp.cell lw5 (by omega) _).trans HB5.out.1
              have b1 := (HQ.out.kp.cell lw5 (by omega) _).trans HB5.out.2.1
              have b2 := (HQ.out.kp.cell lw5 (by omega) _).trans HB5.out.2.2.1
              have b3 := (HQ.out.kp.cell lw5 (by omega) _).trans HB5.out.2.2.2
              have zb : lab2 w.heap.size = 0 := HQ.out.zl _ (Nat.le_refl _) lw5
              have c2 : w8.cell? ⟨d, 2, none⟩ = some (.pointer (some ⟨bb, 0, none⟩)) := H8.out.c2
              have ld8 := cell_lt c2
              have lb8 := cell_lt b0
              have ZB := Lib.hid zb
              have hgz : N + 3 * z.G.length ≤ 890 := by omega
              clear hr8 hi8 h8 zb hkt hk
              go_upto_region 19 with fail
              (have hN : w8.heap.size ≤ (World.heap w8).size := by first | assumption | exact Nat.le_refl _ | (simp; done) | omega | (simp; omega) | (simp at *; omega)); (have kr := fun d os b o (h : b < w8.heap.size) => (below_regrown w8 d os).cell (p := ⟨b, o, none⟩) (Nat.lt_of_lt_of_le h hN)); (refine wp_region_below_tail 8 (by kernel_rfl) (by kernel_rfl) ?_); (simp only [List.take_succ_cons, List.take_zero, List.drop_succ_cons, List.drop_zero]); (repeat (first | go_big_quiet_step ((first | fail)) | quiet_step ((first | fail)))); (refine wpQuiet_nil ?_); (intro wA hw9); (obtain ⟨⟨dq, osq⟩, hw9⟩ := hw9); (have g9 := below_regrown w8 dq osq); (rw [← hw9] at g9); (have gA : Below (w8.heap.size) _ wA := g9.mono hN); (have zA : w8.heap.size ≤ wA.heap.size := Nat.le_trans hN g9.size); (have cA := fun b o h => gA.cell (p := ⟨b, o, none⟩) h); (have fA := fun b o h => gA.frozen (p := ⟨b, o, none⟩) h); (clear hw9 kr hN g9)
              have gA' : Chg (fun _ => False) w8 wA := ⟨gA.os, gA.tape, gA.output, zA, fun k hk _ => gA.block k hk⟩
              have HA := Lib.hid (H8.out.still gA')
              have LA : Hid (Lab w lab lab2 wA) := HQ.out.lb.trans (Lab.still gA')
              have RA : Hid (wA.ownsRow w5.heap.size 2 1 (.slice a4 z.G.length c4) z.G.length (nums (keyT z.G))) := own_chg HR8.out gA' fun _ _ _ _ => id
              replace b0 := (gA'.cell lb8 id _).trans b0
              replace b1 := (gA'.cell lb8 id _).trans b1
              replace b2 := (gA'.cell lb8 id _).trans b2
              replace b3 := (gA'.cell lb8 id _).trans b3
              have lbA := cell_lt b0
              clear gA gA' zA cA fA c2 ld8
              go_wp2_with fail
              obtain ⟨v, hb, hv⟩ := HA.out.bk
              refine (badd_any wA bb (N + 3 * z.G.length) room share _ v _ s n hb HBD.out.2 HBB.out (by omega) HFIT.out.1 HFIT.out.2.1).mono ?_; rintro e wB ⟨rfl, hP⟩
              obtain ⟨q1, q2⟩ := HA.out.book hv hP
              obtain ⟨rB, fB⟩ := row_lab RA.out HF8.out q2 (by omega)
              obtain ⟨lab3, hl3⟩ : ∃ l, l = relab lab2 wA wB 2 := ⟨_, rfl⟩
              rw [← hl3] at q1 fB
              have hz3 : lab3 w.heap.size = 0 := by rw [hl3, relab_old lbA]; exact ZB.out
              have LB : Hid (Lab w lab lab3 wB) := by rw [hl3]; exact LA.out.trans (Lab.re (i := 2) (by omega) q2)
              have zb := ZB.out
              replace b0 := (q2.cell lbA (by omega) _).trans b0
              replace b1 := (q2.cell lbA (by omega) _).trans b1
              replace b3 := (q2.cell lbA (by omega) _).trans b3
              replace b2 := (q2.cell lbA (by omega) _).trans b2
              have HB' := Lib.hid q1
              have RB := Lib.hid rB
              have FB := Lib.hid fB
              have Z3 := Lib.hid hz3
              have c3' : wB.cell? ⟨d, 3, none⟩ = some (.pointer (some ⟨lb, 0, none⟩)) := q1.c3
              have ldB := cell_lt c3'
              have lbB := cell_lt b0
              clear hb hv hP q1 q2 rB fB hl3 hz3 zb
              go_upto_region 20 with fail
              (have hN : wB.heap.size ≤ (World.heap wB).size := by first | assumption | exact Nat.le_refl _ | (simp; done) | omega | (simp; omega) | (simp at *; omega)); (have kr := fun d os b o (h : b < wB.heap.size) => (below_regrown wB d os).cell (p := ⟨b, o, none⟩) (Nat.lt_of_lt_of_le h hN)); (refine wp_region_below_tail 8 (by kernel_rfl) (by kernel_rfl) ?_); (simp only [List.take_succ_cons, List.take_zero, List.drop_succ_cons, List.drop_zero]); (repeat (first | go_big_quiet_step ((first | fail)) | quiet_step ((first | fail)))); (refine wpQuiet_nil ?_); (intro wC hw9); (obtain ⟨⟨dq, osq⟩, hw9⟩ := hw9); (have g9 := below_regrown wB dq osq); (rw [← hw9] at g9); (have gC : Below (wB.heap.size) _ wC := g9.mono hN); (have zC : wB.heap.size ≤ wC.heap.size := Nat.le_trans hN g9.size); (have cC := fun b o h => gC.cell (p := ⟨b, o, none⟩) h); (have fC := fun b o h => gC.frozen (p := ⟨b, o, none⟩) h); (clear hw9 kr hN g9)
              have gC' : Chg (fun _ => False) wB wC := ⟨gC.os, gC.tape, gC.output, zC, fun k hk _ => gC.block k hk⟩
              have HC := Lib.hid (HB'.out.still gC')
              have LC : Hid (Lab w lab lab3 wC) := LB.out.trans (Lab.still gC')
              have RC : Hid (wC.ownsRow w5.heap.size 2 1 (.slice a4 z.G.length c4) z.G.length (nums (keyT z.G))) := own_chg RB.out gC' fun _ _ _ _ => id
              replace b0 := (gC'.cell lbB id _).trans b0
              replace b1 := (gC'.cell lbB id _).trans b1
              replace b2 := (gC'.cell lbB id _).trans b2
              replace b3 := (gC'.cell lbB id _).trans b3
              have lbC := cell_lt b0
              clear gC gC' zC cC fC c3' ldB
              go_wp2_with fail
              refine (add_ls wC _ lb (room - room / 5) (N + 3 * z.G.length + 1) (pts T2) (pts K2) x n HC.out.ls (by omega) hxw).mono ?_; rintro e wE ⟨rfl, hP⟩
              have hadd : addC (pts T2) (pts K2) x n = 0 := by
                have h1 := HBD.out.1
                have h2 := getX_has (T2 ++ K2) x
                rw [HX8.out, pts_append, hasK_append] at h2
                rw [addC, if_neg (by omega), ← h2]; rfl
              have haddT : addT (pts T2) (pts K2) x n = pts (T2 ++ [(x, n, s, nm)]) := by rw [addT, if_pos hadd, pts_append]; rfl
              rw [haddT] at hP
              obtain ⟨q1, q2⟩ := HC.out.list hP
              obtain ⟨rE, fE⟩ := row_lab RC.out FB.out q2 (by omega)
              obtain ⟨lab4, hl4⟩ : ∃ l, l = relab lab3 wC wE 3 := ⟨_, rfl⟩
              rw [← hl4] at q1 fE
              have LE : Hid (Lab w lab lab4 wE) := by rw [hl4]; exact LC.out.trans (Lab.re (i := 3) (by omega) q2)
              have z3 := Z3.out
              replace b0 := (q2.cell lbC (by omega) _).trans b0
              replace b1 := (q2.cell lbC (by omega) _).trans b1
              replace b2 := (q2.cell lbC (by omega) _).trans b2
              replace b3 := (q2.cell lbC (by omega) _).trans b3
              have HE := Lib.hid q1
              have RE := Lib.hid rE
              have FE := Lib.hid fE
              have c5 : wE.cell? ⟨d, 5, none⟩ = some (.map (some mb)) := q1.c5
              have ldE := cell_lt c5
              have lbE := cell_lt b0
              obtain ⟨E, hE⟩ : ∃ E, E = addC (pts T2) (pts K2) x n := ⟨_, rfl⟩
              rw [← hE]
              clear hP q1 q2 rE fE hl4 z3 hadd haddT hE
              go_upto_region 21 with fail
              (have hN : wE.heap.size ≤ (World.heap wE).size := by first | assumption | exact Nat.le_refl _ | (simp; done) | omega | (simp; omega) | (simp at *; omega)); (have kr := fun d os b o (h : b < wE.heap.size) => (below_regrown wE d os).cell (p := ⟨b, o, none⟩) (Nat.lt_of_lt_of_le h hN)); (refine wp_region_below_tail 7 (by kernel_rfl) (by kernel_rfl) ?_); (simp only [List.take_succ_cons, List.take_zero, List.drop_succ_cons, List.drop_zero]); (repeat (first | go_big_quiet_step ((first | fail)) | quiet_step ((first | fail)))); (refine wpQuiet_nil ?_); (intro wF hw9); (obtain ⟨⟨dq, osq⟩, hw9⟩ := hw9); (have g9 := below_regrown wE dq osq); (rw [← hw9] at g9); (have gF : Below (wE.heap.size) _ wF := g9.mono hN); (have zF : wE.heap.size ≤ wF.heap.size := Nat.le_trans hN g9.size); (have cF := fun b o h => gF.cell (p := ⟨b, o, none⟩) h); (have fF := fun b o h => gF.frozen (p := ⟨b, o, none⟩) h); (clear hw9 kr hN g9)
              have gF' : Chg (fun _ => False) wE wF := ⟨gF.os, gF.tape, gF.output, zF, fun k hk _ => gF.block k hk⟩
              have HFF := Lib.hid (HE.out.still gF')
              have LF : Hid (Lab w lab lab4 wF) := LE.out.trans (Lab.still gF')
              have RF : Hid (wF.ownsRow w5.heap.size 2 1 (.slice a4 z.G.length c4) z.G.length (nums (keyT z.G))) := own_chg RE.out gF' fun _ _ _ _ => id
              clear gF gF' zF cF fF c5 ldE b0 b1 b2 b3
              have HM := Lib.hid HFF.out.mp
              go_wp2_with (at_mapUpdate; go_loud (refine list_tput rfl _ _ _ rfl mb (N + 3 * z.G.length + 1 + 1) _ rfl HM.out (by omega) x rfl (x, n, s, nm) rfl hxw ?_; intro wG hmG hgG; have HMG := Lib.hid hmG; have HGG := Lib.hid hgG; clear hmG hgG))
              go_ret2
              have HG2 := HFF.out.map HMG.out HGG.out
              obtain ⟨s0, s1, s2, s3⟩ := offer_inv (x := x) (nm := nm) HI8.out HFIT.out.1 HFIT.out.2.1 HBD.out.1 HBD.out.2 hx hnm HX8.out
              have s2' : putF (ofX (T2 ++ K2)) s.data.toList (ofX (T2 ++ K2) s.data.toList + n) = ofX (T2 ++ [(x, n, s, nm)] ++ K2) := s2
              rw [s1, s2', s3] at HG2
              have hY : offB room share T K ns (x, n, s, nm) hs = true := offB_yes ⟨HBD.out.1.1, HBD.out.1.2, HBD.out.2⟩ HHAS.out (by rw [← HZE.out]; exact HRB.out) (by rw [← HZE.out]; exact HALL.out)
              refine .inr ⟨hY, a4, c4, lab4, ?_⟩
              rw [← HZE.out, ← HD2.out]
              have lmb : lab4 mb = 5 := HFF.out.lm
              refine ⟨rfl, own_mono (own_chg RF.out HGG.out fun g _ _ hg e => ?_) G5.out.size, FE.out, ⟨bb, lb, sb, mb, HG2, s0⟩, LF.out.trans (Lab.same (i := 5) (by omega) (HGG.out.mono fun i _ hi => by rw [hi]; exact lmb))⟩
              have := FE.out g hg
              rw [e] at this; omega
end Go.Proofs.Ytdoepjokaekckaa
