/- The door's call room, walked. -/
import Derived.Test.YtdoepjokaekckaaBh
namespace Go.Proofs.Ytdoepjokaekckaa
set_option linter.unusedVariables false
open Go.RowKit

theorem p1_stop {share n : Int} {s : ByteArray} {x : Tg} {X : List Tg} {p : Ps} (h : p.own + n ≤ share) : p1 share n s (x :: X) p = p := by rw [p1, if_pos h]
theorem p1_take {share n : Int} {s : ByteArray} {x : Tg} {X : List Tg} {p : Ps} (h : ¬ p.own + n ≤ share) (h2 : x.2.2.1 = s) (h3 : p.Y x.1 = false) : p1 share n s (x :: X) p = p1 share n s X ⟨p.own - x.2.1, p.al - x.2.1, fun z => if z = x.1 then true else p.Y z, p.G ++ [x]⟩ := by rw [p1, if_neg h, if_pos ⟨h2, h3⟩]
theorem p1_pass {share n : Int} {s : ByteArray} {x : Tg} {X : List Tg} {p : Ps} (h : ¬ p.own + n ≤ share) (h2 : ¬ (x.2.2.1 = s ∧ p.Y x.1 = false)) : p1 share n s (x :: X) p = p1 share n s X p := by rw [p1, if_neg h, if_neg h2]
theorem p2_stop {room n : Int} {x : Tg} {X : List Tg} {p : Ps} (h : p.al + n ≤ room) : p2 room n (x :: X) p = p := by rw [p2, if_pos h]
theorem p2_take {room n : Int} {x : Tg} {X : List Tg} {p : Ps} (h : ¬ p.al + n ≤ room) (h3 : p.Y x.1 = false) : p2 room n (x :: X) p = p2 room n X ⟨p.own, p.al - x.2.1, p.Y, p.G ++ [x]⟩ := by rw [p2, if_neg h, if_pos h3]
theorem p2_pass {room n : Int} {x : Tg} {X : List Tg} {p : Ps} (h : ¬ p.al + n ≤ room) (h3 : p.Y x.1 = true) : p2 room n (x :: X) p = p2 room n X p := by rw [p2, if_neg h, if_neg (by simp [h3])]
/-- What is known of a pass's state in memory, at its k-th thing. -/
structure PsM (w2 wr : World) (mb N B : Nat) (p : Ps) (k : Nat) (a : Option Addr) (c : Nat) : Prop where
  row : wr.ownsRow B 40 4 (.slice a p.G.length c) p.G.length (flatT p.G)
  chg : Chg (fun i => i = mb) w2 wr
  map : SyM wr mb N p.Y
  bd : -(1099511627776 * k) ≤ p.own ∧ p.own ≤ 1125899906842624 ∧ -(1099511627776 * k) ≤ p.al ∧ p.al ≤ 1125899906842624 ∧ p.G.length ≤ k
theorem decP {p : Prop} [Decidable p] (h : p) : decide p = true := decide_eq_true h
theorem decN {p : Prop} [Decidable p] (h : ¬ p) : decide p = false := decide_eq_false h
theorem PsM.mono {w2 wr : World} {mb N B k N' k' : Nat} {p : Ps} {a : Option Addr} {c : Nat} (h : PsM w2 wr mb N B p k a c) (hN : N ≤ N') (hk : k ≤ k') : PsM w2 wr mb N' B p k' a c := ⟨h.row, h.chg, h.map.mono hN, by have := h.bd; omega⟩
theorem PsM.still {w2 wr w3 : World} {mb N B k : Nat} {p : Ps} {a : Option Addr} {c : Nat} (h : PsM w2 wr mb N B p k a c) (g : Chg (fun _ => False) wr w3) : PsM w2 w3 mb N B p k a c := ⟨own_chg h.row g fun _ _ _ _ => id, h.chg.trans g fun _ _ h => h.elim, h.map.chg g id, h.bd⟩
theorem drop_at {X : List Tg} {k : Nat} {t : Tg} (h : X[k]? = some t) : X.drop k = t :: X.drop (k + 1) := by
  obtain ⟨h1, h2⟩ := List.getElem?_eq_some_iff.1 h
  rw [← h2]; exact List.drop_eq_getElem_cons h1
theorem p2_own (room n : Int) : ∀ (X : List Tg) (p : Ps), (p2 room n X p).own = p.own
  | [], p => rfl
  | x :: X, p => by
    rw [p2]
    split
    · rfl
    · split
      · rw [p2_own room n X]
      · rw [p2_own room n X]
def RoomPost (w : World) (r : Ps) (ok : Bool) (e : Ending) (w' : World) : Prop := ∃ a c, e = .returned (.tuple #[.slice a r.G.length c, .bool ok]) ∧ w'.ownsRow w.heap.size 40 4 (.slice a r.G.length c) r.G.length (flatT r.G) ∧ Chg (fun _ => False) w w'
/-- A slice of numbers that is only read. -/
def IsH (w : World) (a : Option Addr) (hs : List Int) : Prop := ∀ (j : Nat) y, hs[j]? = some y → ∃ g o, a = some ⟨g, o, none⟩ ∧ w.cell? ⟨g, o + j, none⟩ = some (.int .i64 y)
theorem IsH.at {w : World} {a : Option Addr} {hs : List Int} {j : Nat} {y : Int} (h : IsH w a hs) (hj : hs[j]? = some y) : ∃ g o, a = some ⟨g, o, none⟩ ∧ w.cell? ⟨g, o + j, none⟩ = some (.int .i64 y) := h j y hj
theorem IsH.keep {w w' : World} {a : Option Addr} {hs : List Int} (h : IsH w a hs) (k : Chg (fun _ => False) w w') : IsH w' a hs := fun j y hj => by
  obtain ⟨g, o, ha, hc⟩ := h j y hj
  exact ⟨g, o, ha, (k.cell (cell_lt hc) id _).trans hc⟩
theorem IsK.held {w : World} {a : Option Addr} {c : Nat} {hs : List Int} (h : IsK w a c hs) : IsH w a hs := fun _ _ hj => h.at hj
theorem isH_nil (w : World) (a : Option Addr) : IsH w a [] := fun j y hj => by cases hj
set_option maxHeartbeats 4000000 in
set_option maxRecDepth 4000 in
theorem room_dr (w : World) (lab : Nat → Nat) (d N : Nat) (room share : Int) (T K : List Tg) (ns : List Int) (x n : Int) (s : ByteArray) (nm : Int) (a : Option Addr) (c : Nat) (hs : List Int) (h : Dr w lab d room share N T K ns) (hN : N ≤ 990) (hn : 1 ≤ n ∧ n ≤ 1099511627776) (hz : s.size ≤ 200) (hh : IsH w a hs) (hl : hs.length ≤ 4611686018427380000) (hw : ∀ y ∈ hs, -9223372036854775808 ≤ y ∧ y ≤ 9223372036854775807) :
    Calls Try.prog 29 #[.pointer (some ⟨d, 0, none⟩), tv (x, n, s, nm), .slice a hs.length c] w (RoomPost w (roomP room share (T ++ K) n s hs) (roomB room share n (roomP room share (T ++ K) n s hs))) := by
  show Calls _ _ #[_, .agg #[.int .i64 x, .int .i64 n, .string s, .int .u64 nm], _] _ _
  obtain ⟨ie, hie, ez0, ez1, ez2⟩ := info_parts infoTg
  have hmm := @run_makeMap Try.prog
  have HD := Lib.hid h
  obtain ⟨X, hX⟩ : ∃ X, X = T ++ K := ⟨_, rfl⟩
  rw [← hX]
  have HX := Lib.hid hX
  have hlen : X.length ≤ 990 := by
    obtain ⟨bb, lb, sb, mb, h, hi⟩ := h
    have := h.ls.len; rw [pts_len, pts_len] at this; rw [hX, List.length_append]; omega
  clear hX
  have ldw : d < w.heap.size := by obtain ⟨bb, lb, sb, mb, h, hi⟩ := h; exact cell_lt h.c0
  have HH := Lib.hid hh
  have HWK := Lib.hid hw
  clear h hh hw
  go_enter Try.func29, Try.ntmps29
  go_upto_region 2 with fail
  refine name_region ?_; intro W hW
  have gW : Chg (fun _ => False) w W := by subst hW; exact (by repeat (first | with_reducible exact Chg.refl _ _ | with_reducible assumption | with_reducible refine Chg.drewN ?_ _ | with_reducible refine Chg.drew ?_ | with_reducible refine Chg.alloc ?_ _ | with_reducible refine Chg.setCell ?_ (by first | (left; rfl) | (left; left; rfl) | (left; right; rfl) | (left; right; left; rfl) | (left; right; right; rfl) | (right; exact Nat.le_refl _) | (right; simp; done) | (right; omega) | (right; simp at *; omega) | (simp at *; omega)) _ | with_reducible refine Chg.trans ?_ (by with_reducible assumption) (by intro i hi hT; first | exact hT | exact False.elim hT | omega | (simp at *; omega))))
  have hmb : SyM W (w.heap.size + 1) 0 (fun _ => false) := by subst hW; have := syM_made (w.alloc (.cells #[Value.int .i64 x, .int .i64 n, .string s, .int .u64 nm] 40)); simpa using this
  have b1 : W.cell? ⟨w.heap.size, 1, none⟩ = some (.int .i64 n) := by subst hW; go_simp
  have b2 : W.cell? ⟨w.heap.size, 2, none⟩ = some (.string s) := by subst hW; go_simp
  clear hW
  have lW1 := cell_lt b1
  have HMB := Lib.hid hmb
  have lmb := hmb.lt
  have HB := Lib.hid (And.intro b1 b2)
  have GW := Lib.hid gW
  clear hmb gW b1 b2
  go_wp2_with fail
  go_loopw [22] (fun i wr => ∃ k : Nat, k ≤ hs.length ∧ i = .int .i64 (↑k : Int) ∧ Hid (SyM wr (w.heap.size + 1) k (fun z => decide (z ∈ hs.take k))) ∧ Hid (Chg (fun i => i = (w.heap.size + 1)) W wr)) (fun i _ => hs.length - (intOf i).toNat)
  case atStart => exact ⟨0, by omega, rfl, HMB.out.congr fun z => by simp, Chg.refl _ _⟩
  case round =>
    obtain ⟨k, hk, rfl, HS, HG⟩ := hrel
    by_cases hkt : k < hs.length
    · obtain ⟨y, hy⟩ : ∃ y, hs[k]? = some y := ⟨_, List.getElem?_eq_getElem hkt⟩
      have hyw : (Lit.int .i64 y).wf = true := WalkArith.wf_i64 (HWK.out y (List.mem_of_getElem? hy))
      obtain ⟨g, o, rfl, kw⟩ := HH.out.at hy
      have lg := cell_lt kw
      have k0 := (HG.out.cell (Nat.lt_of_lt_of_le lg GW.out.size) (by omega) _).trans ((GW.out.cell lg id _).trans kw)
      have HY : Hid (hs.take (k + 1) = hs.take k ++ [y]) := by show _ = _; rw [List.take_add_one, hy]; rfl
      have lg := cell_lt k0
      clear hy kw
      go_wp2_with (at_mapUpdate; go_loud (refine list_yput rfl _ _ _ rfl (w.heap.size + 1) k _ rfl (HS.out.chg (S := fun _ => False) (by repeat (first | with_reducible exact Chg.refl _ _ | with_reducible assumption | with_reducible refine Chg.drewN ?_ _ | with_reducible refine Chg.drew ?_ | with_reducible refine Chg.alloc ?_ _ | with_reducible refine Chg.setCell ?_ (by first | (left; rfl) | (left; left; rfl) | (left; right; rfl) | (left; right; left; rfl) | (left; right; right; rfl) | (right; exact Nat.le_refl _) | (right; simp; done) | (right; omega) | (right; simp at *; omega) | (simp at *; omega)) _ | with_reducible refine Chg.trans ?_ (by with_reducible assumption) (by intro i hi hT; first | exact hT | exact False.elim hT | omega | (simp at *; omega)))) id) (by omega) y rfl rfl hyw ?_; intro w3 hm3 hg3; have HM3 := Lib.hid hm3; have HG3 : Hid (Chg (fun i => i = (w.heap.size + 1)) W w3) := (HG.out.trans (hg3) fun _ _ h => h); clear hm3 hg3))
      go_roundw
      case rel => exact ⟨k + 1, by omega, by go_num, HM3.out.congr fun z => by rw [HY.out]; by_cases e : z = y <;> simp [e], HG3.out⟩
      case measure => simp [intOf]; omega
    · obtain rfl : k = hs.length := by omega
      rw [List.take_length] at HS
      obtain ⟨w1, hw1⟩ : ∃ w1, w1 = wr := ⟨_, rfl⟩
      subst hw1
      have G0 : Hid (Chg (fun _ => False) w w1) := GW.out.trans HG.out fun i hi e => by omega
      have H1 := Lib.hid (HD.out.still G0.out)
      have GR := Lib.hid HG.out.size
      clear hkt hk
      go_wp2_with fail
      refine (things_dr w1 lab d N room share T K ns H1.out hN).mono ?_; rintro e w2 ⟨a2, c2, rfl, ho, g2⟩
      rw [← HX.out] at ho ⊢
      have HO2 := Lib.hid ho
      have G2 := Lib.hid g2
      obtain ⟨own0, hown⟩ : ∃ u, u = ofX X s.data.toList := ⟨_, rfl⟩
      obtain ⟨al0, hal⟩ : ∃ u, u = sumX X := ⟨_, rfl⟩
      obtain ⟨bb, lb, sb, mb, h2, hi⟩ := H1.out.still g2
      rw [← HX.out] at h2
      have HI := Lib.hid hi
      have c2' := h2.c2
      have b2 : w2.cell? ⟨w.heap.size, 2, none⟩ = some (.string s) := (g2.cell (by have := GR.out; omega) id _).trans ((HG.out.cell lW1 (by omega) _).trans HB.out.2)
      obtain ⟨v, hb, hv⟩ := h2.bk
      have HA : Hid (∀ m, Calls Try.prog 47 #[.pointer (some ⟨bb, 0, none⟩)] (w2.drewN m) fun e w' => e = .returned (.int .i64 al0) ∧ w2.drewN m = w') := fun m => by rw [hal]; exact all_any _ bb N room share _ v _ (hb.still (by repeat (first | with_reducible exact Chg.refl _ _ | with_reducible assumption | with_reducible refine Chg.drewN ?_ _ | with_reducible refine Chg.drew ?_ | with_reducible refine Chg.alloc ?_ _ | with_reducible refine Chg.setCell ?_ (by first | (left; rfl) | (left; left; rfl) | (left; right; rfl) | (left; right; left; rfl) | (left; right; right; rfl) | (right; exact Nat.le_refl _) | (right; simp; done) | (right; omega) | (right; simp at *; omega) | (simp at *; omega)) _ | with_reducible refine Chg.trans ?_ (by with_reducible assumption) (by intro i hi hT; first | exact hT | exact False.elim hT | omega | (simp at *; omega)))))
      have HF : Hid (∀ m, Calls Try.prog 48 #[.pointer (some ⟨bb, 0, none⟩), .string s] (w2.drewN m) fun e w' => e = .returned (.int .i64 own0) ∧ w2.drewN m = w') := fun m => by rw [hown]; exact of_any _ bb N room share _ v _ s (hb.still (by repeat (first | with_reducible exact Chg.refl _ _ | with_reducible assumption | with_reducible refine Chg.drewN ?_ _ | with_reducible refine Chg.drew ?_ | with_reducible refine Chg.alloc ?_ _ | with_reducible refine Chg.setCell ?_ (by first | (left; rfl) | (left; left; rfl) | (left; right; rfl) | (left; right; left; rfl) | (left; right; right; rfl) | (right; exact Nat.le_refl _) | (right; simp; done) | (right; omega) | (right; simp at *; omega) | (simp at *; omega)) _ | with_reducible refine Chg.trans ?_ (by with_reducible assumption) (by intro i hi hT; first | exact hT | exact False.elim hT | omega | (simp at *; omega))))) (by unfold maxLen; omega)
      have HV := Lib.hid (And.intro hown hal)
      clear h2 hi hb hv ho g2 hown hal
      go_upto_region 8 with fail
      go_quiet ((first | (go_at_call 47; first | with_reducible exact quiet_add (HA.out _) | with_reducible exact quiet_same (HA.out _)) | (go_at_call 48; first | with_reducible exact quiet_add (HF.out _) | with_reducible exact quiet_same (HF.out _))))
      go_upto_region 9 with fail
      refine name_region ?_; intro W2 hW2
      have gW2 : Chg (fun _ => False) w2 W2 := by subst hW2; exact (by repeat (first | with_reducible exact Chg.refl _ _ | with_reducible assumption | with_reducible refine Chg.drewN ?_ _ | with_reducible refine Chg.drew ?_ | with_reducible refine Chg.alloc ?_ _ | with_reducible refine Chg.setCell ?_ (by first | (left; rfl) | (left; left; rfl) | (left; right; rfl) | (left; right; left; rfl) | (left; right; right; rfl) | (right; exact Nat.le_refl _) | (right; simp; done) | (right; omega) | (right; simp at *; omega) | (simp at *; omega)) _ | with_reducible refine Chg.trans ?_ (by with_reducible assumption) (by intro i hi hT; first | exact hT | exact False.elim hT | omega | (simp at *; omega))))
      clear hW2 c2' b2
      have GW2 : Hid (Chg (fun i => i = w.heap.size + 1) W W2) := (HG.out.trans G2.out fun _ _ h => h.elim).trans gW2 fun _ _ h => h.elim
      have HO : Hid (W2.ownsRow w1.heap.size 40 4 (.slice a2 X.length c2) X.length (flatT X)) := own_chg HO2.out gW2 fun _ _ _ _ => id
      have H2 : Hid (Dr W2 lab d room share N T K ns) := (H1.out.still G2.out).still gW2
      have lwr : W.heap.size ≤ w1.heap.size := HG.out.size
      have HS2 : Hid (SyM W2 (w.heap.size + 1) hs.length (fun z => decide (z ∈ hs))) := (HS.out.chg G2.out id).chg gW2 id
      have lW2 : w1.heap.size ≤ W2.heap.size := Nat.le_trans G2.out.size gW2.size
      clear gW2 GR
      obtain ⟨r, hr⟩ : ∃ r, p1 share n s X ⟨own0, al0, fun z => decide (z ∈ hs), []⟩ = r := ⟨_, rfl⟩
      have HR := Lib.hid hr
      clear hr
      have HBD : Hid (0 ≤ own0 ∧ own0 ≤ 1125899906842624 ∧ 0 ≤ al0 ∧ al0 ≤ 1125899906842624 ∧ share ≤ 1125899906842624 ∧ room ≤ 1125899906842624) := by
        have h1 := HI.out.all
        have h2 := HI.out.own s.data.toList
        have h3 := HI.out.bd
        have h4 := sumX_nonneg (X := T ++ K) fun u hu => (HI.out.each u hu).1.1
        have h5 := ofX_nonneg (X := T ++ K) (fun u hu => (HI.out.each u hu).1.1) s.data.toList
        rw [← HX.out] at h1 h2 h4 h5
        rw [← HV.out.1] at h2 h5
        rw [← HV.out.2] at h1 h4
        exact ⟨h5, by omega, h4, by omega, by omega, by omega⟩
      go_upto_block 2 with fail
      go_cut [12, 13, 14] (fun o12 o13 o14 wx => ∃ (a3 : Option Addr) (c3 : Nat), o12 = .int .i64 r.own ∧ o13 = .int .i64 r.al ∧ o14 = .slice a3 r.G.length c3 ∧ Hid (PsM W2 wx (w.heap.size + 1) (hs.length + X.length) W2.heap.size r X.length a3 c3))
      case first =>
        go_wp2_with fail
        go_loopw [12, 13, 14, 45] (fun o12 o13 o14 i wr => ∃ (k : Nat) (a3 : Option Addr) (c3 : Nat) (p : Ps), k ≤ X.length ∧ o12 = .int .i64 p.own ∧ o13 = .int .i64 p.al ∧ o14 = .slice a3 p.G.length c3 ∧ i = .int .i64 (↑k : Int) ∧ Hid (PsM W2 wr (w.heap.size + 1) (hs.length + k) W2.heap.size p k a3 c3) ∧ Hid (p1 share n s (X.drop k) p = r)) (fun _ _ _ i _ => X.length - (intOf i).toNat)
        case atStart => exact ⟨0, none, 0, _, by omega, rfl, rfl, rfl, rfl, ⟨World.ownsRow_nil _ _ _ _, Chg.refl _ _, HS2.out, by have := HBD.out; simp; omega⟩, HR.out⟩
        case round =>
          obtain ⟨k, a3, c3, p, hk, rfl, rfl, rfl, rfl, HP, HQ⟩ := hrel
          by_cases hkt : k < X.length
          · obtain ⟨⟨y, m, q, qn⟩, ht⟩ : ∃ t, X[k]? = some t := ⟨_, List.getElem?_eq_getElem hkt⟩
            have HDR := Lib.hid (drop_at ht)
            have he := HI.out.each (y, m, q, qn) (by rw [← HX.out]; exact List.mem_of_getElem? ht)
            have hyw : (Lit.int .i64 y).wf = true := WalkArith.wf_i64 he.2.2.1
            have hI : IsT wr a2 c2 X := (show IsT W2 a2 c2 X from RdS.row HO.out (flatT_one _)).keep HP.out.chg fun g hg => by have := own_below HO.out hg; omega
            obtain ⟨g, o, rfl, k0, k1, k2, k3⟩ := hI.at ht
            have HE := Lib.hid he
            have hG := HP.out.bd.2.2.2.2
            have lq : W2.heap.size ≤ wr.heap.size := HP.out.chg.size
            clear hI ht he
            go_upto_region 13 with fail
            refine name_region ?_; intro W3 hW3
            have gW3 : Chg (fun _ => False) wr W3 := by subst hW3; exact (by repeat (first | with_reducible exact Chg.refl _ _ | with_reducible assumption | with_reducible refine Chg.drewN ?_ _ | with_reducible refine Chg.drew ?_ | with_reducible refine Chg.alloc ?_ _ | with_reducible refine Chg.setCell ?_ (by first | (left; rfl) | (left; left; rfl) | (left; right; rfl) | (left; right; left; rfl) | (left; right; right; rfl) | (right; exact Nat.le_refl _) | (right; simp; done) | (right; omega) | (right; simp at *; omega) | (simp at *; omega)) _ | with_reducible refine Chg.trans ?_ (by with_reducible assumption) (by intro i hi hT; first | exact hT | exact False.elim hT | omega | (simp at *; omega))))
            have f0 : W3.cell? ⟨wr.heap.size, 0, none⟩ = some (.int .i64 y) := by subst hW3; go_simp
            have f1 : W3.cell? ⟨wr.heap.size, 1, none⟩ = some (.int .i64 m) := by subst hW3; go_simp
            have f2 : W3.cell? ⟨wr.heap.size, 2, none⟩ = some (.string q) := by subst hW3; go_simp
            have f3 : W3.cell? ⟨wr.heap.size, 3, none⟩ = some (.int .u64 qn) := by subst hW3; go_simp
            clear hW3 k0 k1 k2 k3
            have HP3 := Lib.hid (HP.out.still gW3)
            have b1 : W3.cell? ⟨w.heap.size, 1, none⟩ = some (.int .i64 n) := (HP3.out.chg.cell (by omega) (by omega) _).trans ((GW2.out.cell lW1 (by omega) _).trans HB.out.1)
            have b2 : W3.cell? ⟨w.heap.size, 2, none⟩ = some (.string s) := (HP3.out.chg.cell (by omega) (by omega) _).trans ((GW2.out.cell lW1 (by omega) _).trans HB.out.2)
            have c1 : W3.cell? ⟨d, 1, none⟩ = some (.int .i64 share) := by
              obtain ⟨bb, lb, sb, mb, h2, hi⟩ := H2.out
              exact (HP3.out.chg.cell (by omega) (by omega) _).trans h2.c1
            have hpb := HP.out.bd
            have e1 : IntKind.i64.wrap (p.own + n) = p.own + n := IntWalk.i64_in _ (by omega)
            clear gW3 hpb
            go_quiet (fail)
            by_cases hB : p.own + n ≤ share
            · have qB := decP hB
              have HBB := Lib.hid hB
              have hB' : ¬ share < p.own + n := by omega
              clear f0 f1 f2 f3 b1 b2 c1
              go_wp2
              go_meet
              have e := HQ.out
              rw [HDR.out, p1_stop HBB.out] at e
              subst e
              exact ⟨_, c3, rfl, rfl, rfl, (HP3.out.still (by repeat (first | with_reducible exact Chg.refl _ _ | with_reducible assumption | with_reducible refine Chg.drewN ?_ _ | with_reducible refine Chg.drew ?_ | with_reducible refine Chg.alloc ?_ _ | with_reducible refine Chg.setCell ?_ (by first | (left; rfl) | (left; left; rfl) | (left; right; rfl) | (left; right; left; rfl) | (left; right; right; rfl) | (right; exact Nat.le_refl _) | (right; simp; done) | (right; omega) | (right; simp at *; omega) | (simp at *; omega)) _ | with_reducible refine Chg.trans ?_ (by with_reducible assumption) (by intro i hi hT; first | exact hT | exact False.elim hT | omega | (simp at *; omega))))).mono (by omega) (by omega)⟩
            · have qB := decN hB
              have HBB := Lib.hid hB
              have hB' : share < p.own + n := by omega
              go_upto_region 14 with fail
              refine name_region ?_; intro W4 hW4
              have g4 : Chg (fun _ => False) W3 W4 := by subst hW4; exact (by repeat (first | with_reducible exact Chg.refl _ _ | with_reducible assumption | with_reducible refine Chg.drewN ?_ _ | with_reducible refine Chg.drew ?_ | with_reducible refine Chg.alloc ?_ _ | with_reducible refine Chg.setCell ?_ (by first | (left; rfl) | (left; left; rfl) | (left; right; rfl) | (left; right; left; rfl) | (left; right; right; rfl) | (right; exact Nat.le_refl _) | (right; simp; done) | (right; omega) | (right; simp at *; omega) | (simp at *; omega)) _ | with_reducible refine Chg.trans ?_ (by with_reducible assumption) (by intro i hi hT; first | exact hT | exact False.elim hT | omega | (simp at *; omega))))
              clear hW4
              replace f0 := (g4.cell (cell_lt f0) id _).trans f0
              replace f1 := (g4.cell (cell_lt f1) id _).trans f1
              replace f2 := (g4.cell (cell_lt f2) id _).trans f2
              replace f3 := (g4.cell (cell_lt f3) id _).trans f3
              replace b2 := (g4.cell (cell_lt b2) id _).trans b2
              have HP4 := Lib.hid (HP3.out.still g4)
              have lk4 := HP4.out.map.get hyw
              have l4 := cell_lt f0
              clear c1 b1 e1 hB hB' qB g4
              by_cases hqs : q = s
              · have hq2 : q.toList = s.toList := by rw [hqs]
                have HQS := Lib.hid hqs
                clear hqs
                cases hY : p.Y y with
                | false =>
                  have HY := Lib.hid hY
                  rw [hY] at lk4
                  have hpb := HP.out.bd
                  have hem := HE.out.1
                  simp only at hem
                  have e2 : IntKind.i64.wrap (p.own - m) = p.own - m := IntWalk.i64_in _ (by omega)
                  have e3 : IntKind.i64.wrap (p.al - m) = p.al - m := IntWalk.i64_in _ (by omega)
                  have HST : Hid ((p.G ++ [(y, m, q, qn)]).length = p.G.length + 1 ∧ flatT (p.G ++ [(y, m, q, qn)]) = flatT p.G ++ flatT [(y, m, q, qn)]) := ⟨by simp, flatT_append _ _⟩
                  clear hY hpb
                  go_wp2_with (first
                    | (at_builtin; go_loud (refine list_owned rfl _ _ 50 rfl W2.heap.size 40 ie _ 4 40 Try.underlying50 hie ez0 ez1 ez2 rfl (by decide) rfl rfl (own_chg HP4.out.row ((Chg.refl (fun _ => False) W4).alloc _) fun _ _ _ _ => id) (flatT_one _) (rd_four (x := y) (y := m) (s := q) (z := qn) (by go_simp) (by go_simp) (by go_simp) (by go_simp)) (by unfold maxLen; omega) (by omega) (by simp; omega) ?_; intro a5 c5 w5 ho5 hg5 hone5; have HO5 := Lib.hid ho5; have k5 := (((Chg.refl (fun i => W2.heap.size ≤ i ∧ i < wr.heap.size) W4).alloc _).trans (grown_chg (S := fun i => W2.heap.size ≤ i ∧ i < wr.heap.size) hg5 (fun q hq => own_below HP.out.row hq)) fun _ _ h => h); replace f0 := (k5.cell l4 (by omega) _).trans f0; replace f1 := (k5.cell l4 (by omega) _).trans f1; have K5 := Lib.hid k5; clear ho5 hg5 hone5 k5))
                    | (at_mapUpdate; go_loud (refine list_yput rfl _ _ _ rfl (w.heap.size + 1) (hs.length + k) _ rfl (HP4.out.map.chg K5.out (by omega)) (by omega) y rfl rfl hyw ?_; intro w6 hm6 hg6; have l5 := K5.out.size; replace f1 := (hg6.cell (by omega) (by omega) _).trans f1; have HM6 := Lib.hid hm6; have HG6 := Lib.hid hg6; clear hm6 hg6)))
                  go_roundw
                  case rel =>
                    have hpb := HP.out.bd
                    refine ⟨k + 1, a5, c5, ⟨p.own - m, p.al - m, _, p.G ++ [(y, m, q, qn)]⟩, by omega, rfl, rfl, by rw [HST.out.1], by go_num, ⟨?_, ?_, HM6.out, ?_⟩, ?_⟩
                    · rw [HST.out.1, HST.out.2]
                      exact own_chg HO5.out HG6.out fun g hg _ _ e => by omega
                    · exact (HP4.out.chg.trans K5.out fun i hi h => by omega).trans HG6.out fun _ _ h => h
                    · simp only [HST.out.1]; push_cast; omega
                    · have e := HQ.out
                      rw [HDR.out, p1_take HBB.out HQS.out HY.out] at e
                      exact e
                  case measure => simp [intOf]; omega
                | true =>
                  have HY := Lib.hid hY
                  rw [hY] at lk4
                  clear hY
                  go_wp2_with fail
                  go_roundw
                  case rel =>
                    have e := HQ.out
                    rw [HDR.out, p1_pass HBB.out (by rw [HY.out]; simp)] at e
                    exact ⟨k + 1, _, _, p, by omega, rfl, rfl, rfl, by go_num, HP4.out.mono (by omega) (by omega), e⟩
                  case measure => simp [intOf]; omega
              · have hq2 : ¬ q.toList = s.toList := fun h => hqs (bytes_ext (by rwa [ByteArray.toList_eq, ByteArray.toList_eq] at h))
                have HQS := Lib.hid hqs
                clear hqs
                go_wp2_with fail
                go_roundw
                case rel =>
                  have e := HQ.out
                  rw [HDR.out, p1_pass HBB.out (fun h => HQS.out h.1)] at e
                  exact ⟨k + 1, _, _, p, by omega, rfl, rfl, rfl, by go_num, HP4.out.mono (by omega) (by omega), e⟩
                case measure => simp [intOf]; omega
          · obtain rfl : k = X.length := by omega
            go_wp2
            go_meet
            have e := HQ.out
            rw [List.drop_length] at e
            have e : p = r := e
            subst e
            exact ⟨_, _, rfl, rfl, rfl, HP.out⟩
      case rest =>
        obtain ⟨a3, c3, rfl, rfl, rfl, HP0⟩ := hcut
        obtain ⟨z, hz⟩ : ∃ z, p2 room n X r = z := ⟨_, rfl⟩
        have HZ := Lib.hid hz
        clear hz
        go_upto_block 4 with fail
        go_cut [13, 14] (fun o13 o14 wx => ∃ (a4 : Option Addr) (c4 : Nat), o13 = .int .i64 z.al ∧ o14 = .slice a4 z.G.length c4 ∧ Hid (PsM W2 wx (w.heap.size + 1) (hs.length + X.length) W2.heap.size z (X.length + X.length) a4 c4))
        case first =>
          go_wp2_with fail
          go_loopw [13, 14, 88] (fun o13 o14 i wq => ∃ (k : Nat) (a4 : Option Addr) (c4 : Nat) (p : Ps), k ≤ X.length ∧ o13 = .int .i64 p.al ∧ o14 = .slice a4 p.G.length c4 ∧ i = .int .i64 (↑k : Int) ∧ Hid (PsM W2 wq (w.heap.size + 1) (hs.length + X.length) W2.heap.size p (X.length + k) a4 c4) ∧ Hid (p2 room n (X.drop k) p = z)) (fun _ _ i _ => X.length - (intOf i).toNat)
          case atStart => exact ⟨0, _, _, r, by omega, rfl, rfl, rfl, HP0.out, HZ.out⟩
          case round =>
            obtain ⟨k, a4, c4, p, hk, rfl, rfl, rfl, HP, HQ⟩ := hrel
            by_cases hkt : k < X.length
            · obtain ⟨⟨y, m, q, qn⟩, ht⟩ : ∃ t, X[k]? = some t := ⟨_, List.getElem?_eq_getElem hkt⟩
              have HDR := Lib.hid (drop_at ht)
              have he := HI.out.each (y, m, q, qn) (by rw [← HX.out]; exact List.mem_of_getElem? ht)
              have hyw : (Lit.int .i64 y).wf = true := WalkArith.wf_i64 he.2.2.1
              have hI : IsT wr a2 c2 X := (show IsT W2 a2 c2 X from RdS.row HO.out (flatT_one _)).keep HP.out.chg fun g hg => by have := own_below HO.out hg; omega
              obtain ⟨g, o, rfl, k0, k1, k2, k3⟩ := hI.at ht
              have HE := Lib.hid he
              have hG := HP.out.bd.2.2.2.2
              have lq : W2.heap.size ≤ wr.heap.size := HP.out.chg.size
              clear hI ht he
              go_upto_region 23 with fail
              refine name_region ?_; intro W3 hW3
              have gW3 : Chg (fun _ => False) wr W3 := by subst hW3; exact (by repeat (first | with_reducible exact Chg.refl _ _ | with_reducible assumption | with_reducible refine Chg.drewN ?_ _ | with_reducible refine Chg.drew ?_ | with_reducible refine Chg.alloc ?_ _ | with_reducible refine Chg.setCell ?_ (by first | (left; rfl) | (left; left; rfl) | (left; right; rfl) | (left; right; left; rfl) | (left; right; right; rfl) | (right; exact Nat.le_refl _) | (right; simp; done) | (right; omega) | (right; simp at *; omega) | (simp at *; omega)) _ | with_reducible refine Chg.trans ?_ (by with_reducible assumption) (by intro i hi hT; first | exact hT | exact False.elim hT | omega | (simp at *; omega))))
              have f0 : W3.cell? ⟨wr.heap.size, 0, none⟩ = some (.int .i64 y) := by subst hW3; go_simp
              have f1 : W3.cell? ⟨wr.heap.size, 1, none⟩ = some (.int .i64 m) := by subst hW3; go_simp
              have f2 : W3.cell? ⟨wr.heap.size, 2, none⟩ = some (.string q) := by subst hW3; go_simp
              have f3 : W3.cell? ⟨wr.heap.size, 3, none⟩ = some (.int .u64 qn) := by subst hW3; go_simp
              clear hW3 k0 k1 k2 k3
              have HP3 := Lib.hid (HP.out.still gW3)
              have b1 : W3.cell? ⟨w.heap.size, 1, none⟩ = some (.int .i64 n) := (HP3.out.chg.cell (by omega) (by omega) _).trans ((GW2.out.cell lW1 (by omega) _).trans HB.out.1)
              have c0 : W3.cell? ⟨d, 0, none⟩ = some (.int .i64 room) := by
                obtain ⟨bb, lb, sb, mb, h2, hi⟩ := H2.out
                exact (HP3.out.chg.cell (by omega) (by omega) _).trans h2.c0
              have hpb := HP.out.bd
              have e1 : IntKind.i64.wrap (p.al + n) = p.al + n := IntWalk.i64_in _ (by omega)
              clear gW3 hpb
              go_quiet (fail)
              by_cases hB : p.al + n ≤ room
              · have qB := decP hB
                have HBB := Lib.hid hB
                have hB' : ¬ room < p.al + n := by omega
                clear f0 f1 f2 f3 b1 c0
                go_wp2
                go_meet
                have e := HQ.out
                rw [HDR.out, p2_stop HBB.out] at e
                subst e
                exact ⟨_, _, rfl, rfl, (HP3.out.still (by repeat (first | with_reducible exact Chg.refl _ _ | with_reducible assumption | with_reducible refine Chg.drewN ?_ _ | with_reducible refine Chg.drew ?_ | with_reducible refine Chg.alloc ?_ _ | with_reducible refine Chg.setCell ?_ (by first | (left; rfl) | (left; left; rfl) | (left; right; rfl) | (left; right; left; rfl) | (left; right; right; rfl) | (right; exact Nat.le_refl _) | (right; simp; done) | (right; omega) | (right; simp at *; omega) | (simp at *; omega)) _ | with_reducible refine Chg.trans ?_ (by with_reducible assumption) (by intro i hi hT; first | exact hT | exact False.elim hT | omega | (simp at *; omega))))).mono (by omega) (by omega)⟩
              · have qB := decN hB
                have HBB := Lib.hid hB
                have hB' : room < p.al + n := by omega
                go_upto_region 24 with fail
                refine name_region ?_; intro W4 hW4
                have g4 : Chg (fun _ => False) W3 W4 := by subst hW4; exact (by repeat (first | with_reducible exact Chg.refl _ _ | with_reducible assumption | with_reducible refine Chg.drewN ?_ _ | with_reducible refine Chg.drew ?_ | with_reducible refine Chg.alloc ?_ _ | with_reducible refine Chg.setCell ?_ (by first | (left; rfl) | (left; left; rfl) | (left; right; rfl) | (left; right; left; rfl) | (left; right; right; rfl) | (right; exact Nat.le_refl _) | (right; simp; done) | (right; omega) | (right; simp at *; omega) | (simp at *; omega)) _ | with_reducible refine Chg.trans ?_ (by with_reducible assumption) (by intro i hi hT; first | exact hT | exact False.elim hT | omega | (simp at *; omega))))
                clear hW4
                replace f0 := (g4.cell (cell_lt f0) id _).trans f0
                replace f1 := (g4.cell (cell_lt f1) id _).trans f1
                replace f2 := (g4.cell (cell_lt f2) id _).trans f2
                replace f3 := (g4.cell (cell_lt f3) id _).trans f3
                have HP4 := Lib.hid (HP3.out.still g4)
                have lk4 := HP4.out.map.get hyw
                have l4 := cell_lt f0
                clear c0 b1 e1 hB hB' qB g4
                cases hY : p.Y y with
                | false =>
                  have HY := Lib.hid hY
                  rw [hY] at lk4
                  have hpb := HP.out.bd
                  have hem := HE.out.1
                  simp only at hem
                  have e3 : IntKind.i64.wrap (p.al - m) = p.al - m := IntWalk.i64_in _ (by omega)
                  have HST : Hid ((p.G ++ [(y, m, q, qn)]).length = p.G.length + 1 ∧ flatT (p.G ++ [(y, m, q, qn)]) = flatT p.G ++ flatT [(y, m, q, qn)]) := ⟨by simp, flatT_append _ _⟩
                  clear hY hpb
                  go_wp2_with (at_builtin; go_loud (refine list_owned rfl _ _ 50 rfl W2.heap.size 40 ie _ 4 40 Try.underlying50 hie ez0 ez1 ez2 rfl (by decide) rfl rfl (own_chg HP4.out.row ((Chg.refl (fun _ => False) W4).alloc _) fun _ _ _ _ => id) (flatT_one _) (rd_four (x := y) (y := m) (s := q) (z := qn) (by go_simp) (by go_simp) (by go_simp) (by go_simp)) (by unfold maxLen; omega) (by omega) (by simp; omega) ?_; intro a5 c5 w5 ho5 hg5 hone5; have HO5 := Lib.hid ho5; have k5 := (((Chg.refl (fun i => W2.heap.size ≤ i ∧ i < wr.heap.size) W4).alloc _).trans (grown_chg (S := fun i => W2.heap.size ≤ i ∧ i < wr.heap.size) hg5 (fun q hq => own_below HP.out.row hq)) fun _ _ h => h); replace f0 := (k5.cell l4 (by omega) _).trans f0; replace f1 := (k5.cell l4 (by omega) _).trans f1; have K5 := Lib.hid k5; clear ho5 hg5 hone5 k5))
                  go_roundw
                  case rel =>
                    have hpb := HP.out.bd
                    refine ⟨k + 1, a5, c5, ⟨p.own, p.al - m, p.Y, p.G ++ [(y, m, q, qn)]⟩, by omega, rfl, by rw [HST.out.1], by go_num, ⟨?_, ?_, HP4.out.map.chg K5.out (by omega), ?_⟩, ?_⟩
                    · rw [HST.out.1, HST.out.2]
                      exact HO5.out
                    · exact HP4.out.chg.trans K5.out fun i hi h => by omega
                    · simp only [HST.out.1]; push_cast; push_cast at hpb; omega
                    · have e := HQ.out
                      rw [HDR.out, p2_take HBB.out HY.out] at e
                      exact e
                  case measure => simp [intOf]; omega
                | true =>
                  have HY := Lib.hid hY
                  rw [hY] at lk4
                  clear hY
                  go_wp2_with fail
                  go_roundw
                  case rel =>
                    have e := HQ.out
                    rw [HDR.out, p2_pass HBB.out HY.out] at e
                    exact ⟨k + 1, _, _, p, by omega, rfl, rfl, by go_num, HP4.out.mono (by omega) (by omega), e⟩
                  case measure => simp [intOf]; omega
            · obtain rfl : k = X.length := by omega
              go_wp2
              go_meet
              have e := HQ.out
              rw [List.drop_length] at e
              have e : p = z := e
              subst e
              exact ⟨_, _, rfl, rfl, HP.out⟩
        case rest =>
          obtain ⟨a4, c4, rfl, rfl, HP⟩ := hcut
          have b1 : wc.cell? ⟨w.heap.size, 1, none⟩ = some (.int .i64 n) := (HP.out.chg.cell (by omega) (by omega) _).trans ((GW2.out.cell lW1 (by omega) _).trans HB.out.1)
          have c0 : wc.cell? ⟨d, 0, none⟩ = some (.int .i64 room) := by
            obtain ⟨bb, lb, sb, mb, h2, hi⟩ := H2.out
            exact (HP.out.chg.cell (by omega) (by omega) _).trans h2.c0
          have c1 : wc.cell? ⟨d, 1, none⟩ = some (.int .i64 share) := by
            obtain ⟨bb, lb, sb, mb, h2, hi⟩ := H2.out
            exact (HP.out.chg.cell (by omega) (by omega) _).trans h2.c1
          have hzo : Hid (r.own = z.own) := by show _ = _; rw [← HZ.out, p2_own]
          have hpb := HP.out.bd
          rw [hzo.out]
          have e1 : IntKind.i64.wrap (z.own + n) = z.own + n := IntWalk.i64_in _ (by omega)
          have e2 : IntKind.i64.wrap (z.al + n) = z.al + n := IntWalk.i64_in _ (by omega)
          have HRZ : Hid (roomP room share X n s hs = z) := by show p2 _ _ _ _ = _; rw [← HZ.out, ← HR.out, HV.out.1, HV.out.2]
          have GE : Hid (∀ wz, Chg (fun _ => False) wc wz → Chg (fun _ => False) w wz) := fun wz g => ((GW.out.trans GW2.out fun i hi e => by omega).trans HP.out.chg fun i hi e => by omega).trans g fun _ _ h => h
          clear hpb
          by_cases hB : z.own + n ≤ share
          · have qB := decP hB
            by_cases hC : z.al + n ≤ room
            · have qC := decP hC
              have HBB : Hid (roomB room share n z = true) := by show (_ && _) = _; rw [qB, qC]; rfl
              go_upto_region 28 with fail
              go_quiet (fail)
              go_wp2
              go_ret2
              rw [HRZ.out, HBB.out]
              exact ⟨a4, c4, rfl, own_mono (own_chg HP.out.row (S := fun _ => False) (by repeat (first | with_reducible exact Chg.refl _ _ | with_reducible assumption | with_reducible refine Chg.drewN ?_ _ | with_reducible refine Chg.drew ?_ | with_reducible refine Chg.alloc ?_ _ | with_reducible refine Chg.setCell ?_ (by first | (left; rfl) | (left; left; rfl) | (left; right; rfl) | (left; right; left; rfl) | (left; right; right; rfl) | (right; exact Nat.le_refl _) | (right; simp; done) | (right; omega) | (right; simp at *; omega) | (simp at *; omega)) _ | with_reducible refine Chg.trans ?_ (by with_reducible assumption) (by intro i hi hT; first | exact hT | exact False.elim hT | omega | (simp at *; omega)))) fun _ _ _ _ => id) (by omega), GE.out _ (by repeat (first | with_reducible exact Chg.refl _ _ | with_reducible assumption | with_reducible refine Chg.drewN ?_ _ | with_reducible refine Chg.drew ?_ | with_reducible refine Chg.alloc ?_ _ | with_reducible refine Chg.setCell ?_ (by first | (left; rfl) | (left; left; rfl) | (left; right; rfl) | (left; right; left; rfl) | (left; right; right; rfl) | (right; exact Nat.le_refl _) | (right; simp; done) | (right; omega) | (right; simp at *; omega) | (simp at *; omega)) _ | with_reducible refine Chg.trans ?_ (by with_reducible assumption) (by intro i hi hT; first | exact hT | exact False.elim hT | omega | (simp at *; omega))))⟩
            · have qC := decN hC
              have HBB : Hid (roomB room share n z = false) := by show (_ && _) = _; rw [qB, qC]; rfl
              go_upto_region 28 with fail
              go_quiet (fail)
              go_wp2
              go_ret2
              rw [HRZ.out, HBB.out]
              exact ⟨a4, c4, rfl, own_mono (own_chg HP.out.row (S := fun _ => False) (by repeat (first | with_reducible exact Chg.refl _ _ | with_reducible assumption | with_reducible refine Chg.drewN ?_ _ | with_reducible refine Chg.drew ?_ | with_reducible refine Chg.alloc ?_ _ | with_reducible refine Chg.setCell ?_ (by first | (left; rfl) | (left; left; rfl) | (left; right; rfl) | (left; right; left; rfl) | (left; right; right; rfl) | (right; exact Nat.le_refl _) | (right; simp; done) | (right; omega) | (right; simp at *; omega) | (simp at *; omega)) _ | with_reducible refine Chg.trans ?_ (by with_reducible assumption) (by intro i hi hT; first | exact hT | exact False.elim hT | omega | (simp at *; omega)))) fun _ _ _ _ => id) (by omega), GE.out _ (by repeat (first | with_reducible exact Chg.refl _ _ | with_reducible assumption | with_reducible refine Chg.drewN ?_ _ | with_reducible refine Chg.drew ?_ | with_reducible refine Chg.alloc ?_ _ | with_reducible refine Chg.setCell ?_ (by first | (left; rfl) | (left; left; rfl) | (left; right; rfl) | (left; right; left; rfl) | (left; right; right; rfl) | (right; exact Nat.le_refl _) | (right; simp; done) | (right; omega) | (right; simp at *; omega) | (simp at *; omega)) _ | with_reducible refine Chg.trans ?_ (by with_reducible assumption) (by intro i hi hT; first | exact hT | exact False.elim hT | omega | (simp at *; omega))))⟩
          · have qB := decN hB
            have HBB : Hid (roomB room share n z = false) := by show (_ && _) = _; rw [qB]; rfl
            go_upto_region 28 with fail
            go_quiet (fail)
            go_wp2
            go_ret2
            rw [HRZ.out, HBB.out]
            exact ⟨a4, c4, rfl, own_mono (own_chg HP.out.row (S := fun _ => False) (by repeat (first | with_reducible exact Chg.refl _ _ | with_reducible assumption | with_reducible refine Chg.drewN ?_ _ | with_reducible refine Chg.drew ?_ | with_reducible refine Chg.alloc ?_ _ | with_reducible refine Chg.setCell ?_ (by first | (left; rfl) | (left; left; rfl) | (left; right; rfl) | (left; right; left; rfl) | (left; right; right; rfl) | (right; exact Nat.le_refl _) | (right; simp; done) | (right; omega) | (right; simp at *; omega) | (simp at *; omega)) _ | with_reducible refine Chg.trans ?_ (by with_reducible assumption) (by intro i hi hT; first | exact hT | exact False.elim hT | omega | (simp at *; omega)))) fun _ _ _ _ => id) (by omega), GE.out _ (by repeat (first | with_reducible exact Chg.refl _ _ | with_reducible assumption | with_reducible refine Chg.drewN ?_ _ | with_reducible refine Chg.drew ?_ | with_reducible refine Chg.alloc ?_ _ | with_reducible refine Chg.setCell ?_ (by first | (left; rfl) | (left; left; rfl) | (left; right; rfl) | (left; right; left; rfl) | (left; right; right; rfl) | (right; exact Nat.le_refl _) | (right; simp; done) | (right; omega) | (right; simp at *; omega) | (simp at *; omega)) _ | with_reducible refine Chg.trans ?_ (by with_reducible assumption) (by intro i hi hT; first | exact hT | exact False.elim hT | omega | (simp at *; omega))))⟩
end Go.Proofs.Ytdoepjokaekckaa
