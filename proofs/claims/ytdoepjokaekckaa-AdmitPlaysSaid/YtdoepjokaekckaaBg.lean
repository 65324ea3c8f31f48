/- The door's calls Drop and Things. -/
import Derived.Test.YtdoepjokaekckaaBf
import Derived.Test.YtdoepjokaekckaaLk
namespace Go.Proofs.Ytdoepjokaekckaa
set_option linter.unusedVariables false
open Go.RowKit

theorem getX_nil_del {T K : List Tg} {x : Int} (hn : (keysP (pts (T ++ K))).Nodup) : getX (delX T x ++ delX K x) x = none := by
  have h := keys_del (T := pts T) (K := pts K) (by rw [← pts_append]; exact hn) x
  rw [← pts_del, ← pts_del, ← pts_append] at h
  have := getX_has (delX T x ++ delX K x) x
  rw [hasK_not.2 h] at this
  cases h2 : getX (delX T x ++ delX K x) x with
  | none => rfl
  | some t => rw [h2] at this; cases this
theorem drop_sync {T K : List Tg} {x : Int} {t : Tg} (hn : (keysP (pts (T ++ K))).Nodup) (h : getX (T ++ K) x = some t) :
    sumX (T ++ K) - t.2.1 = sumX (delX T x ++ delX K x) ∧ (fun y => if y = ten t then ofX (T ++ K) (ten t) - t.2.1 else ofX (T ++ K) y) = ofX (delX T x ++ delX K x) ∧ (fun z => if z = x then none else getX (T ++ K) z) = getX (delX T x ++ delX K x) := by
  have p := drop_perm hn h
  have hx := (getX_at h).1
  refine ⟨by rw [sumX_perm p, sumX_cons]; omega, funext fun y => ?_, funext fun z => ?_⟩
  · by_cases e : y = ten t
    · subst e
      rw [if_pos rfl, ofX_perm p, ofX_cons, if_pos rfl]; omega
    · rw [if_neg e, ofX_perm p, ofX_cons, if_neg e]; omega
  · by_cases e : z = x
    · subst e
      rw [if_pos rfl, getX_nil_del hn]
    · rw [if_neg e, getX_perm p hn]
      unfold getX
      rw [List.find?_cons]
      have : isX z t = false := by simp only [isX, beq_eq_false_iff_ne]; rw [hx]; exact fun h => e h.symm
      rw [this]
section
variable (w : World) (lab : Nat → Nat) (d N : Nat) (room share : Int) (T K : List Tg) (ns : List Int) (x : Int)
set_option maxHeartbeats 1000000 in
theorem drop_none (h : Dr w lab d room share N T K ns) (hx : (Lit.int .i64 x).wf = true) (hg : getX (T ++ K) x = none) : Calls Try.prog 17 #[.pointer (some ⟨d, 0, none⟩), .int .i64 x] w fun e w' => e = .returned (.bool false) ∧ Chg (fun _ => False) w w' := by
  have HG := Lib.hid hg
  have H := Lib.hid h
  clear h hg
  go_enter Try.func17, Try.ntmps17
  go_wp2_with fail
  refine (has_dr w lab d N room share T K ns x H.out hx).mono ?_; rintro e w1 ⟨rfl, g1⟩
  rw [HG.out]
  have G1 := Lib.hid g1
  clear g1
  go_wp2
  go_ret
  exact ⟨rfl, G1.out⟩
set_option maxHeartbeats 2000000 in
theorem drop_some (t : Tg) (h : Dr w lab d room share N T K ns) (hx : (Lit.int .i64 x).wf = true) (hg : getX (T ++ K) x = some t) (hN : N ≤ 900) : Calls Try.prog 17 #[.pointer (some ⟨d, 0, none⟩), .int .i64 x] w fun e w' => e = .returned (.bool true) ∧ ∃ lab', Dr w' lab' d room share (N + 3) (delX T x) (delX K x) ns ∧ Lab w lab lab' w' := by
  obtain ⟨k, n, s, nm⟩ := t
  have HG := Lib.hid hg
  have H0 := Lib.hid h
  obtain ⟨bb, lb, sb, mb, h, hi⟩ := h
  have H := Lib.hid h
  have HI := Lib.hid hi
  have he := hi.each _ (getX_at hg).2.1
  simp only at he
  have hof : n ≤ ofX (T ++ K) s.data.toList := by
    have h2 : ofX (T ++ K) s.data.toList = n + ofX (delX T x ++ delX K x) s.data.toList := by rw [ofX_perm (drop_perm hi.nodup hg), ofX_cons, if_pos (show s.data.toList = ten (k, n, s, nm) from rfl)]
    have h1 := ofX_nonneg (X := delX T x ++ delX K x) (fun u hu => (hi.each u ((drop_perm hi.nodup hg).mem_iff.2 (List.mem_cons_of_mem _ hu))).1.1) s.data.toList
    omega
  have HB : Hid (0 ≤ sumX (T ++ K) ∧ sumX (T ++ K) ≤ 1125899906842624 ∧ n ≤ ofX (T ++ K) s.data.toList ∧ ofX (T ++ K) s.data.toList ≤ 1125899906842624 ∧ 0 ≤ n) := by
    have h1 := hi.all
    have h2 := hi.own s.data.toList
    have h3 := hi.bd
    have h4 := sumX_nonneg (X := T ++ K) fun u hu => (hi.each u hu).1.1
    exact ⟨h4, by omega, hof, by omega, by omega⟩
  clear h hi hg hof
  go_enter Try.func17, Try.ntmps17
  go_wp2_with fail
  refine (has_dr w lab d N room share T K ns x H0.out hx).mono ?_; rintro e w1 ⟨rfl, g1⟩
  rw [HG.out]
  have H1 := Lib.hid (H.out.still g1)
  have G1 := Lib.hid g1
  have c5 := H1.out.c5
  have c2 := H1.out.c2
  have HM := Lib.hid H1.out.mp
  have ldm : d < w1.heap.size := cell_lt c5
  clear g1
  go_upto_region 4 with (at_lookup; go_loud (refine list_tget rfl _ _ rfl mb N _ rfl HM.out x rfl hx ?_; rw [HG.out]; simp only [tv, Option.getD_some]))
  refine name_region ?_; intro W hW
  have gW : Chg (fun _ => False) w1 W := by subst hW; exact (by repeat (first | with_reducible exact Chg.refl _ _ | with_reducible assumption | with_reducible refine Chg.drewN ?_ _ | with_reducible refine Chg.drew ?_ | with_reducible refine Chg.alloc ?_ _ | with_reducible refine Chg.setCell ?_ (by first | (left; rfl) | (left; left; rfl) | (left; right; rfl) | (left; right; left; rfl) | (left; right; right; rfl) | (right; exact Nat.le_refl _) | (right; simp; done) | (right; omega) | (right; simp at *; omega) | (simp at *; omega)) _ | with_reducible refine Chg.trans ?_ (by with_reducible assumption) (by intro i hi hT; first | exact hT | exact False.elim hT | omega | (simp at *; omega))))
  have k2 : W.cell? ⟨d, 2, none⟩ = some (.pointer (some ⟨bb, 0, none⟩)) := by subst hW; go_simp
  have f1 : W.cell? ⟨w1.heap.size, 1, none⟩ = some (.int .i64 n) := by subst hW; go_simp
  have f2 : W.cell? ⟨w1.heap.size, 2, none⟩ = some (.string s) := by subst hW; go_simp
  have lW := cell_lt k2
  have lW1 := cell_lt f1
  clear hW c5 c2
  have HW := Lib.hid (H1.out.still gW)
  have GW := Lib.hid (G1.out.trans gW fun _ _ h => h)
  clear gW
  (have hN : W.heap.size ≤ (World.heap W).size := by first | assumption | exact Nat.le_refl _ | (simp; done) | omega | (simp; omega) | (simp at *; omega)); (have kr := fun d os b o (h : b < W.heap.size) => (below_regrown W d os).cell (p := ⟨b, o, none⟩) (Nat.lt_of_lt_of_le h hN)); (refine wp_region_below_tail 8 (by kernel_rfl) (by kernel_rfl) ?_); (simp only [List.take_succ_cons, List.take_zero, List.drop_succ_cons, List.drop_zero]); (repeat (first | go_big_quiet_step ((first | fail)) | quiet_step ((first | fail)))); (refine wpQuiet_nil ?_); (intro w6 hw9); (obtain ⟨⟨dq, osq⟩, hw9⟩ := hw9); (have g9 := below_regrown W dq osq); (rw [← hw9] at g9); (have g6 : Below (W.heap.size) _ w6 := g9.mono hN); (have z6 : W.heap.size ≤ w6.heap.size := Nat.le_trans hN g9.size); (have c6 := fun b o h => g6.cell (p := ⟨b, o, none⟩) h); (have f6 := fun b o h => g6.frozen (p := ⟨b, o, none⟩) h); (clear hw9 kr hN g9)
  have g6' : Chg (fun _ => False) W w6 := ⟨g6.os, g6.tape, g6.output, z6, fun k hk _ => g6.block k hk⟩
  have H6 := Lib.hid (HW.out.still g6')
  have G6 := Lib.hid (GW.out.trans g6' fun _ _ h => h)
  clear g6 g6' c6 f6 z6 k2 f1 f2
  go_wp2_with fail
  obtain ⟨v, hb, hv⟩ := H6.out.bk
  refine (less_any w6 bb N room share (sumX (T ++ K)) v (ofX (T ++ K)) s n hb he.2.1 HB.out (by omega)).mono ?_; rintro e w7 ⟨rfl, hP⟩
  obtain ⟨q1, q2⟩ := H6.out.book hv hP
  have H7 := Lib.hid q1
  have L7 := Lib.hid ((Lab.still (l := lab) G6.out).trans (Lab.re (i := 2) (by omega) q2))
  have c3 := H7.out.c3
  clear hP q1 q2 hb hv
  go_wp2_with fail
  refine (drop_ls w7 _ lb (room - room / 5) (N + 1) (pts T) (pts K) x H7.out.ls (by omega) hx).mono ?_; rintro e w8 ⟨rfl, hP⟩
  obtain ⟨E, hE⟩ : ∃ E, E = hasK (pts T ++ pts K) x := ⟨_, rfl⟩
  rw [← hE]
  obtain ⟨q1, q2⟩ := H7.out.list hP
  have H8 := Lib.hid q1
  have L8 := Lib.hid (L7.out.trans (Lab.re (i := 3) (by omega) q2))
  have c5 := H8.out.c5
  have HM8 := Lib.hid H8.out.mp
  clear hP hE c3 q1 q2
  go_wp2_with (at_delete; go_loud (refine list_tdel rfl _ _ rfl mb (N + 1 + 1) _ rfl HM8.out x rfl hx ?_; intro w9 hm9 hg9; have HM9 := Lib.hid (hm9.mono (N' := N + 1 + 1 + 1) (by omega)); have HG9 := Lib.hid hg9; clear hm9 hg9))
  go_ret
  have H9 := H8.out.map HM9.out HG9.out
  obtain ⟨s1, s2, s3⟩ := drop_sync HI.out.nodup HG.out
  have hd := HI.out.drop HG.out
  rw [dropX_pts] at H9
  simp only [dropX] at H9
  have H9' : DrR w9 _ d bb lb sb mb room share (N + 1 + 1 + 1) (sumX (T ++ K) - n) (putF (ofX (T ++ K)) s.data.toList (ofX (T ++ K) s.data.toList - n)) (pts (delX T x)) (pts (delX K x)) ns (fun z => if z = x then none else getX (T ++ K) z) := H9
  have s2' : putF (ofX (T ++ K)) s.data.toList (ofX (T ++ K) s.data.toList - n) = ofX (delX T x ++ delX K x) := s2
  have s1' : sumX (T ++ K) - n = sumX (delX T x ++ delX K x) := s1
  rw [s1', s2', s3] at H9'
  exact ⟨rfl, _, ⟨bb, lb, sb, mb, H9', hd⟩, L8.out.trans (Lab.same (i := 5) (by omega) (HG9.out.mono fun i _ hi => by rw [hi]; exact H8.out.lm))⟩
end
/-- Things, cell by cell. -/
def flatT (X : List Tg) : List Value := X.flatMap fun t => [.int .i64 t.1, .int .i64 t.2.1, .string t.2.2.1, .int .u64 t.2.2.2]
theorem flatT_cons (e : Tg) (r : List Tg) : flatT (e :: r) = .int .i64 e.1 :: .int .i64 e.2.1 :: .string e.2.2.1 :: .int .u64 e.2.2.2 :: flatT r := rfl
theorem flatT_append (a b : List Tg) : flatT (a ++ b) = flatT a ++ flatT b := by simp [flatT]
theorem flatT_one (fs : List Tg) : ∀ u ∈ flatT fs, u.oneCell' = true := by
  induction fs with
  | nil => intro u h; cases h
  | cons e r ih =>
    intro u h
    rw [flatT_cons] at h
    simp only [List.mem_cons] at h
    rcases h with rfl | rfl | rfl | rfl | h
    · rfl
    · rfl
    · rfl
    · rfl
    · exact ih u h
theorem flatT_at {fs : List Tg} {i : Nat} {e : Tg} (h : fs[i]? = some e) : (flatT fs)[i * 4]? = some (.int .i64 e.1) ∧ (flatT fs)[i * 4 + 1]? = some (.int .i64 e.2.1) ∧ (flatT fs)[i * 4 + 2]? = some (.string e.2.2.1) ∧ (flatT fs)[i * 4 + 3]? = some (.int .u64 e.2.2.2) := by
  induction fs generalizing i with
  | nil => simp at h
  | cons f r ih =>
    cases i with
    | zero => simp at h; subst h; simp [flatT_cons]
    | succ i =>
      have := ih (i := i) (by simpa using h)
      have e1 : (i + 1) * 4 = i * 4 + 4 := by omega
      rw [flatT_cons, e1]
      simpa using this
def IsT (w : World) (a : Option Addr) (c : Nat) (X : List Tg) : Prop := RdS w 4 a X.length c (flatT X)
theorem IsT.at {w : World} {a : Option Addr} {c j : Nat} {X : List Tg} {t : Tg} (h : IsT w a c X) (hj : X[j]? = some t) : ∃ g o, a = some ⟨g, o, none⟩ ∧ w.cell? ⟨g, o + j * 4, none⟩ = some (.int .i64 t.1) ∧ w.cell? ⟨g, o + j * 4 + 1, none⟩ = some (.int .i64 t.2.1) ∧ w.cell? ⟨g, o + j * 4 + 2, none⟩ = some (.string t.2.2.1) ∧ w.cell? ⟨g, o + j * 4 + 3, none⟩ = some (.int .u64 t.2.2.2) := by
  obtain ⟨f0, f1, f2, f3⟩ := flatT_at hj
  obtain ⟨g, o, ha, h0⟩ := h.cells _ _ f0
  have one : ∀ (j : Nat) u, (flatT X)[j]? = some u → w.cell? ⟨g, o + j, none⟩ = some u := fun j u hu => by
    obtain ⟨g', o', ha', hc'⟩ := h.cells _ _ hu
    rw [ha] at ha'
    injection ha' with ha'
    injection ha' with h1 h2
    subst h1 h2
    exact hc'
  exact ⟨g, o, ha, h0, one _ _ f1, one _ _ f2, one _ _ f3⟩
theorem IsT.keep {S : Nat → Prop} {w w' : World} {a : Option Addr} {c : Nat} {X : List Tg} (h : IsT w a c X) (k : Chg S w w') (hn : ∀ g, (Value.slice a X.length c).ownBlock = some g → ¬ S g) : IsT w' a c X := RdS.block h k hn
theorem rd_four {w : World} {q : Nat} {x y z : Int} {s : ByteArray} (h0 : w.cell? ⟨q, 0, none⟩ = some (.int .i64 x)) (h1 : w.cell? ⟨q, 1, none⟩ = some (.int .i64 y)) (h2 : w.cell? ⟨q, 2, none⟩ = some (.string s)) (h3 : w.cell? ⟨q, 3, none⟩ = some (.int .u64 z)) : RdS w 4 (some ⟨q, 0, none⟩) 1 1 (flatT [(x, y, s, z)]) := by
  refine ⟨rfl, ⟨Nat.le_refl _, by unfold maxLen; omega⟩, (fun e => nomatch e), flatT_one _, fun j u' hj => ?_, fun x hx => by injection hx with hx; exact ⟨_, _, hx.symm⟩⟩
  refine ⟨q, 0, rfl, ?_⟩
  match j, hj with
  | 0, hj => injection hj with hj; subst hj; exact h0
  | 1, hj => injection hj with hj; subst hj; exact h1
  | 2, hj => injection hj with hj; subst hj; exact h2
  | 3, hj => injection hj with hj; subst hj; exact h3
theorem infoTg : (Try.prog.info? 40).map (fun i => (i.zero, i.size, i.bytes)) = some (some (tv tz), 4, 40) := by kernel_rfl
/-- A new slice of these things. -/
def TgsPost (w : World) (X : List Tg) (e : Ending) (w' : World) : Prop := ∃ a c, e = .returned (.slice a X.length c) ∧ w'.ownsRow w.heap.size 40 4 (.slice a X.length c) X.length (flatT X) ∧ Chg (fun _ => False) w w'
set_option maxHeartbeats 2000000 in
theorem things_dr (w : World) (lab : Nat → Nat) (d N : Nat) (room share : Int) (T K : List Tg) (ns : List Int) (h : Dr w lab d room share N T K ns) (hN : N ≤ 990) : Calls Try.prog 21 #[.pointer (some ⟨d, 0, none⟩)] w (TgsPost w (T ++ K)) := by
  obtain ⟨ie, hie, ez0, ez1, ez2⟩ := info_parts infoTg
  obtain ⟨bb, lb, sb, mb, h, hi⟩ := h
  have c5 := h.c5
  have c3 := h.c3
  have H := Lib.hid h
  have HI := Lib.hid hi
  have hlen : (T ++ K).length ≤ 990 := by have := h.ls.len; rw [pts_len, pts_len] at this; rw [List.length_append]; omega
  obtain ⟨X, hX⟩ : ∃ X, X = T ++ K := ⟨_, rfl⟩
  rw [← hX] at hlen ⊢
  have HX := Lib.hid hX
  clear h hi hX
  go_enter Try.func21, Try.ntmps21
  go_wp2_with fail
  refine (shut_no w d mb c5).mono ?_; rintro e w' ⟨rfl, rfl⟩
  go_wp2_with fail
  refine (order_ls w _ lb (room - room / 5) N (pts T) (pts K) H.out.ls (by omega)).mono ?_; rintro e w1 ⟨a1, c1, rfl, ho, g1⟩
  obtain ⟨ks, hks⟩ : ∃ ks, ks = keysP (pts T ++ pts K) := ⟨_, rfl⟩
  rw [← hks] at ho ⊢
  have HI1 : Hid (IsK w1 a1 c1 ks) := RdS.row ho (nums_one _)
  have HKS : Hid (ks = X.map (·.1)) := by show _ = _; rw [hks, ← pts_append, ← HX.out, keysX]
  have hkl : ks.length = X.length := by rw [HKS.out]; simp
  have HKL := Lib.hid hkl
  have hkl2 : ks.length ≤ 990 := by omega
  have G1 := Lib.hid g1
  clear ho g1 hks hkl c5 c3
  go_wp2_with fail
  go_loopw [3, 14] (fun s i wr => ∃ (k : Nat) (a : Option Addr) (c : Nat), k ≤ ks.length ∧ i = .int .i64 (↑k : Int) ∧ s = .slice a k c ∧ Hid (wr.ownsRow w1.heap.size 40 4 (.slice a k c) k (flatT (X.take k))) ∧ Hid (Chg (fun _ => False) w1 wr)) (fun _ i _ => ks.length - (intOf i).toNat)
  case atStart => exact ⟨0, none, 0, by omega, rfl, rfl, World.ownsRow_nil _ _ _ _, Chg.refl _ _⟩
  case round =>
    obtain ⟨k, a, c, hk, rfl, rfl, HO, HG⟩ := hrel
    by_cases hkt : k < ks.length
    · obtain ⟨⟨x, n, s, nm⟩, ht⟩ : ∃ t, X[k]? = some t := ⟨_, List.getElem?_eq_getElem (by have := HKL.out; omega)⟩
      have hx : ks[k]? = some x := by rw [HKS.out, List.getElem?_map, ht]; rfl
      obtain ⟨g, o, rfl, k0⟩ := (HI1.out.keep HG.out fun _ _ => id).at hx
      have HR := Lib.hid ((H.out.still G1.out).still HG.out)
      have c5 := HR.out.c5
      have HM := Lib.hid HR.out.mp
      have he := HI.out.each (x, n, s, nm) (by rw [← HX.out]; exact List.mem_of_getElem? ht)
      have hxw : (Lit.int .i64 x).wf = true := WalkArith.wf_i64 he.2.2.1
      have HGX : Hid (getX (T ++ K) x = some (x, n, s, nm)) := (getX_mem (t := (x, n, s, nm)) HI.out.nodup).2 (by rw [← HX.out]; exact List.mem_of_getElem? ht)
      have HST : Hid (flatT (X.take (k + 1)) = flatT (X.take k) ++ flatT [(x, n, s, nm)]) := by
        show _ = _
        rw [List.take_add_one, ht, flatT_append]; rfl
      have lg : g < wr.heap.size := cell_lt k0
      have ld : d < wr.heap.size := cell_lt c5
      have gs := HG.out.size
      clear ht hx he
      go_wp2_with (first
        | (at_lookup; go_loud (refine list_tget rfl _ _ rfl mb N _ rfl HM.out x rfl hxw ?_; rw [HGX.out]; simp only [tv, Option.getD_some]))
        | (at_builtin; go_loud (refine list_owned rfl _ _ 50 rfl w1.heap.size 40 ie _ 4 40 Try.underlying50 hie ez0 ez1 ez2 rfl (by decide) rfl rfl (HO.out.alloc _) (flatT_one _) (rd_four (x := x) (y := n) (s := s) (z := nm) (by go_simp) (by go_simp) (by go_simp) (by go_simp)) (by unfold maxLen; omega) (by omega) (by simp; omega) ?_; intro a3 c3 w3 ho3 hg3 hone3; have HO3 : Hid (w3.ownsRow w1.heap.size 40 4 (.slice a3 (k + 1) c3) (k + 1) (flatT (X.take (k + 1)))) := (by show World.ownsRow _ _ _ _ _ _ _; rw [HST.out]; exact ho3); have HG3 : Hid (Chg (fun _ => False) w1 w3) := Chg.grown (HG.out.alloc _) hg3 (fun q hq => .inr (own_below HO.out hq).1); clear ho3 hg3 hone3)))
      go_roundw
      case rel => exact ⟨k + 1, a3, c3, by omega, by go_num, rfl, HO3, HG3⟩
      case measure => simp [intOf]; omega
    · obtain rfl : k = ks.length := by omega
      go_wp2
      go_ret
      have h2 := HO.out
      rw [HKL.out, List.take_length] at h2
      exact ⟨a, c, by rw [HKL.out]; rfl, own_mono h2 G1.out.size, G1.out.trans HG.out fun _ _ h => h⟩
end Go.Proofs.Ytdoepjokaekckaa
