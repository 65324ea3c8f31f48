/- The door's calls shut, Has, Bytes, Ask, Drop, Things. -/
import Derived.Test.YtdoepjokaekckaaBe
import Derived.Test.YtdoepjokaekckaaApp
namespace Go.Proofs.Ytdoepjokaekckaa
set_option linter.unusedVariables false
open Go.RowKit

/-- What a door's things always are. -/
structure DInv (room share : Int) (T K : List Tg) : Prop where
  nodup : (keysP (pts (T ++ K))).Nodup
  each : ∀ t ∈ T ++ K, (1 ≤ t.2.1 ∧ t.2.1 ≤ 1099511627776) ∧ t.2.2.1.size ≤ 200 ∧ (-9223372036854775808 ≤ t.1 ∧ t.1 ≤ 9223372036854775807) ∧ (0 ≤ t.2.2.2 ∧ t.2.2.2 ≤ 18446744073709551615)
  all : sumX (T ++ K) ≤ room
  own : ∀ s, ofX (T ++ K) s ≤ share
  bd : 0 ≤ share ∧ share ≤ room ∧ room ≤ 1125899906842624
def Dr (w : World) (lab : Nat → Nat) (d : Nat) (room share : Int) (N : Nat) (T K : List Tg) (ns : List Int) : Prop := ∃ bb lb sb mb, DrR w lab d bb lb sb mb room share N (sumX (T ++ K)) (ofX (T ++ K)) (pts T) (pts K) ns (getX (T ++ K)) ∧ DInv room share T K
/-- What a door's own call leaves of all labels and of all other memory. -/
def Lab (w : World) (lab lab' : Nat → Nat) (w' : World) : Prop := (∀ k, k < w.heap.size → lab' k = lab k) ∧ Chg (fun k => 1 ≤ lab k ∧ lab k ≤ 5) w w'
theorem Lab.refl (w : World) (lab : Nat → Nat) : Lab w lab lab w := ⟨fun _ _ => rfl, Chg.refl _ _⟩
theorem Lab.trans {w w1 w2 : World} {l l1 l2 : Nat → Nat} (h : Lab w l l1 w1) (k : Lab w1 l1 l2 w2) : Lab w l l2 w2 :=
  ⟨fun i hi => (k.1 i (Nat.lt_of_lt_of_le hi h.2.size)).trans (h.1 i hi), h.2.trans k.2 fun i hi hl => by rw [h.1 i hi] at hl; exact hl⟩
theorem Lab.still {w w1 : World} {l : Nat → Nat} (k : Chg (fun _ => False) w w1) : Lab w l l w1 := ⟨fun _ _ => rfl, k.mono fun _ _ h => h.elim⟩
theorem Lab.re {w w1 : World} {l : Nat → Nat} {i : Nat} (hi : 1 ≤ i ∧ i ≤ 5) (k : Chg (fun k => l k = i) w w1) : Lab w l (relab l w w1 i) w1 := ⟨fun j hj => relab_old hj, k.mono fun j _ hj => by rw [hj]; exact hi⟩
theorem Lab.same {w w1 : World} {l : Nat → Nat} {i : Nat} (hi : 1 ≤ i ∧ i ≤ 5) (k : Chg (fun k => l k = i) w w1) : Lab w l l w1 := ⟨fun j hj => rfl, k.mono fun j _ hj => by rw [hj]; exact hi⟩
theorem Dr.chg {w w' : World} {lab : Nat → Nat} {d N : Nat} {room share : Int} {T K : List Tg} {ns : List Int} {S : Nat → Prop} (h : Dr w lab d room share N T K ns) (k : Chg S w w') (hS : ∀ i, i < w.heap.size → S i → lab i = 0 ∨ 5 < lab i) : Dr w' lab d room share N T K ns := by
  obtain ⟨bb, lb, sb, mb, h1, h2⟩ := h
  exact ⟨bb, lb, sb, mb, h1.chg k hS, h2⟩
theorem Dr.still {w w' : World} {lab : Nat → Nat} {d N : Nat} {room share : Int} {T K : List Tg} {ns : List Int} (h : Dr w lab d room share N T K ns) (k : Chg (fun _ => False) w w') : Dr w' lab d room share N T K ns := h.chg k fun _ _ h => h.elim
theorem Dr.mono {w : World} {lab : Nat → Nat} {d N : Nat} {room share : Int} {T K : List Tg} {ns : List Int} (h : Dr w lab d room share N T K ns) {N' : Nat} (hN : N ≤ N') : Dr w lab d room share N' T K ns := by
  obtain ⟨bb, lb, sb, mb, h1, h2⟩ := h
  exact ⟨bb, lb, sb, mb, h1.mono hN, h2⟩
theorem sumX_nonneg {X : List Tg} (h : ∀ t ∈ X, 1 ≤ t.2.1) : 0 ≤ sumX X := sum_nonneg fun p hp => by obtain ⟨t, ht, rfl⟩ := List.mem_map.1 hp; exact h t ht
theorem ofX_nonneg {X : List Tg} (h : ∀ t ∈ X, 1 ≤ t.2.1) (s : List UInt8) : 0 ≤ ofX X s := sumX_nonneg fun t ht => h t (List.mem_filter.1 ht).1
section
variable {room share : Int} {T K T2 K2 : List Tg}
theorem DInv.perm (h : DInv room share T K) (p : (T ++ K).Perm (T2 ++ K2)) : DInv room share T2 K2 :=
  ⟨nodup_permX p h.nodup, fun t ht => h.each t (p.mem_iff.2 ht), by rw [← sumX_perm p]; exact h.all, fun s => by rw [← ofX_perm p s]; exact h.own s, h.bd⟩
theorem DInv.drop (h : DInv room share T K) {x : Int} {t : Tg} (ht : getX (T ++ K) x = some t) : DInv room share (delX T x) (delX K x) := by
  have p := drop_perm h.nodup ht
  have hn := nodup_permX p h.nodup
  have he : ∀ u ∈ delX T x ++ delX K x, u ∈ T ++ K := fun u hu => p.mem_iff.2 (List.mem_cons_of_mem _ hu)
  have h1 := (h.each t (p.mem_iff.2 (by simp))).1.1
  refine ⟨?_, fun u hu => h.each u (he u hu), ?_, fun s => ?_, h.bd⟩
  · rw [keysX, List.map_cons, List.nodup_cons] at hn
    rw [keysX]; exact hn.2
  · have := h.all
    rw [sumX_perm p, sumX_cons] at this
    omega
  · have := h.own s
    rw [ofX_perm p s, ofX_cons] at this
    split at this <;> omega
end

set_option maxHeartbeats 1000000 in
theorem shut_no (w : World) (d mb : Nat) (c5 : w.cell? ⟨d, 5, none⟩ = some (.map (some mb))) : Calls Try.prog 28 #[.pointer (some ⟨d, 0, none⟩)] w fun e w' => e = .returned (.bool false) ∧ w = w' := by
  have qT : ∀ (w : World) (r : Option Nat), (binOp .eql 68 (.map r) (.map none)).run Try.prog w = .ok (.bool r.isNone) w := fun w r => run_eql_map_nil w _ _ _ r Try.underlying68
  go_enter Try.func28, Try.ntmps28
  go_wp2
  go_ret
  exact ⟨rfl, rfl⟩
theorem shut_nil (w : World) : Calls Try.prog 28 #[.pointer none] w fun e w' => e = .returned (.bool true) ∧ w = w' := by
  go_enter Try.func28, Try.ntmps28
  go_wp2
  go_ret
  exact ⟨rfl, rfl⟩
theorem has_nil (w : World) (x : Int) : Calls Try.prog 20 #[.pointer none, .int .i64 x] w fun e w' => e = .returned (.bool false) ∧ w = w' := by
  go_enter Try.func20, Try.ntmps20
  go_wp2_with fail
  refine (shut_nil w).mono ?_; rintro e w' ⟨rfl, rfl⟩
  go_wp2
  go_ret
  exact ⟨rfl, rfl⟩
theorem drop_nil (w : World) (x : Int) : Calls Try.prog 17 #[.pointer none, .int .i64 x] w fun e w' => e = .returned (.bool false) ∧ w = w' := by
  go_enter Try.func17, Try.ntmps17
  go_wp2_with fail
  refine (has_nil w x).mono ?_; rintro e w' ⟨rfl, rfl⟩
  go_wp2
  go_ret
  exact ⟨rfl, rfl⟩
theorem bytes_nil (w : World) (s : ByteArray) : Calls Try.prog 22 #[.pointer none, .string s] w fun e w' => e = .returned (.tuple #[.int .i64 0, .int .i64 0]) ∧ w = w' := by
  go_enter Try.func22, Try.ntmps22
  go_wp2_with fail
  refine (shut_nil w).mono ?_; rintro e w' ⟨rfl, rfl⟩
  go_wp2
  go_ret2
  exact ⟨rfl, rfl⟩
theorem things_nil (w : World) : Calls Try.prog 21 #[.pointer none] w fun e w' => e = .returned (.slice none 0 0) ∧ w = w' := by
  go_enter Try.func21, Try.ntmps21
  go_wp2_with fail
  refine (shut_nil w).mono ?_; rintro e w' ⟨rfl, rfl⟩
  go_wp2
  go_ret
  exact ⟨rfl, rfl⟩
theorem ask_nil (w : World) (n x : Int) : Calls Try.prog 15 #[.pointer none, .int .u64 n, .int .i64 x] w fun e w' => e = .returned (.tuple #[]) ∧ w = w' := by
  go_enter Try.func15, Try.ntmps15
  go_wp2_with fail
  refine (shut_nil w).mono ?_; rintro e w' ⟨rfl, rfl⟩
  go_wp2
  refine bodyPost_ret (results_none rfl _ _ _) rfl ?_
  exact ⟨rfl, rfl⟩
theorem offer_nil (w : World) (t : Tg) (a : Option Addr) (n c : Nat) : Calls Try.prog 11 #[.pointer none, tv t, .slice a n c] w fun e w' => e = .returned (.tuple #[.bool false, .slice none 0 0]) ∧ Chg (fun _ => False) w w' := by
  obtain ⟨k, b, s, nm⟩ := t
  show Calls _ _ #[.pointer none, .agg #[.int .i64 k, .int .i64 b, .string s, .int .u64 nm], .slice a n c] _ _
  go_enter Try.func11, Try.ntmps11
  go_wp2_with fail
  refine (shut_nil _).mono ?_; rintro e w' ⟨rfl, rfl⟩
  go_wp2
  go_ret2
  exact ⟨rfl, (by repeat (first | with_reducible exact Chg.refl _ _ | with_reducible assumption | with_reducible refine Chg.drewN ?_ _ | with_reducible refine Chg.drew ?_ | with_reducible refine Chg.alloc ?_ _ | with_reducible refine Chg.setCell ?_ (by first | (left; rfl) | (left; left; rfl) | (left; right; rfl) | (left; right; left; rfl) | (left; right; right; rfl) | (right; exact Nat.le_refl _) | (right; simp; done) | (right; omega) | (right; simp at *; omega) | (simp at *; omega)) _ | with_reducible refine Chg.trans ?_ (by with_reducible assumption) (by intro i hi hT; first | exact hT | exact False.elim hT | omega | (simp at *; omega))))⟩

section
variable (w : World) (lab : Nat → Nat) (d N : Nat) (room share : Int) (T K : List Tg) (ns : List Int) (x nm : Int)
set_option maxHeartbeats 1000000 in
theorem has_dr (h : Dr w lab d room share N T K ns) (hx : (Lit.int .i64 x).wf = true) : Calls Try.prog 20 #[.pointer (some ⟨d, 0, none⟩), .int .i64 x] w fun e w' => e = .returned (.bool (getX (T ++ K) x).isSome) ∧ Chg (fun _ => False) w w' := by
  obtain ⟨bb, lb, sb, mb, h, hi⟩ := h
  have c5 := h.c5
  have HM := Lib.hid h.mp
  obtain ⟨r, hr⟩ : ∃ r, r = (getX (T ++ K) x).isSome := ⟨_, rfl⟩
  obtain ⟨⟨a1, a2, a3, a4⟩, ha⟩ : ∃ t, t = (getX (T ++ K) x).getD tz := ⟨_, rfl⟩
  rw [← hr]
  have HR := Lib.hid (And.intro hr ha)
  clear h hi hr ha
  go_enter Try.func20, Try.ntmps20
  go_wp2_with fail
  refine (shut_no w d mb c5).mono ?_; rintro e w' ⟨rfl, rfl⟩
  go_wp2_with (at_lookup; go_loud (refine list_tlook rfl _ _ rfl mb N _ rfl HM.out x rfl hx ?_; rw [← HR.out.1, ← HR.out.2]; simp only [tv]))
  go_ret
  exact ⟨rfl, (by repeat (first | with_reducible exact Chg.refl _ _ | with_reducible assumption | with_reducible refine Chg.drewN ?_ _ | with_reducible refine Chg.drew ?_ | with_reducible refine Chg.alloc ?_ _ | with_reducible refine Chg.setCell ?_ (by first | (left; rfl) | (left; left; rfl) | (left; right; rfl) | (left; right; left; rfl) | (left; right; right; rfl) | (right; exact Nat.le_refl _) | (right; simp; done) | (right; omega) | (right; simp at *; omega) | (simp at *; omega)) _ | with_reducible refine Chg.trans ?_ (by with_reducible assumption) (by intro i hi hT; first | exact hT | exact False.elim hT | omega | (simp at *; omega))))⟩
set_option maxHeartbeats 1000000 in
theorem bytes_dr (s : ByteArray) (h : Dr w lab d room share N T K ns) (hs : s.size ≤ maxLen) : Calls Try.prog 22 #[.pointer (some ⟨d, 0, none⟩), .string s] w fun e w' => e = .returned (.tuple #[.int .i64 (sumX (T ++ K)), .int .i64 (ofX (T ++ K) s.data.toList)]) ∧ Chg (fun _ => False) w w' := by
  obtain ⟨bb, lb, sb, mb, h, hi⟩ := h
  have c5 := h.c5
  have c2 := h.c2
  obtain ⟨v, hb, hv⟩ := h.bk
  obtain ⟨A, hA⟩ : ∃ r, r = sumX (T ++ K) := ⟨_, rfl⟩
  obtain ⟨B, hB⟩ : ∃ r, r = ofX (T ++ K) s.data.toList := ⟨_, rfl⟩
  rw [← hA, ← hB]
  have HA : Hid (∀ m, Calls Try.prog 47 #[.pointer (some ⟨bb, 0, none⟩)] (w.drewN m) fun e w' => e = .returned (.int .i64 A) ∧ w.drewN m = w') := fun m => by rw [hA]; exact all_any _ bb N room share _ v _ (hb.still (by repeat (first | with_reducible exact Chg.refl _ _ | with_reducible assumption | with_reducible refine Chg.drewN ?_ _ | with_reducible refine Chg.drew ?_ | with_reducible refine Chg.alloc ?_ _ | with_reducible refine Chg.setCell ?_ (by first | (left; rfl) | (left; left; rfl) | (left; right; rfl) | (left; right; left; rfl) | (left; right; right; rfl) | (right; exact Nat.le_refl _) | (right; simp; done) | (right; omega) | (right; simp at *; omega) | (simp at *; omega)) _ | with_reducible refine Chg.trans ?_ (by with_reducible assumption) (by intro i hi hT; first | exact hT | exact False.elim hT | omega | (simp at *; omega)))))
  have HB : Hid (∀ m, Calls Try.prog 48 #[.pointer (some ⟨bb, 0, none⟩), .string s] (w.drewN m) fun e w' => e = .returned (.int .i64 B) ∧ w.drewN m = w') := fun m => by rw [hB]; exact of_any _ bb N room share _ v _ s (hb.still (by repeat (first | with_reducible exact Chg.refl _ _ | with_reducible assumption | with_reducible refine Chg.drewN ?_ _ | with_reducible refine Chg.drew ?_ | with_reducible refine Chg.alloc ?_ _ | with_reducible refine Chg.setCell ?_ (by first | (left; rfl) | (left; left; rfl) | (left; right; rfl) | (left; right; left; rfl) | (left; right; right; rfl) | (right; exact Nat.le_refl _) | (right; simp; done) | (right; omega) | (right; simp at *; omega) | (simp at *; omega)) _ | with_reducible refine Chg.trans ?_ (by with_reducible assumption) (by intro i hi hT; first | exact hT | exact False.elim hT | omega | (simp at *; omega))))) hs
  clear h hi hb hv hA hB
  go_enter Try.func22, Try.ntmps22
  go_wp2_with fail
  refine (shut_no w d mb c5).mono ?_; rintro e w' ⟨rfl, rfl⟩
  go_wp2_with fail
  go_quiet ((first | (go_at_call 47; first | with_reducible exact quiet_add (HA.out _) | with_reducible exact quiet_same (HA.out _)) | (go_at_call 48; first | with_reducible exact quiet_add (HB.out _) | with_reducible exact quiet_same (HB.out _))))
  go_wp2
  go_ret2
  exact ⟨rfl, (by repeat (first | with_reducible exact Chg.refl _ _ | with_reducible assumption | with_reducible refine Chg.drewN ?_ _ | with_reducible refine Chg.drew ?_ | with_reducible refine Chg.alloc ?_ _ | with_reducible refine Chg.setCell ?_ (by first | (left; rfl) | (left; left; rfl) | (left; right; rfl) | (left; right; left; rfl) | (left; right; right; rfl) | (right; exact Nat.le_refl _) | (right; simp; done) | (right; omega) | (right; simp at *; omega) | (simp at *; omega)) _ | with_reducible refine Chg.trans ?_ (by with_reducible assumption) (by intro i hi hT; first | exact hT | exact False.elim hT | omega | (simp at *; omega))))⟩
set_option maxHeartbeats 1000000 in
theorem ask_dr (h : Dr w lab d room share N T K ns) (hx : (Lit.int .i64 x).wf = true) (hk : 0 ≤ nm ∧ nm ≤ 18446744073709551615) (hl : ns.length ≤ 10000) (hN : N ≤ 990) : Calls Try.prog 15 #[.pointer (some ⟨d, 0, none⟩), .int .u64 nm, .int .i64 x] w fun e w' => e = .returned (.tuple #[]) ∧ ∃ lab', Dr w' lab' d room share (N + 1) (touchX (room - room / 5) T K x).1 (touchX (room - room / 5) T K x).2 (ns ++ [nm]) ∧ Lab w lab lab' w' := by
  obtain ⟨bb, lb, sb, mb, h, hi⟩ := h
  have c5 := h.c5
  have c4 := h.c4
  have H := Lib.hid h
  have HI := Lib.hid hi
  have h0 : 0 ≤ room - room / 5 := by have := hi.bd; omega
  clear h hi
  go_enter Try.func15, Try.ntmps15
  go_wp2_with fail
  refine (shut_no w d mb c5).mono ?_; rintro e w' ⟨rfl, rfl⟩
  go_wp2_with fail
  refine (add_so w _ sb ns nm H.out.sk hk hl).mono ?_; rintro e w1 ⟨rfl, hS, g1⟩
  have H1 := Lib.hid (H.out.count hS g1)
  have c3 := H1.out.c3
  have G1 := Lib.hid g1
  clear hS g1 c4 c5
  go_wp2_with fail
  refine (touch_ls w1 _ lb (room - room / 5) N (pts T) (pts K) x H1.out.ls h0 (by omega) hx).mono ?_; rintro e w2 ⟨rfl, hP⟩
  obtain ⟨E, hE⟩ : ∃ E, E = hasK (pts T ++ pts K) x := ⟨_, rfl⟩
  rw [← hE]
  have HP := Lib.hid hP
  clear hP hE
  go_wp2
  go_end0
  have hp := HP.out
  rw [touchX_pts] at hp
  obtain ⟨q1, q2⟩ := H1.out.list hp
  have hpm := touch_perm (most := room - room / 5) (x := x) HI.out.nodup
  refine ⟨rfl, _, ⟨bb, lb, sb, mb, ?_, HI.out.perm hpm⟩, (Lab.same (i := 4) (by omega) G1.out).trans (Lab.re (i := 3) (by omega) q2)⟩
  have e1 := sumX_perm hpm
  have e2 : ofX (T ++ K) = ofX ((touchX (room - room / 5) T K x).1 ++ (touchX (room - room / 5) T K x).2) := funext fun s => ofX_perm hpm s
  have e3 : getX (T ++ K) = getX ((touchX (room - room / 5) T K x).1 ++ (touchX (room - room / 5) T K x).2) := funext fun y => getX_perm hpm HI.out.nodup y
  rw [← e1, ← e2, ← e3]
  exact q1
end
end Go.Proofs.Ytdoepjokaekckaa
