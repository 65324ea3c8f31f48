/- The reference's sketch: cell, Age, Add, Count. -/
import Derived.Test.YtmkgmofkfgfdhaaSp
namespace Go.Proofs.Ytmkgmofkfgfdhaa
set_option linter.unusedVariables false
open Go.RowKit

set_option maxHeartbeats 400000 in
theorem rcell_any (w : World) (p n W : Nat) (after adds : Int) (kv nv : Value) (cs ns : List Int) (B : Nat) (c : Int) (h : Rf w p n W after adds kv nv cs ns B) (hl : cs.length ≤ 100000) :
    Calls Try.prog 24 #[.pointer (some ⟨p, 0, none⟩), .int .i64 c] w fun e w' => e = .returned (.int .i64 (ixI cs c)) ∧ w = w' := by
  have c4 := h.c4
  obtain ⟨ka, kcap, rfl, _, _, kat⟩ := own_form h.ko
  have KAT := Lib.hid kat
  have H := Lib.hid h
  clear kat h
  go_enter Try.func24, Try.ntmps24
  go_wp2
  go_loop [12] (fun i => ∃ j : Nat, j ≤ cs.length ∧ i = .int .i64 (↑j : Int) ∧ Hid (c ∉ cs.take j)) (fun i => cs.length - (intOf i).toNat)
  case atStart => exact ⟨0, by omega, rfl, by show c ∉ cs.take 0; simp⟩
  case round =>
    obtain ⟨j, hj, rfl, hn⟩ := hrel
    by_cases hjt : j < cs.length
    · obtain ⟨x, hx⟩ := some_at hjt
      obtain ⟨gk, hka, _, _, ck, _⟩ := KAT.out j _ (map_at hx)
      subst hka
      by_cases he : x = c
      · subst he
        have hi := idx_first hn.out hx
        have HI := Lib.hid hi
        have HM := Lib.hid (mem_at hx)
        clear hi hx
        go_wp2
        go_ret
        refine ⟨ret_int ?_, rfl⟩
        rw [ixI, if_pos HM.out, HI.out]
      · have hxe : (x == c) = false := by simpa using he
        have HT := Lib.hid (take_at hx)
        have HE := Lib.hid he
        clear hx he
        go_wp2
        go_round
        case rel => exact ⟨j + 1, by omega, by go_num, by show c ∉ cs.take (j + 1); rw [HT.out]; simp; exact ⟨hn.out, fun e => HE.out e.symm⟩⟩
        case measure => simp [intOf]; omega
    · obtain rfl : j = cs.length := by omega
      go_wp2
      go_ret
      refine ⟨ret_int ?_, rfl⟩
      have := hn.out
      rw [List.take_length] at this
      rw [ixI, if_neg this]

/-- What the reference may write. -/
def RfS (p U : Nat) (c : Nat) : Prop := c = p ∨ c < U ∧ p < c

set_option maxHeartbeats 1000000 in
theorem rage_any (w : World) (p n W : Nat) (after adds : Int) (kv nv : Value) (cs ns : List Int) (B : Nat) (h : Rf w p n W after adds kv nv cs ns B) (hl : ns.length ≤ 100000) (hb : ∀ t ∈ ns, 0 ≤ t ∧ t ≤ 4611686018427387904) :
    Calls Try.prog 16 #[.pointer (some ⟨p, 0, none⟩)] w fun e w' => e = .returned (.tuple #[]) ∧ Rf w' p n W after 0 kv nv cs (ns.map fun t => t / 2) B ∧ Chg (fun c => c = p ∨ nv.ownBlock = some c) w w' := by
  have c5 := h.c5
  obtain ⟨na, ncap, rfl, _, _, _⟩ := own_form h.no
  have H := Lib.hid h
  have HB := Lib.hid hb
  clear h hb
  go_enter Try.func16, Try.ntmps16
  go_wp2
  go_loopw [8] (fun i wr => ∃ j : Nat, j ≤ ns.length ∧ i = .int .i64 (↑j : Int) ∧ Hid (Rf wr p n W after adds kv (.slice na ns.length ncap) cs (upto (fun t => t / 2) ns j) B) ∧ Hid (Chg (fun c => c = p ∨ (Value.slice na ns.length ncap).ownBlock = some c) w wr)) (fun i _ => ns.length - (intOf i).toNat)
  case atStart => exact ⟨0, by omega, rfl, by rw [upto_zero]; exact H.out, Chg.refl _ _⟩
  case round =>
    obtain ⟨j, hj, rfl, HR, HG⟩ := hrel
    by_cases hjt : j < ns.length
    · obtain ⟨t, ht⟩ := some_at hjt
      obtain ⟨_, _, e1, _, _, tat⟩ := own_form HR.out.no
      obtain ⟨gt, hta, gb, _, ct, cf⟩ := tat j _ (map_at (upto_at _ ht))
      injection e1 with e1
      rw [← e1] at hta
      subst hta
      have d5 := HR.out.c5
      have hbt := HB.out t (mem_at ht)
      have HQ := Lib.hid (upto_set (fun t => t / 2) ht)
      clear ht tat e1
      go_wp2_with fail
      go_region
      all_goals
        go_wp2
        go_roundw
        case rel => exact ⟨j + 1, by omega, by go_num, by rw [← HQ.out]; exact (HR.out.hit (by rw [upto_len]; exact hjt) _).chg ((Chg.refl (fun _ => False) _).drew) id (fun _ _ => id), (HG.out.setCell (p := ⟨gt, j, none⟩) (.inl (.inr rfl)) _).drew⟩
        case measure => simp [intOf]; omega
    · obtain rfl : j = ns.length := by omega
      have d3 := HR.out.c3
      have fz := HR.out.fz
      go_wp2
      go_end0
      have hr := HR.out
      rw [upto_all] at hr
      exact ⟨rfl, hr.setAdds 0, HG.out.setCell (.inl (.inl rfl)) _⟩

/-- The reference's sketch with the counters T. -/
def RfT (w : World) (p n W : Nat) (after adds : Int) (T : Nat → Nat → Int) (B : Nat) (O : Nat → Prop) (m : Nat) (M : Int) : Prop :=
  ∃ kv nv cs ns, Rf w p n W after adds kv nv cs ns B ∧ ns.length = cs.length ∧ cs.length ≤ m ∧ (∀ i, i < n → ∀ j, j < W → lk cs ns (i * 65536 + j) = T i j) ∧ Bd ns M ∧ ∀ c, kv.ownBlock = some c ∨ nv.ownBlock = some c → O c
theorem RfT.chg {S : Nat → Prop} {w w' : World} {p n W : Nat} {after adds : Int} {T : Nat → Nat → Int} {B : Nat} {O : Nat → Prop} {m : Nat} {M : Int} (h : RfT w p n W after adds T B O m M) (c : Chg S w w') (hp : ¬ S p) (hB : ∀ k, B ≤ k → ¬ S k) : RfT w' p n W after adds T B O m M := by
  obtain ⟨kv, nv, cs, ns, h1, h2⟩ := h
  exact ⟨kv, nv, cs, ns, h1.chg c hp hB, h2⟩

theorem one_at2 {w : World} {b : Nat} (hb : w.heap.size = b) (x : Value) (t : TypeId) (j : Nat) (u : Value) (h : [x][j]? = some u) : (w.alloc (.cells #[x] t)).cell? ((⟨b, 0, none⟩ : Addr).add j) = some u := by
  subst hb; exact one_at w x t j u h
theorem lk_bump {cs ns cs' ns' : List Int} {T : Nat → Nat → Int} {n W : Nat} (key : Int) {r : Nat} (hr : r < n) (hW : 0 < W ∧ W ≤ 65536) (h : ∀ i, i < n → ∀ j, j < W → lk cs ns (i * 65536 + j) = bump T W key r i j)
    (e : ∀ c', lk cs' ns' c' = if c' = (r : Int) * 65536 + mixF key r W then lk cs ns ((r : Int) * 65536 + mixF key r W) + 1 else lk cs ns c') : ∀ i, i < n → ∀ j, j < W → lk cs' ns' (i * 65536 + j) = bump T W key (r + 1) i j := by
  intro i hi j hj
  have hm := mixF_lt key r W hW.1
  rw [e]
  by_cases e1 : (i : Int) * 65536 + j = (r : Int) * 65536 + mixF key r W
  · have ei : i = r := by omega
    subst ei
    have ej : j = mixF key i W := by omega
    subst ej
    rw [if_pos rfl, h i hi _ hj]
    simp [bump]
  · rw [if_neg e1, h i hi j hj]
    unfold bump
    by_cases e2 : i < r ∧ j = mixF key i W
    · rw [if_pos e2, if_pos ⟨by omega, e2.2⟩]
    · rw [if_neg e2, if_neg]
      rintro ⟨h1, h2⟩
      by_cases e3 : i = r
      · subst e3; subst h2; exact e1 rfl
      · exact e2 ⟨by omega, h2⟩
theorem bd_snoc1 {ts : List Int} {M : Int} (h : Bd ts M) (hm : 0 ≤ M) : Bd (ts ++ [1]) (M + 1) := fun x hx => by
  rcases List.mem_append.1 hx with h1 | h1
  · have := h x h1; omega
  · simp at h1; omega

set_option maxHeartbeats 2000000 in
theorem radd_any (w : World) (p n W : Nat) (after adds : Int) (T : Nat → Nat → Int) (B U m : Nat) (M : Int) (key : Int) (h : RfT w p n W after adds T B (fun c => c < U) m M) (hn : 1 ≤ n ∧ n ≤ 8) (hW : 1 ≤ W ∧ W ≤ 65536) (hk : 0 ≤ key ∧ key ≤ 18446744073709551615) (hm : m ≤ 50000) (hM : 0 ≤ M ∧ M ≤ 1000000000) (ha : 0 ≤ adds ∧ adds ≤ 4611686018427387904) :
    Calls Try.prog 14 #[.pointer (some ⟨p, 0, none⟩), .int .u64 key] w fun e w' => e = .returned (.tuple #[]) ∧ (if adds + 1 = after then RfT w' p n W after 0 (halve (bump T W key n)) B (fun c => c < w'.heap.size) (m + n) (M + n) else RfT w' p n W after (adds + 1) (bump T W key n) B (fun c => c < w'.heap.size) (m + n) (M + n)) ∧ Chg (RfS p U) w w' := by
  obtain ⟨it, hit, tz0, tz1, tz2⟩ := info_parts infoNum
  have H := Lib.hid h
  clear h
  go_enter Try.func14, Try.ntmps14
  go_wp2
  go_loopw [4] (fun i wr => ∃ r : Nat, r ≤ n ∧ i = .int .i64 (↑r : Int) ∧ Hid (RfT wr p n W after adds (bump T W key r) B (fun c => c < U ∨ w.heap.size ≤ c) (m + r) (M + r)) ∧ Hid (Chg (RfS p U) w wr)) (fun i _ => n - (intOf i).toNat)
  case atStart => exact ⟨0, by omega, rfl, by
    show RfT w p n W after adds (bump T W key 0) B (fun c => c < U ∨ w.heap.size ≤ c) (m + 0) (M + 0)
    have e : bump T W key 0 = T := by funext i j; simp [bump]
    rw [e, Int.add_zero]; obtain ⟨kv, nv, cs, ns, q1, q2, q3, q4, q5, q6⟩ := H.out; exact ⟨kv, nv, cs, ns, q1, q2, q3, q4, q5, fun c hc => .inl (q6 c hc)⟩, Chg.refl _ _⟩
  case round =>
    obtain ⟨r, hr, rfl, HR, HG⟩ := hrel
    obtain ⟨kv, nv, cs, ns, hR, hl, hcm, hT, hB, hO⟩ := HR.out
    have HO := Lib.hid hO
    have c0 := hR.c0
    have HF := Lib.hid hR
    have HL := Lib.hid hl
    have HT := Lib.hid hT
    have HB := Lib.hid hB
    have hpb := hR.pb
    have hll : ns.length ≤ cs.length := by omega
    clear hR hl hT hB hO
    by_cases hlt : r < n
    · have c1 := HF.out.c1
      have c5 := HF.out.c5
      have c4 := HF.out.c4
      have fz := HF.out.fz
      obtain ⟨c, hc⟩ : ∃ c : Int, c = (r : Int) * 65536 + mixF key r W := ⟨_, rfl⟩
      have HC := Lib.hid hc
      clear hc
      go_wp2_with fail
      refine (rmix_any key r W _ (by omega) hW).mono ?_; rintro e w1 ⟨rfl, rfl⟩
      have hmx := mixF_lt key r W (by omega)
      go_wp2_with fail
      refine (rcell_any _ _ _ _ _ _ _ _ cs _ _ _ HF.out (by omega)).mono ?_; rintro e w1 ⟨rfl, rfl⟩
      rw [← HC.out]
      by_cases hin : c ∈ cs
      · have hx : ixI cs c = (cs.idxOf c : Int) := by rw [ixI, if_pos hin]
        have hi := idx_mem hin
        obtain ⟨q, hq⟩ : ∃ q, q = cs.idxOf c := ⟨_, rfl⟩
        rw [← hq] at hi hx
        rw [hx]
        have hqn : q < ns.length := by rw [HL.out]; exact hi.1
        obtain ⟨t, ht⟩ := some_at hqn
        obtain ⟨na, ncap, rfl, _, _, tat⟩ := own_form HF.out.no
        obtain ⟨gt, hta, gb, gl, ct, cf⟩ := tat q _ (map_at ht)
        subst hta
        have hbt := HB.out t (mem_at ht)
        have hlk : lk cs ns c = t := lk_at (by rw [← hq]; exact ht)
        have HK := Lib.hid hlk
        have HIN := Lib.hid hin
        have HQ := Lib.hid hq
        have HTT := Lib.hid ht
        clear hlk hin hq ht tat hi hx
        go_wp2_with fail
        go_roundw
        case rel =>
          refine ⟨r + 1, by omega, by go_num, ⟨kv, _, cs, ns.set q (t + 1), HF.out.hit hqn _, by rw [List.length_set]; exact HL.out, by omega, ?_, ?_, HO.out⟩, HG.out.setCell (p := ⟨gt, q, none⟩) (by rcases HO.out gt (.inr rfl) with h | h; exact .inl (.inr ⟨h, by show p < gt; omega⟩); exact .inr h) _⟩
          · refine lk_bump key hlt (by omega) HT.out fun c' => ?_
            rw [← HC.out, HQ.out, lk_hit HL.out HIN.out, HK.out]
          · have hb := bd_set HB.out (by omega) HTT.out
            have e1 : M + ((r + 1 : Nat) : Int) = M + r + 1 := by omega
            rw [e1]; exact hb
        case measure => simp [intOf]; omega
      · have hx : ixI cs c = -1 := by rw [ixI, if_neg hin]
        rw [hx]
        have HIN := Lib.hid hin
        clear hin hx
        obtain ⟨ka, kcap, rfl, _, _, _⟩ := own_form HF.out.ko
        obtain ⟨na, ncap, rfl, _, _, _⟩ := own_form HF.out.no
        have hck : cs.length ≤ 60000 := by omega
        have nep : some p ≠ (Value.slice ka cs.length kcap).ownBlock := own_ne HF.out.ko hpb.1
        have neq : some p ≠ (Value.slice na ns.length ncap).ownBlock := own_ne HF.out.no hpb.1
        have NEP := Lib.hid nep
        have NEQ := Lib.hid neq
        clear nep neq
        go_wp2_with (first
          | (at_builtin; refine wpList_append_lies _ rfl _ _ 33 rfl B 3 it _ 1 8 Try.underlying33 hit tz0 tz1 tz2 rfl (by decide) _ cs.length _ rfl (HF.out.ko.alloc _) ⟨wr.heap.size, 0, none⟩ 1 1 [.int .i64 c] rfl rfl (one_at _ _ _) (ints_oneCell .i64 [c]) (by decide) (by unfold maxLen; omega) (by omega) (by simp; omega) (wr.heap.size + 1) (by simp) ?_; intro g1 cap1 w2 ho1 hg1 at1 lt1; have f2 := HF.out.grown hg1 NEP.out; have k4 : w2.cell? ⟨p, 4, none⟩ = some (Value.slice ka cs.length kcap) := (by rw [f2.1]; exact c4); have k5 : w2.cell? ⟨p, 5, none⟩ = some (Value.slice na ns.length ncap) := (by rw [f2.1]; exact c5); have kf := f2.2.1; have R2 := Lib.hid (HF.out.push4 hg1 ho1 at1); have z2 := f2.2.2; clear f2)
          | (at_builtin; refine wpList_append_lies _ rfl _ _ 33 rfl B 3 it _ 1 8 Try.underlying33 hit tz0 tz1 tz2 rfl (by decide) _ ns.length _ rfl (R2.out.no.alloc _) ⟨w2.heap.size, 0, none⟩ 1 1 [.int .i64 1] rfl rfl (one_at2 (by simp [World.setCell]) _ _) (ints_oneCell .i64 [1]) (by decide) (by unfold maxLen; omega) (by omega) (by simp [World.setCell]; omega) (w2.heap.size + 1) (by simp [World.setCell]) ?_; intro g2 cap2 w3 ho2 hg2 at2 lt2; have f3 := R2.out.grown hg2 NEQ.out; have k53 : w3.cell? ⟨p, 5, none⟩ = some (Value.slice na ns.length ncap) := (by rw [f3.1]; exact R2.out.c5); have kf3 := f3.2.1; clear f3))
        go_roundw
        case rel =>
          have e1 : M + ((r + 1 : Nat) : Int) = M + r + 1 := by omega
          refine ⟨r + 1, by omega, by go_num, ⟨_, _, cs ++ [c], ns ++ [1], R2.out.push5 hg2 ho2 (by rcases at2 with h | h; exact .inl h; exact .inr (by rw [h]; simp [World.setCell])), by simp [HL.out], by simp; omega, ?_, ?_, ?_⟩, ?_⟩
          · refine lk_bump key hlt (by omega) HT.out fun c' => ?_
            rw [← HC.out, lk_new HL.out HIN.out, lk_out HL.out HIN.out]; rfl
          · rw [e1]; exact bd_snoc1 HB.out (by omega)
          · have sz := HG.out.size
            intro c hc
            rcases hc with hc | hc
            · have e2 : c = g1 := by simpa [Value.ownBlock] using hc.symm
              rcases at1 with h | h
              · rw [e2]; exact HO.out g1 (.inl h)
              · right; omega
            · have e2 : c = g2 := by simpa [Value.ownBlock] using hc.symm
              rcases at2 with h | h
              · rw [e2]; exact HO.out g2 (.inr h)
              · right; omega
          · have ow : ∀ c, B ≤ c → (c < U ∨ w.heap.size ≤ c) → RfS p U c ∨ w.heap.size ≤ c := fun c hb hc => by
              rcases hc with h | h
              · exact .inl (.inr ⟨h, by omega⟩)
              · exact .inr h
            refine Chg.setCell ?_ (.inl (.inl rfl)) _
            refine Chg.grown ?_ hg2 (fun k hk => ow k (own_below R2.out.no hk).1 (HO.out k (.inr hk)))
            refine Chg.alloc ?_ _
            refine Chg.setCell ?_ (.inl (.inl rfl)) _
            refine Chg.grown ?_ hg1 (fun k hk => ow k (own_below HF.out.ko hk).1 (HO.out k (.inl hk)))
            exact HG.out.alloc _
        case measure => simp [intOf]; omega
    · obtain rfl : r = n := by omega
      have c2 := HF.out.c2
      have c3 := HF.out.c3
      have fz := HF.out.fz
      have R3 := Lib.hid (HF.out.setAdds (adds + 1))
      have hll2 : ns.length ≤ 100000 := by omega
      by_cases he : adds + 1 = after
      · subst he
        go_wp2_with fail
        go_quiet (fail)
        go_wp2_with fail
        refine (rage_any _ _ _ _ _ _ _ _ cs ns B (R3.out.chg (Chg.drewN (Chg.refl (fun _ => False) _) _) id (fun _ _ => id)) hll2 (fun t ht => by have := HB.out t ht; omega)).mono ?_; rintro e w2 ⟨rfl, hr, hc⟩
        have HR2 := Lib.hid hr
        clear hr
        go_wp2
        go_end0
        refine ⟨rfl, ?_, ((HG.out.setCell (.inl (.inl rfl)) _).drewN _).trans hc (fun c hlt h => by
          rcases h with h | h
          · exact .inl h
          · have hb := own_below HF.out.no h
            rcases HO.out c (.inr h) with h1 | h1
            · exact .inr ⟨h1, by omega⟩
            · omega)⟩
        exact ⟨_, _, _, _, HR2.out, by simpa using HL.out, by omega, fun i hi j hj => by rw [lk_half, HT.out i hi j hj]; rfl, bd_half HB.out, fun c hc => by rcases hc with hc | hc; exact (own_below HR2.out.ko hc).2; exact (own_below HR2.out.no hc).2⟩
      · have hd : (adds + 1 == after) = false := by simpa using he
        go_wp2_with fail
        go_quiet (fail)
        go_wp2_with fail
        go_end0
        refine ⟨rfl, ?_, (HG.out.setCell (.inl (.inl rfl)) _).drewN _⟩
        exact ⟨_, _, _, _, R3.out.chg (Chg.drewN (Chg.refl (fun _ => False) _) _) id (fun _ _ => id), HL.out, by omega, HT.out, HB.out, fun c hc => by simp [World.setCell]; rcases hc with hc | hc; exact (own_below HF.out.ko hc).2; exact (own_below HF.out.no hc).2⟩

set_option maxHeartbeats 1000000 in
theorem rcount_any (w : World) (p n W : Nat) (after adds : Int) (T : Nat → Nat → Int) (B : Nat) (O : Nat → Prop) (m : Nat) (M : Int) (key : Int) (h : RfT w p n W after adds T B O m M) (hn : 1 ≤ n ∧ n ≤ 8) (hW : 1 ≤ W ∧ W ≤ 65536) (hk : 0 ≤ key ∧ key ≤ 18446744073709551615) (hm : m ≤ 60000) (hM : 0 ≤ M ∧ M ≤ 1000000000000) (hT0 : ∀ i j, 0 ≤ T i j) :
    Calls Try.prog 18 #[.pointer (some ⟨p, 0, none⟩), .int .u64 key] w fun e w' => e = .returned (.int .i64 (leastF T W key n)) ∧ w = w' := by
  obtain ⟨kv, nv, cs, ns, hR, hl, hcm, hT, hB, _⟩ := h
  have c0 := hR.c0
  have c1 := hR.c1
  have c5 := hR.c5
  obtain ⟨na, ncap, rfl, _, _, tat⟩ := own_form hR.no
  have TAT := Lib.hid tat
  have HF := Lib.hid hR
  have HL := Lib.hid hl
  have HT := Lib.hid hT
  have HB := Lib.hid hB
  have H0 := Lib.hid hT0
  clear hR hl hT hB tat hT0
  go_enter Try.func18, Try.ntmps18
  go_wp2
  go_loop [5, 6] (fun o i => ∃ r : Nat, r ≤ n ∧ i = .int .i64 (↑r : Int) ∧ ∃ x : Int, o = .int .i64 x ∧ Hid (x = if r = 0 then -1 else leastF T W key r)) (fun _ i => n - (intOf i).toNat)
  case atStart => exact ⟨0, by omega, rfl, -1, rfl, rfl⟩
  case round =>
    obtain ⟨r, hr, rfl, x, rfl, HO⟩ := hrel
    by_cases hlt : r < n
    · obtain ⟨c, hc⟩ : ∃ c : Int, c = (r : Int) * 65536 + mixF key r W := ⟨_, rfl⟩
      have HC := Lib.hid hc
      clear hc
      have hmx := mixF_lt key r W (by omega)
      -- what the lists tell is the counter
      have hv : lk cs ns c = T r (mixF key r W) := by rw [HC.out]; exact HT.out r hlt _ hmx
      have HV := Lib.hid hv
      have h0 := H0.out r (mixF key r W)
      clear hv
      go_wp2_with fail
      refine (rmix_any key r W _ (by omega) hW).mono ?_; rintro e w1 ⟨rfl, rfl⟩
      go_wp2_with fail
      refine (rcell_any _ _ _ _ _ _ _ _ cs _ _ _ HF.out (by omega)).mono ?_; rintro e w1 ⟨rfl, rfl⟩
      rw [← HC.out]
      by_cases hin : c ∈ cs
      · have hx : ixI cs c = (cs.idxOf c : Int) := by rw [ixI, if_pos hin]
        have hi := idx_mem hin
        obtain ⟨q, hq⟩ : ∃ q, q = cs.idxOf c := ⟨_, rfl⟩
        rw [← hq] at hi hx
        rw [hx]
        have hqn : q < ns.length := by rw [HL.out]; exact hi.1
        obtain ⟨t, ht⟩ := some_at hqn
        obtain ⟨gt, hta, gb, gl, ct, cf⟩ := TAT.out q _ (map_at ht)
        subst hta
        have hlk : t = T r (mixF key r W) := by rw [← HV.out]; exact (lk_at (by rw [← hq]; exact ht)).symm
        have HK := Lib.hid hlk
        clear hlk hin hq ht hi hx h0
        by_cases hr0 : r = 0
        · have hx : x = -1 := by rw [HO.out, if_pos hr0]
          subst hx
          have hs : leastF T W key (r + 1) = t := by
            have h := HK.out
            rw [hr0] at h ⊢
            show T 0 _ = _
            exact h.symm
          have HS := Lib.hid hs
          clear hs hr0
          go_wp2
          go_round
          case rel => exact ⟨r + 1, by omega, by go_num, _, rfl, by rw [if_neg (by omega), HS.out]; exact Lib.hid rfl⟩
          case measure => simp [intOf]; omega
        · have hx : x = leastF T W key r := by rw [HO.out, if_neg hr0]
          have hg : 0 ≤ x := by rw [hx]; exact leastF_ge (n := r) (fun i hi => H0.out i _) r (by omega) (Nat.le_refl _)
          have hne : (x == -1) = false := by simp; omega
          obtain ⟨r', rfl⟩ : ∃ r', r = r' + 1 := ⟨r - 1, by omega⟩
          have hs : leastF T W key (r' + 2) = if t < x then t else x := by rw [hx, HK.out]; rfl
          have HS := Lib.hid hs
          clear hs hx
          by_cases hlx : t < x
          all_goals
            go_wp2
            go_round
            case rel => exact ⟨r' + 2, by omega, by go_num, _, rfl, by rw [if_neg (by omega), HS.out]; first | (rw [if_pos hlx]; exact Lib.hid rfl) | (rw [if_neg (by omega)]; exact Lib.hid rfl)⟩
            case measure => simp [intOf]; omega
      · have hx : ixI cs c = -1 := by rw [ixI, if_neg hin]
        rw [hx]
        have hlk : 0 = T r (mixF key r W) := by rw [← HV.out]; exact (lk_out HL.out hin).symm
        have HK := Lib.hid hlk
        clear hlk hin hx h0
        by_cases hr0 : r = 0
        · have hx : x = -1 := by rw [HO.out, if_pos hr0]
          subst hx
          have hs : leastF T W key (r + 1) = (0 : Int) := by
            have h := HK.out
            rw [hr0] at h ⊢
            show T 0 _ = _
            exact h.symm
          have HS := Lib.hid hs
          clear hs hr0
          go_wp2
          go_round
          case rel => exact ⟨r + 1, by omega, by go_num, _, rfl, by rw [if_neg (by omega), HS.out]; exact Lib.hid rfl⟩
          case measure => simp [intOf]; omega
        · have hx : x = leastF T W key r := by rw [HO.out, if_neg hr0]
          have hg : 0 ≤ x := by rw [hx]; exact leastF_ge (n := r) (fun i hi => H0.out i _) r (by omega) (Nat.le_refl _)
          have hne : (x == -1) = false := by simp; omega
          obtain ⟨r', rfl⟩ : ∃ r', r = r' + 1 := ⟨r - 1, by omega⟩
          have hs : leastF T W key (r' + 2) = if (0 : Int) < x then (0 : Int) else x := by rw [hx, HK.out]; rfl
          have HS := Lib.hid hs
          clear hs hx
          by_cases hlx : (0 : Int) < x
          all_goals
            go_wp2
            go_round
            case rel => exact ⟨r' + 2, by omega, by go_num, _, rfl, by rw [if_neg (by omega), HS.out]; first | (rw [if_pos hlx]; exact Lib.hid rfl) | (rw [if_neg (by omega)]; exact Lib.hid rfl)⟩
            case measure => simp [intOf]; omega
    · obtain rfl : r = n := by omega
      have hz : x = leastF T W key r := by rw [HO.out, if_neg (by omega)]
      have HZ := Lib.hid hz
      clear hz
      go_wp2
      go_ret
      exact ⟨ret_int HZ.out, rfl⟩

theorem rageT_any (w : World) (p n W : Nat) (after adds : Int) (T : Nat → Nat → Int) (B U m : Nat) (M : Int) (h : RfT w p n W after adds T B (fun c => c < U) m M) (hm : m ≤ 60000) (hM : 0 ≤ M ∧ M ≤ 1000000000000) :
    Calls Try.prog 16 #[.pointer (some ⟨p, 0, none⟩)] w fun e w' => e = .returned (.tuple #[]) ∧ RfT w' p n W after 0 (halve T) B (fun c => c < w'.heap.size) m M ∧ Chg (RfS p U) w w' := by
  obtain ⟨kv, nv, cs, ns, hR, hl, hcm, hT, hB, hO⟩ := h
  refine (rage_any w p n W after adds kv nv cs ns B hR (by omega) (fun t ht => by have := hB t ht; omega)).mono ?_
  rintro e w' ⟨rfl, h1, h2⟩
  have pb := hR.pb
  refine ⟨rfl, ⟨kv, nv, cs, _, h1, by simpa using hl, hcm, fun i hi j hj => by rw [lk_half, hT i hi j hj]; rfl, bd_half hB, fun c hc => by rcases hc with hc | hc; exact (own_below h1.ko hc).2; exact (own_below h1.no hc).2⟩, h2.mono fun c _ hc => ?_⟩
  rcases hc with h | h
  · exact .inl h
  · exact .inr ⟨hO c (.inr h), by have := own_below hR.no h; omega⟩
end Go.Proofs.Ytmkgmofkfgfdhaa
