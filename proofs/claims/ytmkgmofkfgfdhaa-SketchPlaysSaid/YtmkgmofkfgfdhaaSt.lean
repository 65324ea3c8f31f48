/- Law of sketch: Truth. -/
import Derived.Test.YtmkgmofkfgfdhaaSo
import Derived.Test.YtmkgmofkfgfdhaaOwn
namespace Go.Proofs.Ytmkgmofkfgfdhaa
set_option linter.unusedVariables false
open Go.RowKit

theorem infoKey : (Try.prog.info? 36).map (fun i => (i.zero, i.size, i.bytes)) = some (some (.int .u64 0), 1, 8) := by kernel_rfl
theorem infoNum : (Try.prog.info? 3).map (fun i => (i.zero, i.size, i.bytes)) = some (some (.int .i64 0), 1, 8) := by kernel_rfl

theorem leastF_ge {T : Nat → Nat → Int} {W : Nat} {key t : Int} {n : Nat} (h : ∀ i, i < n → t ≤ T i (mixF key i W)) : ∀ k, 0 < k → k ≤ n → t ≤ leastF T W key k
  | 0, h0, _ => by omega
  | 1, _, hk => h 0 (by omega)
  | k + 2, _, hk => by
    have e := leastF_ge h (k + 1) (by omega) (by omega)
    have e2 := h (k + 1) (by omega)
    simp only [leastF]; split <;> assumption

/-- The number of a truth, when it is still to be halved. -/
def dn (d : Bool) (t : Int) : Int := if d then t / 2 else t
theorem dn_le {d : Bool} {a b : Int} (h : a ≤ b) : dn d a ≤ dn d b := by unfold dn; split <;> omega
theorem dn_bd {d : Bool} {a M : Int} (h : 0 ≤ a ∧ a ≤ M) : 0 ≤ dn d a ∧ dn d a ≤ M := by unfold dn; split <;> omega

/-- No count is below the truth. -/
def Inv (ks ts : List Int) (d : Bool) (n W : Nat) (T : Nat → Nat → Int) : Prop := ∀ (q : Nat) key t, ks[q]? = some key → ts[q]? = some t → ∀ i, i < n → dn d t ≤ T i (mixF key i W)
def Bd (ts : List Int) (M : Int) : Prop := ∀ t ∈ ts, 0 ≤ t ∧ t ≤ M

theorem bump_ge (T : Nat → Nat → Int) (W : Nat) (key : Int) (n i j : Nat) : T i j ≤ bump T W key n i j := by unfold bump; split <;> omega
theorem bump_hit (T : Nat → Nat → Int) (W : Nat) (key : Int) (n i : Nat) (h : i < n) : bump T W key n i (mixF key i W) = T i (mixF key i W) + 1 := by simp [bump, h]
theorem inv_hit {ks ts : List Int} {n W : Nat} {T : Nat → Nat → Int} (h : Inv ks ts false n W T) {q : Nat} {key t : Int} (hk : ks[q]? = some key) (ht : ts[q]? = some t) (d : Bool) : Inv ks (ts.set q (t + 1)) d n W (fun i j => dn d (bump T W key n i j)) := by
  intro q' key' t' hk' ht' i hi
  refine dn_le ?_
  by_cases e : q' = q
  · subst e
    have e1 : key' = key := by rw [hk] at hk'; exact (Option.some.inj hk').symm
    subst e1
    rw [List.getElem?_set_self (List.getElem?_eq_some_iff.1 ht).1] at ht'
    have e2 := Option.some.inj ht'
    rw [bump_hit _ _ _ _ _ hi]
    have := h q' key' t hk ht i hi
    simp [dn] at this
    omega
  · rw [List.getElem?_set_ne (fun x => e x.symm)] at ht'
    have := h q' key' t' hk' ht' i hi
    simp [dn] at this
    exact Int.le_trans this (bump_ge _ _ _ _ _ _)
theorem inv_new {ks ts : List Int} {n W : Nat} {T : Nat → Nat → Int} (h : Inv ks ts false n W T) (hl : ts.length = ks.length) (hT : ∀ i j, 0 ≤ T i j) (key : Int) : Inv (ks ++ [key]) (ts ++ [0]) false n W T := by
  intro q key' t hk ht i hi
  rcases Nat.lt_or_ge q ks.length with hq | hq
  · rw [List.getElem?_append_left hq] at hk
    rw [List.getElem?_append_left (by omega)] at ht
    exact h q key' t hk ht i hi
  · have hq2 := (List.getElem?_eq_some_iff.1 ht).1
    simp at hq2
    rw [List.getElem?_append_right (by omega)] at ht
    have : q - ts.length = 0 := by omega
    rw [this] at ht
    simp at ht
    subst ht
    simp [dn]
    exact hT _ _
theorem inv_age {ks ts : List Int} {n W : Nat} {T : Nat → Nat → Int} (h : Inv ks ts false n W T) : Inv ks ts true n W (halve T) := by
  intro q key t hk ht i hi
  have := h q key t hk ht i hi
  simp [dn] at this
  simp [dn, halve]
  omega
theorem inv_done {ks ts : List Int} {n W : Nat} {T : Nat → Nat → Int} (h : Inv ks ts true n W T) : Inv ks (ts.map fun t => t / 2) false n W T := by
  intro q key t hk ht i hi
  rw [List.getElem?_map] at ht
  cases e : ts[q]? with
  | none => rw [e] at ht; cases ht
  | some u =>
    rw [e] at ht
    simp at ht
    have := h q key u hk e i hi
    simp [dn] at this
    simp [dn]
    omega
theorem bd_mono {ts : List Int} {M M' : Int} (h : Bd ts M) (hm : M ≤ M') : Bd ts M' := fun t ht => by have := h t ht; omega
theorem bd_set {ts : List Int} {M : Int} (h : Bd ts M) (hm : 0 ≤ M) {q : Nat} {t : Int} (ht : ts[q]? = some t) : Bd (ts.set q (t + 1)) (M + 1) := fun x hx => by
  have := h t (mem_at ht)
  rcases List.mem_or_eq_of_mem_set hx with h1 | h1
  · have := h x h1; omega
  · omega
theorem bd_snoc {ts : List Int} {M : Int} (h : Bd ts M) (hm : 0 ≤ M) : Bd (ts ++ [0]) M := fun x hx => by
  rcases List.mem_append.1 hx with h1 | h1
  · exact h x h1
  · simp at h1; omega
theorem bd_half {ts : List Int} {M : Int} (h : Bd ts M) : Bd (ts.map fun t => t / 2) M := fun x hx => by
  obtain ⟨t, h1, h2⟩ := List.mem_map.1 hx
  have := h t h1; omega

/-- The first j of a list turned. -/
def upto (f : Int → Int) (l : List Int) (j : Nat) : List Int := (l.take j).map f ++ l.drop j
theorem upto_zero (f : Int → Int) (l : List Int) : upto f l 0 = l := by simp [upto]
theorem upto_all (f : Int → Int) (l : List Int) : upto f l l.length = l.map f := by simp [upto]
theorem upto_len (f : Int → Int) (l : List Int) (j : Nat) : (upto f l j).length = l.length := by simp [upto]; omega
theorem upto_at (f : Int → Int) {l : List Int} {j : Nat} {x : Int} (h : l[j]? = some x) : (upto f l j)[j]? = some x := by
  have hl := (List.getElem?_eq_some_iff.1 h).1
  unfold upto
  rw [List.getElem?_append_right (by simp; omega)]
  simp [Nat.min_eq_left (Nat.le_of_lt hl), h]
theorem upto_set (f : Int → Int) {l : List Int} {j : Nat} {x : Int} (h : l[j]? = some x) : (upto f l j).set j (f x) = upto f l (j + 1) := by
  have hl := (List.getElem?_eq_some_iff.1 h).1
  have hx := (List.getElem?_eq_some_iff.1 h).2
  unfold upto
  rw [take_at h, List.drop_eq_getElem_cons hl, hx]
  rw [List.set_append_right _ _ (by simp; omega)]
  simp [Nat.min_eq_left (Nat.le_of_lt hl)]

/-- What stands behind k calls: the sketch, the law's keys and truths. -/
structure Tr (w0 w : World) (b g cap n W : Nat) (R : Nat → Nat) (after A : Int) (T : Nat → Nat → Int) (B z : Nat) (kv tv : Value) (ks ts : List Int) (d : Bool) (M : Int) : Prop where
  sk : Sk w b g cap n W R after A T
  ko : w.ownsRow B 36 1 kv ks.length (ks.map (.int .u64))
  tw : w.ownsRow B 3 1 tv ts.length (ts.map (.int .i64))
  len : ts.length = ks.length
  ne : ∀ c, kv.ownBlock = some c → tv.ownBlock ≠ some c
  inv : Inv ks ts d n W T
  tb : ∀ i j, 0 ≤ T i j ∧ T i j ≤ M
  sb : Bd ts M
  kb : ∀ k ∈ ks, 0 ≤ k ∧ k ≤ 18446744073709551615
  far : b < B ∧ g < B ∧ (∀ i, i < n → R i < B) ∧ z ≤ b ∧ (∀ i, i < n → z ≤ R i)
  chg : Chg (fun c => z ≤ c) w0 w
theorem Tr.keep {w0 w w' : World} {b g cap n W : Nat} {R : Nat → Nat} {after A : Int} {T : Nat → Nat → Int} {B z : Nat} {kv tv : Value} {ks ts : List Int} {d : Bool} {M : Int}
    (h : Tr w0 w b g cap n W R after A T B z kv tv ks ts d M) (c : Chg (fun _ => False) w w') : Tr w0 w' b g cap n W R after A T B z kv tv ks ts d M :=
  ⟨h.sk.chg c id id (fun _ _ => id), own_chg h.ko c (fun _ _ _ _ => id), own_chg h.tw c (fun _ _ _ _ => id), h.len, h.ne, h.inv, h.tb, h.sb, h.kb, h.far, h.chg.trans c (fun _ _ h => h.elim)⟩
/-- The sketch alone has turned. -/
theorem Tr.turn {w0 w w' : World} {b g cap n W : Nat} {R : Nat → Nat} {after A A' : Int} {T T' : Nat → Nat → Int} {B z : Nat} {kv tv : Value} {ks ts : List Int} {d d' : Bool} {M M' : Int}
    (h : Tr w0 w b g cap n W R after A T B z kv tv ks ts d M) (c : Chg (SkS b n R) w w') (hs : Sk w' b g cap n W R after A' T') (hi : Inv ks ts d' n W T') (ht : ∀ i j, 0 ≤ T' i j ∧ T' i j ≤ M') (hm : M ≤ M') : Tr w0 w' b g cap n W R after A' T' B z kv tv ks ts d' M' := by
  have f := h.far
  have nn : ∀ g, B ≤ g → ¬ SkS b n R g := fun g hg hs => by
    rcases hs with e | ⟨i, hi, e⟩
    · omega
    · have := f.2.2.1 i hi; omega
  exact ⟨hs, own_chg h.ko c (fun g hg _ _ => nn g hg), own_chg h.tw c (fun g hg _ _ => nn g hg), h.len, h.ne, hi, ht, bd_mono h.sb hm, h.kb, f, tr_own h.chg c f.2.2.2.1 f.2.2.2.2⟩

section
variable {w0 w w6 w7 w8 : World} {b g cap n W : Nat} {R : Nat → Nat} {after A : Int} {T : Nat → Nat → Int} {B z : Nat} {kv tv : Value} {ks ts : List Int} {d : Bool} {M : Int}
theorem Tr.nn (h : Tr w0 w b g cap n W R after A T B z kv tv ks ts d M) : ∀ c, B ≤ c → ¬ SkS b n R c := fun c hc hs => by
  rcases hs with e | ⟨i, hi, e⟩
  · have := h.far; omega
  · have := h.far.2.2.1 i hi; omega
theorem Tr.hit {g' cap' m : Nat} (h : Tr w0 w b g cap n W R after A T B z kv (.slice (some ⟨g', 0, none⟩) m cap') ks ts d M) {q : Nat} (hq : q < ts.length) (u : Int) (hi : Inv ks (ts.set q u) d n W T) {M' : Int} (hb : Bd (ts.set q u) M') (hM : M ≤ M') :
    Tr w0 (w.setCell ⟨g', q, none⟩ (.int .i64 u)) b g cap n W R after A T B z kv (.slice (some ⟨g', 0, none⟩) m cap') ks (ts.set q u) d M' := by
  have hg := own_below h.tw (c := g') rfl
  have hm : m = ts.length := by
    obtain ⟨a, c, e, _⟩ := own_form h.tw
    cases e; rfl
  subst hm
  have c : Chg (fun c => c = g') w (w.setCell ⟨g', q, none⟩ (.int .i64 u)) := Chg.setCell (S := fun c => c = g') (Chg.refl _ w) (p := ⟨g', q, none⟩) (.inl rfl) _
  have f := h.far
  refine ⟨h.sk.chg c (by omega) (by omega) (fun i hi => by have := f.2.2.1 i hi; omega), own_chg h.ko c (fun c _ _ hc e => h.ne c hc (by rw [e]; rfl)), ?_, by rw [List.length_set]; exact h.len, h.ne, hi, fun i j => by have := h.tb i j; omega, hb, h.kb, f, h.chg.trans c (fun i _ e => by have := hg.1; have := f.1; omega)⟩
  rw [List.length_set, ← put_map]
  exact own_put h.tw (by simpa using hq) _
theorem Tr.push_chg {o1 o2 : Obj} (h : Tr w0 w6 b g cap n W R after A T B z kv tv ks ts d M) (hg1 : (w6.alloc o1).grownBy w7 kv.ownBlock) (hg2 : (w7.alloc o2).grownBy w8 tv.ownBlock) : Chg (fun c => B ≤ c) w6 w8 := by
  have c1 : Chg (fun c => B ≤ c) w6 w7 := ((Chg.refl _ w6).alloc o1).grown hg1 (fun k hk => .inl (own_below h.ko hk).1)
  exact (c1.alloc o2).grown hg2 (fun k hk => .inl (own_below h.tw hk).1)
theorem Tr.push {o1 o2 : Obj} {g1 cap1 g2 cap2 : Nat} {key : Int} (h : Tr w0 w6 b g cap n W R after A T B z kv tv ks ts d M)
    (hg1 : (w6.alloc o1).grownBy w7 kv.ownBlock) (ho1 : w7.ownsRow B 36 1 (.slice (some ⟨g1, 0, none⟩) (ks.length + 1) cap1) (ks.length + 1) (ks.map (.int .u64) ++ [.int .u64 key])) (at1 : kv.ownBlock = some g1 ∨ g1 = w6.heap.size + 1)
    (hg2 : (w7.alloc o2).grownBy w8 tv.ownBlock) (ho2 : w8.ownsRow B 3 1 (.slice (some ⟨g2, 0, none⟩) (ts.length + 1) cap2) (ts.length + 1) (ts.map (.int .i64) ++ [.int .i64 0])) (at2 : tv.ownBlock = some g2 ∨ g2 = w7.heap.size + 1)
    (hi : Inv (ks ++ [key]) (ts ++ [0]) d n W T) (hM : 0 ≤ M) (hk : 0 ≤ key ∧ key ≤ 18446744073709551615) (hB : B ≤ w6.heap.size) :
    Tr w0 w8 b g cap n W R after A T B z (.slice (some ⟨g1, 0, none⟩) (ks.length + 1) cap1) (.slice (some ⟨g2, 0, none⟩) (ts.length + 1) cap2) (ks ++ [key]) (ts ++ [0]) d M := by
  have f := h.far
  have s7 := hg1.size
  have s8 := hg2.size
  simp at s7 s8
  have l1 := own_below ho1 (c := g1) rfl
  have ne12 : g1 ≠ g2 := by
    rcases at2 with e | e
    · rcases at1 with e1 | e1
      · intro e2; subst e2; exact h.ne g1 e1 e
      · have := own_below h.tw e; omega
    · omega
  have c := h.push_chg hg1 hg2
  refine ⟨h.sk.chg c (by omega) (by omega) (fun i hi => by have := f.2.2.1 i hi; omega), ?_, ?_, by simp [h.len], ?_, hi, h.tb, bd_snoc h.sb hM, ?_, f, h.chg.trans c (fun i _ e => by have := f.1; omega)⟩
  · rw [List.length_append, ← map_snoc]
    refine own_block ho1 fun c hc => ?_
    have : c = g1 := by simpa [Value.ownBlock] using hc.symm
    subst this
    rw [hg2.block c (by simp; omega) (fun e => ?_)]
    · exact Below.heap_alloc w7 o2 c l1.2
    · rcases at1 with e1 | e1
      · exact h.ne c e1 e.symm
      · have := own_below h.tw e.symm; omega
  · rw [List.length_append, ← map_snoc]
    exact ho2
  · intro c hc
    have : c = g1 := by simpa [Value.ownBlock] using hc.symm
    subst this
    simp [Value.ownBlock]
    exact fun e => ne12 e.symm
  · intro k hk'
    rcases List.mem_append.1 hk' with h1 | h1
    · exact h.kb k h1
    · simp at h1; subst h1; exact hk
theorem Tr.weak {M' : Int} (h : Tr w0 w b g cap n W R after A T B z kv tv ks ts d M) (hm : M ≤ M') : Tr w0 w b g cap n W R after A T B z kv tv ks ts d M' :=
  ⟨h.sk, h.ko, h.tw, h.len, h.ne, h.inv, fun i j => by have := h.tb i j; omega, bd_mono h.sb hm, h.kb, h.far, h.chg⟩
theorem Tr.halved (h : Tr w0 w b g cap n W R after A T B z kv tv ks ts true M) (ho : w6.ownsRow B 3 1 tv ts.length ((ts.map fun t => t / 2).map (.int .i64))) (c : Chg (fun c => tv.ownBlock = some c) w w6) : Tr w0 w6 b g cap n W R after A T B z kv tv ks (ts.map fun t => t / 2) false M := by
  have f := h.far
  have nb : ∀ c, tv.ownBlock = some c → B ≤ c := fun c hc => (own_below h.tw hc).1
  exact ⟨h.sk.chg c (fun e => by have := nb _ e; omega) (fun e => by have := nb _ e; omega) (fun i hi e => by have := nb _ e; have := f.2.2.1 i hi; omega), own_chg h.ko c (fun c _ _ hc e => h.ne c hc e), by simpa using ho, by simp [h.len], h.ne, inv_done h.inv, h.tb, bd_half h.sb, h.kb, f,
    h.chg.trans c (fun i _ e => by have := nb _ e; omega)⟩
end

set_option maxRecDepth 100000 in
set_option maxHeartbeats 4000000 in
theorem sketchTruth_any (n W after : Int) (v : Value) (l : List (Int × Int)) (w : World) (wn : (Lit.int .i64 n).wf = true) (wW : (Lit.int .i64 W).wf = true) (wa : (Lit.int .i64 after).wf = true) (hv : IsL2 .u8 .u64 w v l) :
    Calls Try.prog 5 #[.agg #[.int .i64 n, .int .i64 W, .int .i64 after], v] w fun e w' => e = .returned (.bool true) ∧ Below w.heap.size w w' := by
  obtain ⟨hwf, sa, scap, rfl, hlen, hcells⟩ := hv
  have HWF : Hid (∀ x ∈ l, (0 ≤ x.1 ∧ x.1 ≤ 255) ∧ 0 ≤ x.2 ∧ x.2 ≤ 18446744073709551615) := fun x hx => ⟨wfU8 (hwf x hx).1, wfU64 (hwf x hx).2⟩
  have HC := Lib.hid hcells
  clear hwf hcells
  obtain ⟨ik, hik, kz0, kz1, kz2⟩ := info_parts infoKey
  obtain ⟨it, hit, tz0, tz1, tz2⟩ := info_parts infoNum
  by_cases h100 : 100 < l.length
  · go_enter Try.func5, Try.ntmps5
    go_wp2_with fail
    refine (held_any _ _ _ _).mono ?_; rintro e w1 ⟨rfl, b1⟩
    have g1 := Chg.ofBelow (S := fun _ => False) b1
    have z1 : w.heap.size < w1.heap.size := by have := g1.size; simp at this; exact this
    have c1 : ∀ o, w1.cell? ⟨w.heap.size, o, none⟩ = _ := fun o => g1.cell (b := w.heap.size) (by simp) id o
    have f1 : ∀ o, w1.frozen? ⟨w.heap.size, o, none⟩ = _ := fun o => g1.frozen (b := w.heap.size) (by simp) id o
    clear b1
    go_wp2_with fail
    refine (awake_any _).mono ?_; rintro e w4 ⟨rfl, g4⟩
    go_wp2_with fail
    go_ret
    exact ⟨rfl, Chg.below (by repeat (first | with_reducible exact Chg.refl _ _ | with_reducible assumption | with_reducible refine Chg.drewN ?_ _ | with_reducible refine Chg.drew ?_ | with_reducible refine Chg.alloc ?_ _ | with_reducible refine Chg.setCell ?_ (by first | (left; rfl) | (right; exact Nat.le_refl _) | (right; simp; done) | (right; omega) | (right; simp at *; omega) | (simp at *; omega)) _ | with_reducible refine Chg.trans ?_ (by with_reducible assumption) (by intro i hi hT; first | exact hT | exact False.elim hT | omega | (simp at *; omega))))⟩
  cases hr : decide (1 ≤ n ∧ n ≤ 8 ∧ 1 ≤ wid W ∧ wid W ≤ 65536 ∧ 1 ≤ after ∧ after ≤ 1099511627776)
  · have HD := Lib.hid hr
    clear hr
    go_enter Try.func5, Try.ntmps5
    go_wp2_with fail
    refine (held_any _ _ _ _).mono ?_; rintro e w1 ⟨rfl, b1⟩
    have g1 := Chg.ofBelow (S := fun _ => False) b1
    have z1 : w.heap.size < w1.heap.size := by have := g1.size; simp at this; exact this
    have c1 : ∀ o, w1.cell? ⟨w.heap.size, o, none⟩ = _ := fun o => g1.cell (b := w.heap.size) (by simp) id o
    have f1 : ∀ o, w1.frozen? ⟨w.heap.size, o, none⟩ = _ := fun o => g1.frozen (b := w.heap.size) (by simp) id o
    clear b1
    go_wp2_with fail
    refine name_calls ?_; intro w2 hw2
    have c2 : Chg (fun _ => False) w w2 := by subst hw2; exact (by repeat (first | with_reducible exact Chg.refl _ _ | with_reducible assumption | with_reducible refine Chg.drewN ?_ _ | with_reducible refine Chg.drew ?_ | with_reducible refine Chg.alloc ?_ _ | with_reducible refine Chg.setCell ?_ (by first | (left; rfl) | (right; exact Nat.le_refl _) | (right; simp; done) | (right; omega) | (right; simp at *; omega) | (simp at *; omega)) _ | with_reducible refine Chg.trans ?_ (by with_reducible assumption) (by intro i hi hT; first | exact hT | exact False.elim hT | omega | (simp at *; omega))))
    clear hw2
    refine (right_any _ _ _ _).mono ?_; rintro e w3 ⟨rfl, rfl⟩
    rw [HD.out]
    go_wp2_with fail
    refine (awake_any _).mono ?_; rintro e w4 ⟨rfl, g4⟩
    go_wp2_with fail
    go_ret
    exact ⟨rfl, Chg.below (by repeat (first | with_reducible exact Chg.refl _ _ | with_reducible assumption | with_reducible refine Chg.drewN ?_ _ | with_reducible refine Chg.drew ?_ | with_reducible refine Chg.alloc ?_ _ | with_reducible refine Chg.setCell ?_ (by first | (left; rfl) | (right; exact Nat.le_refl _) | (right; simp; done) | (right; omega) | (right; simp at *; omega) | (simp at *; omega)) _ | with_reducible refine Chg.trans ?_ (by with_reducible assumption) (by intro i hi hT; first | exact hT | exact False.elim hT | omega | (simp at *; omega))))⟩
  · have hr' : 1 ≤ n ∧ n ≤ 8 ∧ 1 ≤ wid W ∧ wid W ≤ 65536 ∧ 1 ≤ after ∧ after ≤ 1099511627776 := of_decide_eq_true hr
    have HD := Lib.hid hr
    have HR := Lib.hid hr'
    clear hr hr'
    go_enter Try.func5, Try.ntmps5
    go_wp2_with fail
    refine (held_any _ _ _ _).mono ?_; rintro e w1 ⟨rfl, b1⟩
    have g1 := Chg.ofBelow (S := fun _ => False) b1
    have z1 : w.heap.size < w1.heap.size := by have := g1.size; simp at this; exact this
    have c1 : ∀ o, w1.cell? ⟨w.heap.size, o, none⟩ = _ := fun o => g1.cell (b := w.heap.size) (by simp) id o
    have f1 : ∀ o, w1.frozen? ⟨w.heap.size, o, none⟩ = _ := fun o => g1.frozen (b := w.heap.size) (by simp) id o
    clear b1
    go_wp2_with fail
    refine name_calls ?_; intro w2 hw2
    have c2 : Chg (fun _ => False) w w2 := by subst hw2; exact (by repeat (first | with_reducible exact Chg.refl _ _ | with_reducible assumption | with_reducible refine Chg.drewN ?_ _ | with_reducible refine Chg.drew ?_ | with_reducible refine Chg.alloc ?_ _ | with_reducible refine Chg.setCell ?_ (by first | (left; rfl) | (right; exact Nat.le_refl _) | (right; simp; done) | (right; omega) | (right; simp at *; omega) | (simp at *; omega)) _ | with_reducible refine Chg.trans ?_ (by with_reducible assumption) (by intro i hi hT; first | exact hT | exact False.elim hT | omega | (simp at *; omega))))
    have z2 : w.heap.size < w2.heap.size := by subst hw2; simp; omega
    have k0 : w2.cell? ⟨w.heap.size, 0, none⟩ = some (.int .i64 n) := by subst hw2; go_simp
    have k1 : w2.cell? ⟨w.heap.size, 1, none⟩ = some (.int .i64 (wid W)) := by subst hw2; go_simp
    have k2 : w2.cell? ⟨w.heap.size, 2, none⟩ = some (.int .i64 after) := by subst hw2; go_simp
    clear hw2 c1 f1
    refine (right_any _ _ _ _).mono ?_; rintro e w3 ⟨rfl, rfl⟩
    rw [HD.out]
    obtain ⟨n', hn'⟩ := Int.eq_ofNat_of_zero_le (show 0 ≤ n by have := HR.out; omega)
    obtain ⟨W', hW'⟩ := Int.eq_ofNat_of_zero_le (show 0 ≤ wid W by have := HR.out; omega)
    rw [hn'] at k0
    rw [hW'] at k1
    have HR2 : Hid (1 ≤ (n' : Int) ∧ (n' : Int) ≤ 8 ∧ 1 ≤ (W' : Int) ∧ (W' : Int) ≤ 65536 ∧ 1 ≤ after ∧ after ≤ 1099511627776) := by have := HR.out; rw [hn', hW'] at this; exact this
    clear hn' hW'
    go_wp2_with fail
    refine (new_try n' W' after _ (by have := HR2.out; omega) (by have := HR2.out; omega) (by have := HR2.out; omega)).mono ?_; rintro e w4 ⟨rfl, ⟨g, cap, R, hs, hg, hRr⟩, g4⟩
    have HS := hs
    have f1 : w2.heap.size < w4.heap.size := cell_lt hs.c0
    have f2 : g < w4.heap.size := cell_lt (hs.rows 0 (by have := hs.size; omega))
    have f3 : ∀ i, i < n' → R i < w4.heap.size := fun i hi => cell_lt (hs.cells i hi 0 (by have := hs.size; omega))
    have f4 : ∀ i, i < n' → w2.heap.size ≤ R i := fun i hi => Nat.le_of_lt (hRr i hi)
    have HT : Hid (Tr w2 w4 w2.heap.size g cap n' W' R after 0 (fun _ _ => 0) w4.heap.size w2.heap.size (.slice none 0 0) (.slice none 0 0) [] [] false 0) :=
      ⟨hs, World.ownsRow_nil _ _ _ _, World.ownsRow_nil _ _ _ _, rfl, by intro c h; simp [Value.ownBlock] at h, by intro q key t h; simp at h, fun _ _ => by omega, (by intro t h; simp at h), (by intro t h; simp at h), ⟨f1, f2, f3, Nat.le_refl _, f4⟩, g4.mono (fun _ _ h => h.elim)⟩
    clear hs HS f3 f4 g4 k0 k1 HR hRr hg
    go_wp2_with fail
    go_loopw [7, 8, 9, 53] (fun kv tv ad i wr => ∃ (k : Nat) (ks ts : List Int) (T : Nat → Nat → Int) (A : Int), k ≤ l.length ∧ i = .int .i64 (↑k : Int) ∧ ad = .int .i64 A ∧ (0 ≤ A ∧ A ≤ k) ∧ ks.length ≤ k ∧ w4.heap.size ≤ wr.heap.size ∧ Hid (Tr w2 wr w2.heap.size g cap n' W' R after A T w4.heap.size w2.heap.size kv tv ks ts false k)) (fun _ _ _ i _ => l.length - (intOf i).toNat)
    case atStart => exact ⟨0, [], [], _, 0, by omega, rfl, rfl, by omega, by simp, Nat.le_refl _, HT.out⟩
    case round =>
      obtain ⟨k, ks, ts, T, A, hk1, rfl, rfl, hA, hkl, zr, HT⟩ := hrel
      by_cases hlt : k < l.length
      rotate_left
      · obtain rfl : k = l.length := by omega
        go_wp2_with fail
        refine (awake_any _).mono ?_; rintro e w6 ⟨rfl, g6⟩
        go_wp2_with fail
        go_ret
        exact ⟨rfl, Chg.below ((c2.trans HT.out.chg (fun c hc h => absurd h (by omega))).trans g6 (fun _ _ h => h))⟩
      · obtain ⟨lb, lo, rfl, hlb, hc⟩ := HC.out (by omega)
        obtain ⟨⟨kd, key⟩, hx⟩ : ∃ x, l[k]? = some x := ⟨_, List.getElem?_eq_getElem hlt⟩
        have kc := hc k _ hx
        have e0 : wr.cell? ⟨lb, lo + k * 2, none⟩ = some (.int .u8 kd) := by rw [HT.out.chg.cell (by omega) (by omega), c2.cell hlb id]; exact kc.1
        have e1 : wr.cell? ⟨lb, lo + k * 2 + 1, none⟩ = some (.int .u64 key) := by rw [HT.out.chg.cell (by omega) (by omega), c2.cell hlb id]; exact kc.2
        have HX := Lib.hid (HWF.out _ (List.mem_of_getElem? hx))
        clear kc hc hx
        have ca : wr.cell? ⟨w.heap.size, 2, none⟩ = some (.int .i64 after) := by rw [HT.out.chg.cell z2 (by omega)]; exact k2
        have zw : w.heap.size < wr.heap.size := by omega
        go_upto_if 64 with fail
        go_cut [7, 8, 9, 12] (fun kv tv ad ag wx => ∃ (ks ts : List Int) (T : Nat → Nat → Int) (A' : Int) (d : Bool), ag = .bool d ∧ ad = .int .i64 A' ∧ (0 ≤ A' ∧ A' ≤ k + 1) ∧ ks.length ≤ k + 1 ∧ w4.heap.size ≤ wx.heap.size ∧ Hid (Tr w2 wx w2.heap.size g cap n' W' R after (if d then 0 else A') T w4.heap.size w2.heap.size kv tv ks ts d (k + 1)))
        case first =>
          by_cases q0 : kd.tmod 3 = 0
          · have b0 : (kd.tmod 3 == 0) = true := by simp [q0]
            have b1 : (kd.tmod 3 == 1) = false := by simp [q0]
            clear q0
            go_wp2_with fail
            refine name_calls ?_; intro W5 h5
            have HT5 : Hid (Tr w2 W5 w2.heap.size g cap n' W' R after A T w4.heap.size w2.heap.size u7 u8 ks ts false k) := by subst h5; exact HT.out.keep (by repeat (first | with_reducible exact Chg.refl _ _ | with_reducible assumption | with_reducible refine Chg.drewN ?_ _ | with_reducible refine Chg.drew ?_ | with_reducible refine Chg.alloc ?_ _ | with_reducible refine Chg.setCell ?_ (by first | (left; rfl) | (right; exact Nat.le_refl _) | (right; simp; done) | (right; omega) | (right; simp at *; omega) | (simp at *; omega)) _ | with_reducible refine Chg.trans ?_ (by with_reducible assumption) (by intro i hi hT; first | exact hT | exact False.elim hT | omega | (simp at *; omega))))
            have x5 : W5.cell? ⟨wr.heap.size, 1, none⟩ = some (.int .u64 key) := by subst h5; go_simp
            have ca5 : W5.cell? ⟨w.heap.size, 2, none⟩ = some (.int .i64 after) := by subst h5; go_simp
            have z5 : wr.heap.size < W5.heap.size := by subst h5; simp
            clear h5
            refine (add_rows _ _ _ _ _ _ _ _ _ key _ HT5.out.sk HX.out.2 (fun i j => by have := HT5.out.tb i j; omega) (by omega)).mono ?_; rintro e w6 ⟨rfl, hs, hc⟩
            obtain ⟨dd, hdd⟩ : ∃ dd : Bool, dd = (A + 1 == after) := ⟨_, rfl⟩
            have hs2 : Sk w6 w2.heap.size g cap n' W' R after (if dd then 0 else A + 1) (fun i j => dn dd (bump T W' key n' i j)) := by
              by_cases he : A + 1 = after
              · rw [if_pos he] at hs
                have : dd = true := by rw [hdd]; simpa using he
                subst this
                exact hs
              · rw [if_neg he] at hs
                have : dd = false := by rw [hdd]; simpa using he
                subst this
                exact hs
            have tb6 : ∀ i j, 0 ≤ dn dd (bump T W' key n' i j) ∧ dn dd (bump T W' key n' i j) ≤ k + 1 := fun i j => dn_bd (by have := HT5.out.tb i j; unfold bump; split <;> omega)
            have i6 : Inv ks ts dd n' W' (fun i j => dn dd (bump T W' key n' i j)) := fun q k2 t hk ht i hi => dn_le (by have := HT5.out.inv q k2 t hk ht i hi; simp [dn] at this; exact Int.le_trans this (bump_ge _ _ _ _ _ _))
            have h6 := HT5.out.turn hc hs2 i6 tb6 (by omega)
            have nn := HT5.out.nn
            have x6 : w6.cell? ⟨wr.heap.size, 1, none⟩ = some (.int .u64 key) := by rw [hc.cell z5 (nn _ (by omega))]; exact x5
            have far := HT5.out.far
            have ca6 : w6.cell? ⟨w.heap.size, 2, none⟩ = some (.int .i64 after) := by
              rw [hc.cell (by omega) (fun hh => by
                rcases hh with e | ⟨i, hi, e⟩
                · omega
                · have := far.2.2.2.2 i hi; omega)]
              exact ca5
            have H6 := Lib.hid h6
            have DD := Lib.hid hdd
            have z6 := hc.size
            clear hs hs2 tb6 i6 hc nn x5 ca5 e0 e1 ca far h6 hdd HT5
            obtain ⟨ka, kcap, rfl, _, _, kat⟩ := own_form H6.out.ko
            obtain ⟨ta, tcap, rfl, _, _, tat⟩ := own_form H6.out.tw
            have KAT := Lib.hid kat
            have TAT := Lib.hid tat
            have HLE := Lib.hid H6.out.len
            have htl : ts.length ≤ k := by rw [HLE.out]; exact hkl
            have hkt : ks.length ≤ ts.length := by rw [HLE.out]; exact Nat.le_refl _
            clear kat tat
            go_wp2_with fail
            go_loop [13, 71] (fun at_ i => ∃ j : Nat, j ≤ ks.length ∧ i = .int .i64 (↑j : Int) ∧ (at_ = .int .i64 (-1) ∨ ∃ q : Nat, ks[q]? = some key ∧ at_ = .int .i64 (↑q : Int))) (fun _ i => ks.length - (intOf i).toNat)
            case atStart => exact ⟨0, by omega, rfl, .inl rfl⟩
            case round =>
              obtain ⟨j, hj1, rfl, hat⟩ := hrel
              by_cases hjt : j < ks.length
              · obtain ⟨x, hx⟩ := some_at hjt
                obtain ⟨gk, hka, _, _, ck, _⟩ := KAT.out j _ (map_at hx)
                subst hka
                by_cases he : x = key
                · subst he
                  have HXK := Lib.hid hx
                  clear hx hat
                  go_wp2
                  go_round
                  case rel => exact ⟨j + 1, by omega, by go_num, .inr ⟨j, HXK.out, rfl⟩⟩
                  case measure => simp [intOf]; omega
                · have hxe : (x == key) = false := by simpa using he
                  have HAT := Lib.hid hat
                  clear hx hat he
                  go_wp2
                  go_round
                  case rel => exact ⟨j + 1, by omega, by go_num, HAT.out⟩
                  case measure => simp [intOf]; omega
              · obtain rfl : j = ks.length := by omega
                rcases hat with rfl | ⟨q, hq, rfl⟩
                · go_wp2_with (first
                    | (at_builtin; refine wpList_append_lies _ rfl _ _ 43 rfl w4.heap.size 36 ik _ 1 8 Try.underlying43 hik kz0 kz1 kz2 rfl (by decide) _ ks.length _ rfl (H6.out.ko.alloc _) ⟨w6.heap.size, 0, none⟩ 1 1 [.int .u64 key] rfl rfl (one_at _ _ _) (ints_oneCell .u64 [key]) (by decide) (by unfold maxLen; omega) (by omega) (by simp; omega) (w6.heap.size + 1) (by simp) ?_; intro g1 cap1 w7 ho1 hg1 at1 lt1; have T7 := Lib.hid ((H6.out.tw.alloc _).kept hg1 (blocks_apart H6.out.ne)); have s7 := hg1.size; simp at s7)
                    | (at_builtin; refine wpList_append_lies _ rfl _ _ 33 rfl w4.heap.size 3 it _ 1 8 Try.underlying33 hit tz0 tz1 tz2 rfl (by decide) _ ts.length _ rfl (T7.out.alloc _) ⟨w7.heap.size, 0, none⟩ 1 1 [.int .i64 0] rfl rfl (one_at _ _ _) (ints_oneCell .i64 [0]) (by decide) (by unfold maxLen; omega) (by omega) (by simp; omega) (w7.heap.size + 1) (by simp) ?_; intro g2 cap2 w8 ho2 hg2 at2 lt2; have s8 := hg2.size; simp at s8; have c8 := own_cell ho2 (j := ks.length) (snoc_at (by rw [List.length_map]; exact HLE.out)); have ca8 : w8.cell? ⟨w.heap.size, 2, none⟩ = some (.int .i64 after) := (by rw [(H6.out.push_chg hg1 hg2).cell (by omega) (by omega)]; exact ca6); obtain ⟨c8, f8, b8, l8⟩ := c8))
                  go_meet
                  have i0 := inv_new HT.out.inv HLE.out (fun i j => (HT.out.tb i j).1) key
                  have i1 : Inv (ks ++ [key]) (ts ++ [0]) dd n' W' (fun i j => dn dd (bump T W' key n' i j)) := fun q k2 t hk ht i hi => dn_le (by have := i0 q k2 t hk ht i hi; simp [dn] at this; exact Int.le_trans this (bump_ge _ _ _ _ _ _))
                  have hp := H6.out.push hg1 ho1 at1 hg2 ho2 at2 i1 (by omega) HX.out.2 (by omega)
                  have t0 : (ts ++ [0])[ks.length]? = some 0 := by rw [← HLE.out]; simp
                  have i2 := inv_hit i0 (q := ks.length) (key := key) (by simp) t0 dd
                  exact ⟨ks ++ [key], (ts ++ [0]).set ks.length (0 + 1), _, A + 1, A + 1 == after, rfl, rfl, by omega, by simp; omega, by simp [World.setCell]; omega, by
                    rw [← DD.out]
                    exact hp.hit (by simp; omega) _ i2 (bd_set (bd_snoc HT.out.sb (by omega)) (by omega) t0) (Int.le_refl _)⟩
                · have hlq := (List.getElem?_eq_some_iff.1 hq).1
                  obtain ⟨t, ht⟩ := some_at (show q < ts.length by rw [HLE.out]; exact hlq)
                  obtain ⟨gt, hta, hgb, hgl, ct, cf⟩ := TAT.out q _ (map_at ht)
                  subst hta
                  have hlt2 : q < ts.length := (List.getElem?_eq_some_iff.1 ht).1
                  have hb := H6.out.sb t (mem_at ht)
                  have HQ := Lib.hid hq
                  have HTQ := Lib.hid ht
                  clear hq ht
                  go_wp2_with fail
                  go_meet
                  exact ⟨ks, ts.set q (t + 1), _, A + 1, A + 1 == after, rfl, rfl, by omega, by omega, by simp [World.setCell]; omega, by
                    rw [← DD.out]
                    exact H6.out.hit hlt2 _ (inv_hit HT.out.inv HQ.out HTQ.out dd) (bd_set HT.out.sb (by omega) HTQ.out) (Int.le_refl _)⟩
          by_cases q1 : kd.tmod 3 = 1
          · have b0 : (kd.tmod 3 == 0) = false := by simp [q1]
            have b1 : (kd.tmod 3 == 1) = true := by simp [q1]
            clear q0 q1
            go_wp2_with fail
            refine name_calls ?_; intro W5 h5
            have HT5 : Hid (Tr w2 W5 w2.heap.size g cap n' W' R after A T w4.heap.size w2.heap.size u7 u8 ks ts false k) := by subst h5; exact HT.out.keep (by repeat (first | with_reducible exact Chg.refl _ _ | with_reducible assumption | with_reducible refine Chg.drewN ?_ _ | with_reducible refine Chg.drew ?_ | with_reducible refine Chg.alloc ?_ _ | with_reducible refine Chg.setCell ?_ (by first | (left; rfl) | (right; exact Nat.le_refl _) | (right; simp; done) | (right; omega) | (right; simp at *; omega) | (simp at *; omega)) _ | with_reducible refine Chg.trans ?_ (by with_reducible assumption) (by intro i hi hT; first | exact hT | exact False.elim hT | omega | (simp at *; omega))))
            have z5 : wr.heap.size < W5.heap.size := by subst h5; simp
            clear h5
            refine (age_any _ _ _ _ _ _ _ _ _ _ HT5.out.sk (fun i j => by have := HT.out.tb i j; omega)).mono ?_; rintro e w6 ⟨rfl, hs, hc⟩
            have HT6 := HT5.out.turn hc hs (inv_age HT5.out.inv) (M' := k + 1) (fun i j => by have := HT5.out.tb i j; unfold halve; omega) (by omega)
            have H6 := Lib.hid HT6
            have z6 := hc.size
            clear hs hc HT6
            go_wp2_with fail
            go_meet
            exact ⟨ks, ts, _, A, true, rfl, rfl, by omega, by omega, by omega, H6.out⟩
          · have b0 : (kd.tmod 3 == 0) = false := by simpa using q0
            have b1 : (kd.tmod 3 == 1) = false := by simpa using q1
            clear q0 q1
            go_wp2_with fail
            go_meet
            exact ⟨ks, ts, T, A, false, rfl, rfl, by omega, by omega, by simp; omega, (HT.out.weak (by omega)).keep (by repeat (first | with_reducible exact Chg.refl _ _ | with_reducible assumption | with_reducible refine Chg.drewN ?_ _ | with_reducible refine Chg.drew ?_ | with_reducible refine Chg.alloc ?_ _ | with_reducible refine Chg.setCell ?_ (by first | (left; rfl) | (right; exact Nat.le_refl _) | (right; simp; done) | (right; omega) | (right; simp at *; omega) | (simp at *; omega)) _ | with_reducible refine Chg.trans ?_ (by with_reducible assumption) (by intro i hi hT; first | exact hT | exact False.elim hT | omega | (simp at *; omega))))⟩
        case rest =>
          clear ca e0 e1 HT hkl
          obtain ⟨ks, ts, T, A', d, rfl, rfl, hA2, hkl, zc, HT⟩ := hcut
          cases d
          · have HT : Hid (Tr w2 wc w2.heap.size g cap n' W' R after A' T w4.heap.size w2.heap.size u7 u8 ks ts false (k + 1)) := HT.out
            obtain ⟨ka, kcap, rfl, _, _, kat⟩ := own_form HT.out.ko
            obtain ⟨ta, tcap, rfl, _, _, tat⟩ := own_form HT.out.tw
            have KAT := Lib.hid kat
            have TAT := Lib.hid tat
            have TBD : Hid (∀ i j, 0 ≤ T i j ∧ T i j ≤ 9223372036854775807) := fun i j => by have := HT.out.tb i j; omega
            have hle := HT.out.len
            have HLE := Lib.hid hle
            clear kat tat hle
            go_wp2_with fail
            go_loopw [124] (fun i wo => ∃ j : Nat, j ≤ ks.length ∧ i = .int .i64 (↑j : Int) ∧ ∃ q, wo = World.drewN wc q) (fun i _ => ks.length - (intOf i).toNat)
            case atStart => exact ⟨0, by omega, rfl, 0, rfl⟩
            case round =>
              obtain ⟨j, hj1, rfl, q, rfl⟩ := hrel
              by_cases hjt : j < ks.length
              · obtain ⟨x, hx⟩ := some_at hjt
                obtain ⟨t, ht⟩ := some_at (show j < ts.length by rw [HLE.out]; exact hjt)
                obtain ⟨gk, hka, _, _, ck, _⟩ := KAT.out j _ (map_at hx)
                obtain ⟨gt, hta, _, _, ct, _⟩ := TAT.out j _ (map_at ht)
                subst hka hta
                have hlt2 : j < ts.length := (List.getElem?_eq_some_iff.1 ht).1
                have hlt3 : ((j : Int)) < ts.length := by omega
                have hmin := leastF_ge (fun i hi => by have := HT.out.inv j x t hx ht i hi; simpa [dn] using this) n' (by have := HT.out.sk.size; omega) (Nat.le_refl _)
                have hd : decide (leastF T W' x n' < t) = false := by simp; omega
                have HKX := Lib.hid (HT.out.kb x (mem_at hx))
                clear hx ht hmin
                go_wp2_with fail
                go_quiet ((first | (go_at_call 17; first | exact quiet_qa (count_any _ _ _ _ _ _ _ _ _ x _ (HT.out.sk.drewN _) HKX.out TBD.out) | exact quiet_q (count_any _ _ _ _ _ _ _ _ _ x _ (HT.out.sk.drewN _) HKX.out TBD.out))))
                go_wp2
                go_roundw
                case rel => exact ⟨j + 1, by omega, by go_num, _, rfl⟩
                case measure => simp [intOf]; omega
              · obtain rfl : j = ks.length := by omega
                go_wp2
                go_roundw
                case rel => exact ⟨k + 1, ks, ts, T, A', by omega, by go_num, rfl, by omega, by omega, by simp; omega, HT.out.keep (by repeat (first | with_reducible exact Chg.refl _ _ | with_reducible assumption | with_reducible refine Chg.drewN ?_ _ | with_reducible refine Chg.drew ?_ | with_reducible refine Chg.alloc ?_ _ | with_reducible refine Chg.setCell ?_ (by first | (left; rfl) | (right; exact Nat.le_refl _) | (right; simp; done) | (right; omega) | (right; simp at *; omega) | (simp at *; omega)) _ | with_reducible refine Chg.trans ?_ (by with_reducible assumption) (by intro i hi hT; first | exact hT | exact False.elim hT | omega | (simp at *; omega))))⟩
                case measure => simp [intOf]; omega
          · have HT : Hid (Tr w2 wc w2.heap.size g cap n' W' R after 0 T w4.heap.size w2.heap.size u7 u8 ks ts true (k + 1)) := HT.out
            obtain ⟨ta, tcap, hta0, _, _, _⟩ := own_form HT.out.tw
            subst hta0
            have hle := HT.out.len
            have HLE := Lib.hid hle
            clear hle
            have htl : ts.length ≤ 100 := by rw [HLE.out]; omega
            go_wp2_with fail
            go_loopw [112] (fun i wo => ∃ j : Nat, j ≤ ts.length ∧ i = .int .i64 (↑j : Int) ∧ Hid (wo.ownsRow w4.heap.size 3 1 (.slice ta ts.length tcap) ts.length ((upto (fun t => t / 2) ts j).map (.int .i64))) ∧ Hid (Chg (fun c => (Value.slice ta ts.length tcap).ownBlock = some c) wc wo)) (fun i _ => ts.length - (intOf i).toNat)
            case atStart => exact ⟨0, by omega, rfl, by rw [upto_zero]; exact HT.out.tw, Chg.refl _ _⟩
            case round =>
              obtain ⟨j, hj1, rfl, HO, HG⟩ := hrel
              by_cases hjt : j < ts.length
              · obtain ⟨t, ht⟩ := some_at hjt
                obtain ⟨_, _, e1, _, _, tat⟩ := own_form HO.out
                obtain ⟨gt, hta, _, _, ct, cf⟩ := tat j _ (map_at (upto_at _ ht))
                injection e1 with e1
                rw [← e1] at hta
                subst hta
                have hb := HT.out.sb t (mem_at ht)
                have HQ := Lib.hid ht
                clear ht tat e1
                go_wp2
                go_roundw
                case rel => exact ⟨j + 1, by omega, by go_num, by rw [← upto_set _ HQ.out, ← put_map]; exact own_put HO.out (by simp [upto_len]; omega) _, HG.out.setCell (p := ⟨gt, j, none⟩) (.inl rfl) _⟩
                case measure => simp [intOf]; omega
              · obtain rfl : j = ts.length := by omega
                have hn := HT.out.halved (by have := HO.out; rw [upto_all] at this; exact this) HG.out
                have HN := Lib.hid hn
                have zo : w4.heap.size ≤ wr.heap.size := Nat.le_trans zc HG.out.size
                clear hn HO HG HT
                have HT := HN
                obtain ⟨ka, kcap, rfl, _, _, kat⟩ := own_form HT.out.ko
                obtain ⟨ta2, tcap2, hta2, _, _, tat⟩ := own_form HT.out.tw
                injection hta2 with hta2 hta3 hta4
                subst hta2
                clear hta3 hta4
                have KAT := Lib.hid kat
                have TAT := Lib.hid tat
                have TBD : Hid (∀ i j, 0 ≤ T i j ∧ T i j ≤ 9223372036854775807) := fun i j => by have := HT.out.tb i j; omega
                have hle := HT.out.len
                have HLE := Lib.hid hle
                clear kat tat hle
                go_wp2_with fail
                go_loopw [124] (fun i wo => ∃ j : Nat, j ≤ ks.length ∧ i = .int .i64 (↑j : Int) ∧ ∃ q, wo = World.drewN wr q) (fun i _ => ks.length - (intOf i).toNat)
                case atStart => exact ⟨0, by omega, rfl, 0, rfl⟩
                case round =>
                  obtain ⟨j, hj1, rfl, q, rfl⟩ := hrel
                  by_cases hjt : j < ks.length
                  · obtain ⟨x, hx⟩ := some_at hjt
                    obtain ⟨t, ht⟩ := some_at (l := ts.map fun t => t / 2) (show j < (ts.map fun t => t / 2).length by rw [HLE.out]; exact hjt)
                    obtain ⟨gk, hka, _, _, ck, _⟩ := KAT.out j _ (map_at hx)
                    obtain ⟨gt, hta, _, _, ct, _⟩ := TAT.out j _ (map_at ht)
                    subst hka hta
                    have hlt2 : j < ts.length := by have := (List.getElem?_eq_some_iff.1 ht).1; simpa using this
                    have hlt3 : ((j : Int)) < ts.length := by omega
                    have hmin := leastF_ge (fun i hi => by have := HT.out.inv j x t hx ht i hi; simpa [dn] using this) n' (by have := HT.out.sk.size; omega) (Nat.le_refl _)
                    have hd : decide (leastF T W' x n' < t) = false := by simp; omega
                    have HKX := Lib.hid (HT.out.kb x (mem_at hx))
                    clear hx ht hmin
                    go_wp2_with fail
                    go_quiet ((first | (go_at_call 17; first | exact quiet_qa (count_any _ _ _ _ _ _ _ _ _ x _ (HT.out.sk.drewN _) HKX.out TBD.out) | exact quiet_q (count_any _ _ _ _ _ _ _ _ _ x _ (HT.out.sk.drewN _) HKX.out TBD.out))))
                    go_wp2
                    go_roundw
                    case rel => exact ⟨j + 1, by omega, by go_num, _, rfl⟩
                    case measure => simp [intOf]; omega
                  · obtain rfl : j = ks.length := by omega
                    go_wp2
                    go_roundw
                    case rel => exact ⟨k + 1, ks, _, T, 0, by omega, by go_num, rfl, by omega, by omega, by simp; omega, HT.out.keep (by repeat (first | with_reducible exact Chg.refl _ _ | with_reducible assumption | with_reducible refine Chg.drewN ?_ _ | with_reducible refine Chg.drew ?_ | with_reducible refine Chg.alloc ?_ _ | with_reducible refine Chg.setCell ?_ (by first | (left; rfl) | (right; exact Nat.le_refl _) | (right; simp; done) | (right; omega) | (right; simp at *; omega) | (simp at *; omega)) _ | with_reducible refine Chg.trans ?_ (by with_reducible assumption) (by intro i hi hT; first | exact hT | exact False.elim hT | omega | (simp at *; omega))))⟩
                    case measure => simp [intOf]; omega
end Go.Proofs.Ytmkgmofkfgfdhaa
