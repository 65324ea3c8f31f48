/- Hashes; the reference's small functions; the chapter's example. Laws of sketch: Hashes, New, Alone. Laws of sketch: Alone, Order. Law of sketch: Order. Law of sketch: Truth. The reference's sketch: the walks of its functions. The reference's sketch: cell, Age, Add, Count. The reference's sketch with blocks of its own alone: Add, told so that another structure's memory beside it stays. -/
import Derived.Test.YtdoepjokaekckaaSn
import Derived.Test.YtdoepjokaekckaaOpen
import Derived.Test.YtdoepjokaekckaaOwn
namespace Go.Proofs.Ytdoepjokaekckaa.Sk
set_option linter.unusedVariables false
open Go.RowKit

def hStep (h c : Int) : Int := IntKind.u64.wrap (bits .xor .u64 h c * 1099511628211)
/-- The hash of the first k bytes. -/
def hashF (l : List UInt8) : Int := l.foldl (fun h c => hStep h (c.toNat : Int)) 14695981039346656037

theorem wrap_byte (c : UInt8) : IntKind.u64.wrap (c.toNat : Int) = (c.toNat : Int) := by have := c.toNat_lt; exact IntWalk.u64_in _ (by omega)
theorem hash_snoc (l : List UInt8) (c : UInt8) : hashF (l ++ [c]) = hStep (hashF l) (c.toNat : Int) := by simp [hashF]
theorem take_snoc (s : ByteArray) (k : Nat) (h : k < s.size) : s.data.toList.take (k + 1) = s.data.toList.take k ++ [s[k]] := by
  rw [List.take_succ_eq_append_getElem (by simpa using h)]; rfl

theorem leastF_congr {T T' : Nat → Nat → Int} {W n : Nat} (h : ∀ i, i < n → ∀ j, j < W → T i j = T' i j) (hW : 0 < W) (key : Int) : ∀ k, k ≤ n → leastF T W key k = leastF T' W key k
  | 0, _ => rfl
  | 1, hk => h 0 (by omega) _ (mixF_lt _ _ _ hW)
  | k + 2, hk => by
    have e := leastF_congr h hW key (k + 1) (by omega)
    have e2 := h (k + 1) (by omega) _ (mixF_lt key (k + 1) W hW)
    simp only [leastF, e, e2]

/-- A key alone: its counter in each row holds c, all others 0. -/
def lone (key : Int) (W n : Nat) (c : Int) : Nat → Nat → Int := fun i j => if i < n ∧ j = mixF key i W then c else 0
theorem bump_lone (key : Int) (W n : Nat) (c : Int) : bump (lone key W n c) W key n = lone key W n (c + 1) := by
  funext i j; unfold bump lone; split <;> simp
theorem halve_lone (key : Int) (W n : Nat) (c : Int) : halve (lone key W n c) = lone key W n (c / 2) := by
  funext i j; unfold halve lone; split <;> simp
theorem lone_zero (key : Int) (W n : Nat) : lone key W n 0 = fun _ _ => 0 := by funext i j; unfold lone; split <;> rfl
theorem least_lone (key : Int) (W n : Nat) (c : Int) : ∀ k, 0 < k → k ≤ n → leastF (lone key W n c) W key k = c
  | 0, h, _ => by omega
  | 1, _, hk => by simp [leastF, lone]; omega
  | k + 2, _, hk => by
    have e := least_lone key W n c (k + 1) (by omega) (by omega)
    have e2 : lone key W n c (k + 1) (mixF key (k + 1) W) = c := by simp [lone]; omega
    simp only [leastF, e, e2]; split <;> rfl
theorem lone_bd (key : Int) (W n : Nat) (c : Int) (h : 0 ≤ c ∧ c ≤ 4611686018427387904) (i j : Nat) : 0 ≤ lone key W n c i j ∧ lone key W n c i j ≤ 4611686018427387904 := by unfold lone; split <;> omega

end Go.Proofs.Ytdoepjokaekckaa.Sk
namespace Go.Proofs.Ytdoepjokaekckaa.Sk
set_option linter.unusedVariables false
open Go.RowKit

theorem tr_own {w a b : World} {B b0 n : Nat} {R : Nat → Nat} (h1 : Chg (fun c => B ≤ c) w a) (h2 : Chg (SkS b0 n R) a b) (hb : B ≤ b0) (hR : ∀ i, i < n → B ≤ R i) : Chg (fun c => B ≤ c) w b :=
  h1.trans h2 (fun i _ hi => by
    rcases hi with rfl | ⟨j, hj, rfl⟩
    · exact hb
    · exact hR j hj)
theorem own_done {w a : World} (h : Chg (fun c => w.heap.size ≤ c) w a) : Chg (fun _ => False) w a := h.mono (fun i hi hc => by omega)

/-- How wide a sketch is made in the laws. -/
def wid (W : Int) : Int := if 64 < W then W % 64 + 1 else W

end Go.Proofs.Ytdoepjokaekckaa.Sk
namespace Go.Proofs.Ytdoepjokaekckaa.Sk
set_option linter.unusedVariables false
open Go.RowKit


theorem wid_bd (W : Int) (h : 1 ≤ wid W) : wid W ≤ 64 := by unfold wid at *; split at h <;> split <;> omega

end Go.Proofs.Ytdoepjokaekckaa.Sk
namespace Go.Proofs.Ytdoepjokaekckaa.Sk
set_option linter.unusedVariables false
open Go.RowKit

/-- The counters behind a list of keys, one after the other. -/
def tab (n W : Nat) (l : List Int) : Nat → Nat → Int := fun i j => if i < n then ((l.filter fun k => mixF k i W == j).length : Int) else 0
theorem tab_nil (n W : Nat) : tab n W [] = fun _ _ => 0 := by funext i j; simp [tab]
theorem bump_tab (n W : Nat) (l : List Int) (key : Int) : bump (tab n W l) W key n = tab n W (l ++ [key]) := by
  funext i j
  unfold bump tab
  by_cases hi : i < n
  · simp only [hi, if_true, List.filter_append, List.length_append]
    by_cases hj : j = mixF key i W
    · simp [hj]
    · have : ¬ mixF key i W = j := fun e => hj e.symm
      simp [hj, this]
  · simp [hi]
theorem tab_perm (n W : Nat) {l l' : List Int} (h : l.Perm l') : tab n W l = tab n W l' := by
  funext i j
  unfold tab
  rw [(h.filter _).length_eq]
theorem tab_bd (n W : Nat) (l : List Int) (h : l.length ≤ 1000) (i j : Nat) : 0 ≤ tab n W l i j ∧ tab n W l i j ≤ 4611686018427387904 := by
  unfold tab
  have := List.length_filter_le (fun k => mixF k i W == j) l
  split <;> omega

theorem turn_perm (l : List Int) (t : Nat) : ((List.range l.length).map fun i => l.getD ((l.length - 1 - i + t) % l.length) 0).Perm l := by
  by_cases h0 : l.length = 0
  · have : l = [] := List.eq_nil_of_length_eq_zero h0
    subst this; simp
  have hp : 0 < l.length := by omega
  have e1 : ((List.range l.length).map fun i => l.getD ((l.length - 1 - i + t) % l.length) 0) = ((List.range l.length).map fun i => l.getD ((i + t) % l.length) 0).reverse := by
    apply List.ext_getElem
    · simp
    · intro i h1 h2
      simp at h1
      simp [List.getElem_reverse]
  rw [e1]
  refine (List.reverse_perm _).trans ?_
  have ht : t % l.length < l.length := Nat.mod_lt _ hp
  have e2 : ((List.range l.length).map fun i => l.getD ((i + t) % l.length) 0) = l.drop (t % l.length) ++ l.take (t % l.length) := by
    apply List.ext_getElem
    · simp; omega
    · intro i h1 h2
      simp at h1
      have em : (i + t) % l.length = if i + t % l.length < l.length then i + t % l.length else i + t % l.length - l.length := by
        rw [Nat.add_mod, Nat.mod_eq_of_lt h1]
        split
        · rename_i h; exact Nat.mod_eq_of_lt h
        · rename_i h
          rw [Nat.mod_eq_sub_mod (by omega)]
          exact Nat.mod_eq_of_lt (by omega)
      simp only [List.getElem_map, List.getElem_range]
      rw [em]
      by_cases hc : i + t % l.length < l.length
      · rw [if_pos hc, List.getElem_append_left (by simp; omega)]
        simp [List.getD, hc, Nat.add_comm]
      · rw [if_neg hc, List.getElem_append_right (by simp; omega)]
        have hq : i + t % l.length - l.length < l.length := by omega
        simp [List.getD, hq]
        congr 1
        omega
  rw [e2]
  exact List.perm_append_comm.trans (by rw [List.take_append_drop])

/-- The keys as the second sketch is told them. -/
def turned (l : List Int) (t : Nat) : List Int := (List.range l.length).map fun i => l.getD ((l.length - 1 - i + t) % l.length) 0
theorem turned_len (l : List Int) (t : Nat) : (turned l t).length = l.length := by simp [turned]
theorem turned_at (l : List Int) (t k : Nat) (h : k < l.length) : (turned l t)[k]? = some (l.getD ((l.length - 1 - k + t) % l.length) 0) := by simp [turned, h]
theorem take_at {l : List Int} {k : Nat} {x : Int} (h : l[k]? = some x) : l.take (k + 1) = l.take k ++ [x] := by
  rw [List.take_add_one, h]; rfl
theorem mem_at {l : List Int} {k : Nat} {x : Int} (h : l[k]? = some x) : x ∈ l := List.mem_of_getElem? h

theorem two_tr {w a b : World} {B b0 n : Nat} {R : Nat → Nat} (h1 : Chg (fun c => B ≤ c) w a) (h2 : Chg (SkS b0 n R) a b) (hb : B ≤ b0) (hR : ∀ i, i < n → B ≤ R i) : Chg (fun c => B ≤ c) w b := tr_own h1 h2 hb hR

end Go.Proofs.Ytdoepjokaekckaa.Sk
namespace Go.Proofs.Ytdoepjokaekckaa.Sk
set_option linter.unusedVariables false
open Go.RowKit

theorem infoKey : (Try.prog.info? 32).map (fun i => (i.zero, i.size, i.bytes)) = some (some (.int .u64 0), 1, 8) := by kernel_rfl
theorem infoNum : (Try.prog.info? 3).map (fun i => (i.zero, i.size, i.bytes)) = some (some (.int .i64 0), 1, 8) := by kernel_rfl

theorem leastF_ge {T : Nat → Nat → Int} {W : Nat} {key t : Int} {n : Nat} (h : ∀ i, i < n → t ≤ T i (mixF key i W)) : ∀ k, 0 < k → k ≤ n → t ≤ leastF T W key k
  | 0, h0, _ => by omega
  | 1, _, hk => h 0 (by omega)
  | k + 2, _, hk => by
    have e := leastF_ge h (k + 1) (by omega) (by omega)
    have e2 := h (k + 1) (by omega)
    simp only [leastF]; split <;> assumption

/-- The number of a truth, when it is still to be halved. -/
def dn (d : Bool) (t : Int) : Int := if d then t / 2 else t
theorem dn_le {d : Bool} {a b : Int} (h : a ≤ b) : dn d a ≤ dn d b := by unfold dn; split <;> omega
theorem dn_bd {d : Bool} {a M : Int} (h : 0 ≤ a ∧ a ≤ M) : 0 ≤ dn d a ∧ dn d a ≤ M := by unfold dn; split <;> omega

/-- No count is below the truth. -/
def Inv (ks ts : List Int) (d : Bool) (n W : Nat) (T : Nat → Nat → Int) : Prop := ∀ (q : Nat) key t, ks[q]? = some key → ts[q]? = some t → ∀ i, i < n → dn d t ≤ T i (mixF key i W)
def Bd (ts : List Int) (M : Int) : Prop := ∀ t ∈ ts, 0 ≤ t ∧ t ≤ M

theorem bump_ge (T : Nat → Nat → Int) (W : Nat) (key : Int) (n i j : Nat) : T i j ≤ bump T W key n i j := by unfold bump; split <;> omega
theorem bump_hit (T : Nat → Nat → Int) (W : Nat) (key : Int) (n i : Nat) (h : i < n) : bump T W key n i (mixF key i W) = T i (mixF key i W) + 1 := by simp [bump, h]
theorem inv_hit {ks ts : List Int} {n W : Nat} {T : Nat → Nat → Int} (h : Inv ks ts false n W T) {q : Nat} {key t : Int} (hk : ks[q]? = some key) (ht : ts[q]? = some t) (d : Bool) : Inv ks (ts.set q (t + 1)) d n W (fun i j => dn d (bump T W key n i j)) := by
  intro q' key' t' hk' ht' i hi
  refine dn_le ?_
  by_cases e : q' = q
  · subst e
    have e1 : key' = key := by rw [hk] at hk'; exact (Option.some.inj hk').symm
    subst e1
    rw [List.getElem?_set_self (List.getElem?_eq_some_iff.1 ht).1] at ht'
    have e2 := Option.some.inj ht'
    rw [bump_hit _ _ _ _ _ hi]
    have := h q' key' t hk ht i hi
    simp [dn] at this
    omega
  · rw [List.getElem?_set_ne (fun x => e x.symm)] at ht'
    have := h q' key' t' hk' ht' i hi
    simp [dn] at this
    exact Int.le_trans this (bump_ge _ _ _ _ _ _)
theorem inv_new {ks ts : List Int} {n W : Nat} {T : Nat → Nat → Int} (h : Inv ks ts false n W T) (hl : ts.length = ks.length) (hT : ∀ i j, 0 ≤ T i j) (key : Int) : Inv (ks ++ [key]) (ts ++ [0]) false n W T := by
  intro q key' t hk ht i hi
  rcases Nat.lt_or_ge q ks.length with hq | hq
  · rw [List.getElem?_append_left hq] at hk
    rw [List.getElem?_append_left (by omega)] at ht
    exact h q key' t hk ht i hi
  · have hq2 := (List.getElem?_eq_some_iff.1 ht).1
    simp at hq2
    rw [List.getElem?_append_right (by omega)] at ht
    have : q - ts.length = 0 := by omega
    rw [this] at ht
    simp at ht
    subst ht
    simp [dn]
    exact hT _ _
theorem inv_age {ks ts : List Int} {n W : Nat} {T : Nat → Nat → Int} (h : Inv ks ts false n W T) : Inv ks ts true n W (halve T) := by
  intro q key t hk ht i hi
  have := h q key t hk ht i hi
  simp [dn] at this
  simp [dn, halve]
  omega
theorem inv_done {ks ts : List Int} {n W : Nat} {T : Nat → Nat → Int} (h : Inv ks ts true n W T) : Inv ks (ts.map fun t => t / 2) false n W T := by
  intro q key t hk ht i hi
  rw [List.getElem?_map] at ht
  cases e : ts[q]? with
  | none => rw [e] at ht; cases ht
  | some u =>
    rw [e] at ht
    simp at ht
    have := h q key u hk e i hi
    simp [dn] at this
    simp [dn]
    omega
theorem bd_mono {ts : List Int} {M M' : Int} (h : Bd ts M) (hm : M ≤ M') : Bd ts M' := fun t ht => by have := h t ht; omega
theorem bd_set {ts : List Int} {M : Int} (h : Bd ts M) (hm : 0 ≤ M) {q : Nat} {t : Int} (ht : ts[q]? = some t) : Bd (ts.set q (t + 1)) (M + 1) := fun x hx => by
  have := h t (mem_at ht)
  rcases List.mem_or_eq_of_mem_set hx with h1 | h1
  · have := h x h1; omega
  · omega
theorem bd_snoc {ts : List Int} {M : Int} (h : Bd ts M) (hm : 0 ≤ M) : Bd (ts ++ [0]) M := fun x hx => by
  rcases List.mem_append.1 hx with h1 | h1
  · exact h x h1
  · simp at h1; omega
theorem bd_half {ts : List Int} {M : Int} (h : Bd ts M) : Bd (ts.map fun t => t / 2) M := fun x hx => by
  obtain ⟨t, h1, h2⟩ := List.mem_map.1 hx
  have := h t h1; omega

/-- The first j of a list turned. -/
def upto (f : Int → Int) (l : List Int) (j : Nat) : List Int := (l.take j).map f ++ l.drop j
theorem upto_zero (f : Int → Int) (l : List Int) : upto f l 0 = l := by simp [upto]
theorem upto_all (f : Int → Int) (l : List Int) : upto f l l.length = l.map f := by simp [upto]
theorem upto_len (f : Int → Int) (l : List Int) (j : Nat) : (upto f l j).length = l.length := by simp [upto]; omega
theorem upto_at (f : Int → Int) {l : List Int} {j : Nat} {x : Int} (h : l[j]? = some x) : (upto f l j)[j]? = some x := by
  have hl := (List.getElem?_eq_some_iff.1 h).1
  unfold upto
  rw [List.getElem?_append_right (by simp; omega)]
  simp [Nat.min_eq_left (Nat.le_of_lt hl), h]
theorem upto_set (f : Int → Int) {l : List Int} {j : Nat} {x : Int} (h : l[j]? = some x) : (upto f l j).set j (f x) = upto f l (j + 1) := by
  have hl := (List.getElem?_eq_some_iff.1 h).1
  have hx := (List.getElem?_eq_some_iff.1 h).2
  unfold upto
  rw [take_at h, List.drop_eq_getElem_cons hl, hx]
  rw [List.set_append_right _ _ (by simp; omega)]
  simp [Nat.min_eq_left (Nat.le_of_lt hl)]

/-- What stands behind k calls: the sketch, the law's keys and truths. -/
structure Tr (w0 w : World) (b g cap n W : Nat) (R : Nat → Nat) (after A : Int) (T : Nat → Nat → Int) (B z : Nat) (kv tv : Value) (ks ts : List Int) (d : Bool) (M : Int) : Prop where
  sk : Sk w b g cap n W R after A T
  ko : w.ownsRow B 32 1 kv ks.length (ks.map (.int .u64))
  tw : w.ownsRow B 3 1 tv ts.length (ts.map (.int .i64))
  len : ts.length = ks.length
  ne : ∀ c, kv.ownBlock = some c → tv.ownBlock ≠ some c
  inv : Inv ks ts d n W T
  tb : ∀ i j, 0 ≤ T i j ∧ T i j ≤ M
  sb : Bd ts M
  kb : ∀ k ∈ ks, 0 ≤ k ∧ k ≤ 18446744073709551615
  far : b < B ∧ g < B ∧ (∀ i, i < n → R i < B) ∧ z ≤ b ∧ (∀ i, i < n → z ≤ R i)
  chg : Chg (fun c => z ≤ c) w0 w
theorem Tr.keep {w0 w w' : World} {b g cap n W : Nat} {R : Nat → Nat} {after A : Int} {T : Nat → Nat → Int} {B z : Nat} {kv tv : Value} {ks ts : List Int} {d : Bool} {M : Int}
    (h : Tr w0 w b g cap n W R after A T B z kv tv ks ts d M) (c : Chg (fun _ => False) w w') : Tr w0 w' b g cap n W R after A T B z kv tv ks ts d M :=
  ⟨h.sk.chg c id id (fun _ _ => id), own_chg h.ko c (fun _ _ _ _ => id), own_chg h.tw c (fun _ _ _ _ => id), h.len, h.ne, h.inv, h.tb, h.sb, h.kb, h.far, h.chg.trans c (fun _ _ h => h.elim)⟩
/-- The sketch alone has turned. -/
theorem Tr.turn {w0 w w' : World} {b g cap n W : Nat} {R : Nat → Nat} {after A A' : Int} {T T' : Nat → Nat → Int} {B z : Nat} {kv tv : Value} {ks ts : List Int} {d d' : Bool} {M M' : Int}
    (h : Tr w0 w b g cap n W R after A T B z kv tv ks ts d M) (c : Chg (SkS b n R) w w') (hs : Sk w' b g cap n W R after A' T') (hi : Inv ks ts d' n W T') (ht : ∀ i j, 0 ≤ T' i j ∧ T' i j ≤ M') (hm : M ≤ M') : Tr w0 w' b g cap n W R after A' T' B z kv tv ks ts d' M' := by
  have f := h.far
  have nn : ∀ g, B ≤ g → ¬ SkS b n R g := fun g hg hs => by
    rcases hs with e | ⟨i, hi, e⟩
    · omega
    · have := f.2.2.1 i hi; omega
  exact ⟨hs, own_chg h.ko c (fun g hg _ _ => nn g hg), own_chg h.tw c (fun g hg _ _ => nn g hg), h.len, h.ne, hi, ht, bd_mono h.sb hm, h.kb, f, tr_own h.chg c f.2.2.2.1 f.2.2.2.2⟩

section
variable {w0 w w6 w7 w8 : World} {b g cap n W : Nat} {R : Nat → Nat} {after A : Int} {T : Nat → Nat → Int} {B z : Nat} {kv tv : Value} {ks ts : List Int} {d : Bool} {M : Int}
theorem Tr.nn (h : Tr w0 w b g cap n W R after A T B z kv tv ks ts d M) : ∀ c, B ≤ c → ¬ SkS b n R c := fun c hc hs => by
  rcases hs with e | ⟨i, hi, e⟩
  · have := h.far; omega
  · have := h.far.2.2.1 i hi; omega
theorem Tr.hit {g' cap' m : Nat} (h : Tr w0 w b g cap n W R after A T B z kv (.slice (some ⟨g', 0, none⟩) m cap') ks ts d M) {q : Nat} (hq : q < ts.length) (u : Int) (hi : Inv ks (ts.set q u) d n W T) {M' : Int} (hb : Bd (ts.set q u) M') (hM : M ≤ M') :
    Tr w0 (w.setCell ⟨g', q, none⟩ (.int .i64 u)) b g cap n W R after A T B z kv (.slice (some ⟨g', 0, none⟩) m cap') ks (ts.set q u) d M' := by
  have hg := own_below h.tw (c := g') rfl
  have hm : m = ts.length := by
    obtain ⟨a, c, e, _⟩ := own_form h.tw
    cases e; rfl
  subst hm
  have c : Chg (fun c => c = g') w (w.setCell ⟨g', q, none⟩ (.int .i64 u)) := Chg.setCell (S := fun c => c = g') (Chg.refl _ w) (p := ⟨g', q, none⟩) (.inl rfl) _
  have f := h.far
  refine ⟨h.sk.chg c (by omega) (by omega) (fun i hi => by have := f.2.2.1 i hi; omega), own_chg h.ko c (fun c _ _ hc e => h.ne c hc (by rw [e]; rfl)), ?_, by rw [List.length_set]; exact h.len, h.ne, hi, fun i j => by have := h.tb i j; omega, hb, h.kb, f, h.chg.trans c (fun i _ e => by have := hg.1; have := f.1; omega)⟩
  rw [List.length_set, ← put_map]
  exact own_put h.tw (by simpa using hq) _
theorem Tr.push_chg {o1 o2 : Obj} (h : Tr w0 w6 b g cap n W R after A T B z kv tv ks ts d M) (hg1 : (w6.alloc o1).grownBy w7 kv.ownBlock) (hg2 : (w7.alloc o2).grownBy w8 tv.ownBlock) : Chg (fun c => B ≤ c) w6 w8 := by
  have c1 : Chg (fun c => B ≤ c) w6 w7 := ((Chg.refl _ w6).alloc o1).grown hg1 (fun k hk => .inl (own_below h.ko hk).1)
  exact (c1.alloc o2).grown hg2 (fun k hk => .inl (own_below h.tw hk).1)
theorem Tr.push {o1 o2 : Obj} {g1 cap1 g2 cap2 : Nat} {key : Int} (h : Tr w0 w6 b g cap n W R after A T B z kv tv ks ts d M)
    (hg1 : (w6.alloc o1).grownBy w7 kv.ownBlock) (ho1 : w7.ownsRow B 32 1 (.slice (some ⟨g1, 0, none⟩) (ks.length + 1) cap1) (ks.length + 1) (ks.map (.int .u64) ++ [.int .u64 key])) (at1 : kv.ownBlock = some g1 ∨ g1 = w6.heap.size + 1)
    (hg2 : (w7.alloc o2).grownBy w8 tv.ownBlock) (ho2 : w8.ownsRow B 3 1 (.slice (some ⟨g2, 0, none⟩) (ts.length + 1) cap2) (ts.length + 1) (ts.map (.int .i64) ++ [.int .i64 0])) (at2 : tv.ownBlock = some g2 ∨ g2 = w7.heap.size + 1)
    (hi : Inv (ks ++ [key]) (ts ++ [0]) d n W T) (hM : 0 ≤ M) (hk : 0 ≤ key ∧ key ≤ 18446744073709551615) (hB : B ≤ w6.heap.size) :
    Tr w0 w8 b g cap n W R after A T B z (.slice (some ⟨g1, 0, none⟩) (ks.length + 1) cap1) (.slice (some ⟨g2, 0, none⟩) (ts.length + 1) cap2) (ks ++ [key]) (ts ++ [0]) d M := by
  have f := h.far
  have s7 := hg1.size
  have s8 := hg2.size
  simp at s7 s8
  have l1 := own_below ho1 (c := g1) rfl
  have ne12 : g1 ≠ g2 := by
    rcases at2 with e | e
    · rcases at1 with e1 | e1
      · intro e2; subst e2; exact h.ne g1 e1 e
      · have := own_below h.tw e; omega
    · omega
  have c := h.push_chg hg1 hg2
  refine ⟨h.sk.chg c (by omega) (by omega) (fun i hi => by have := f.2.2.1 i hi; omega), ?_, ?_, by simp [h.len], ?_, hi, h.tb, bd_snoc h.sb hM, ?_, f, h.chg.trans c (fun i _ e => by have := f.1; omega)⟩
  · rw [List.length_append, ← map_snoc]
    refine own_block ho1 fun c hc => ?_
    have : c = g1 := by simpa [Value.ownBlock] using hc.symm
    subst this
    rw [hg2.block c (by simp; omega) (fun e => ?_)]
    · exact Below.heap_alloc w7 o2 c l1.2
    · rcases at1 with e1 | e1
      · exact h.ne c e1 e.symm
      · have := own_below h.tw e.symm; omega
  · rw [List.length_append, ← map_snoc]
    exact ho2
  · intro c hc
    have : c = g1 := by simpa [Value.ownBlock] using hc.symm
    subst this
    simp [Value.ownBlock]
    exact fun e => ne12 e.symm
  · intro k hk'
    rcases List.mem_append.1 hk' with h1 | h1
    · exact h.kb k h1
    · simp at h1; subst h1; exact hk
theorem Tr.weak {M' : Int} (h : Tr w0 w b g cap n W R after A T B z kv tv ks ts d M) (hm : M ≤ M') : Tr w0 w b g cap n W R after A T B z kv tv ks ts d M' :=
  ⟨h.sk, h.ko, h.tw, h.len, h.ne, h.inv, fun i j => by have := h.tb i j; omega, bd_mono h.sb hm, h.kb, h.far, h.chg⟩
theorem Tr.halved (h : Tr w0 w b g cap n W R after A T B z kv tv ks ts true M) (ho : w6.ownsRow B 3 1 tv ts.length ((ts.map fun t => t / 2).map (.int .i64))) (c : Chg (fun c => tv.ownBlock = some c) w w6) : Tr w0 w6 b g cap n W R after A T B z kv tv ks (ts.map fun t => t / 2) false M := by
  have f := h.far
  have nb : ∀ c, tv.ownBlock = some c → B ≤ c := fun c hc => (own_below h.tw hc).1
  exact ⟨h.sk.chg c (fun e => by have := nb _ e; omega) (fun e => by have := nb _ e; omega) (fun i hi e => by have := nb _ e; have := f.2.2.1 i hi; omega), own_chg h.ko c (fun c _ _ hc e => h.ne c hc e), by simpa using ho, by simp [h.len], h.ne, inv_done h.inv, h.tb, bd_half h.sb, h.kb, f,
    h.chg.trans c (fun i _ e => by have := nb _ e; omega)⟩
end

end Go.Proofs.Ytdoepjokaekckaa.Sk
namespace Go.Proofs.Ytdoepjokaekckaa.Sk
set_option linter.unusedVariables false
open Go.RowKit

theorem mx_bd (x : Int) : (0 ≤ mx1 x ∧ mx1 x ≤ 18446744073709551615) ∧ (0 ≤ mx2 x ∧ mx2 x ≤ 18446744073709551615) := ⟨bounds_u64 (wf_wrap _ _), bounds_u64 (wf_wrap _ _)⟩
theorem mx0_bd (key r : Int) : 0 ≤ mx0 key r ∧ mx0 key r ≤ 18446744073709551615 := bounds_u64 (wf_bits _ _ _ _)

set_option maxHeartbeats 400000 in
theorem rmix_any (key : Int) (r W : Nat) (w : World) (hr : r ≤ 8) (hW : 1 ≤ W ∧ W ≤ 65536) :
    Calls Try.prog 58 #[.int .u64 key, .int .i64 r, .int .i64 W] w fun e w' => e = .returned (.int .i64 (mixF key r W)) ∧ w = w' := by
  have hr' : (r : Int) ≤ 8 := by omega
  have hb := mixU_bd key r
  have b0 := mx0_bd key r
  have b1 := (mx_bd (mx0 key r)).1
  have b2 := (mx_bd (mx1 (mx0 key r))).2
  have hq : mixU key r % (W : Int) = (mixF key r W : Int) := by
    unfold mixF
    have : (((mixU key r).toNat % W : Nat) : Int) = ((mixU key r).toNat : Int) % (W : Int) := by simp
    rw [this, Int.toNat_of_nonneg hb.1]
  have hq1 := mixF_lt key r W (by omega)
  have hW0 : 0 < (W : Int) := by omega
  have hW1 : (W : Int) ≤ 65536 := by omega
  have e0 : bits .xor .u64 key (IntKind.u64.wrap (((r : Int) + 1) * 11400714819323198485)) = mx0 key r := rfl
  have e1 : IntKind.u64.wrap (bits .xor .u64 (mx0 key r) (mx0 key r / 1073741824) * 13787848793156543929) = mx1 (mx0 key r) := rfl
  have e2 : IntKind.u64.wrap (bits .xor .u64 (mx1 (mx0 key r)) (mx1 (mx0 key r) / 134217728) * 10723151780598845931) = mx2 (mx1 (mx0 key r)) := rfl
  have e3 : bits .xor .u64 (mx2 (mx1 (mx0 key r))) (mx2 (mx1 (mx0 key r)) / 2147483648) = mixU key r := rfl
  go_enter Try.func58, Try.ntmps58
  go_wp2
  go_ret
  exact ⟨rfl, rfl⟩

/-- The reference's lists: the count of a cell. -/
def lk (cs ns : List Int) (c : Int) : Int := ns.getD (cs.idxOf c) 0
def ixI (cs : List Int) (c : Int) : Int := if c ∈ cs then (cs.idxOf c : Int) else -1
theorem idx_first {cs : List Int} {c : Int} {j : Nat} (h : c ∉ cs.take j) (hj : cs[j]? = some c) : cs.idxOf c = j := by
  have hl := (List.getElem?_eq_some_iff.1 hj).1
  have he := (List.getElem?_eq_some_iff.1 hj).2
  have e : cs = cs.take j ++ c :: cs.drop (j + 1) := by
    conv => lhs; rw [← List.take_append_drop j cs, List.drop_eq_getElem_cons hl, he]
  rw [e, List.idxOf_append, if_neg h]
  simp
  omega
theorem idx_mem {cs : List Int} {c : Int} (h : c ∈ cs) : cs.idxOf c < cs.length ∧ cs[cs.idxOf c]? = some c := by
  have hl := List.idxOf_lt_length_iff.2 h
  exact ⟨hl, by rw [List.getElem?_eq_getElem hl]; simp⟩
theorem idx_out {cs : List Int} {c : Int} (h : c ∉ cs) : cs.idxOf c = cs.length := List.idxOf_eq_length h
theorem lk_at {cs ns : List Int} {c t : Int} (h : ns[cs.idxOf c]? = some t) : lk cs ns c = t := by unfold lk; rw [List.getD, h]; rfl
theorem lk_out {cs ns : List Int} {c : Int} (hl : ns.length = cs.length) (h : c ∉ cs) : lk cs ns c = 0 := by unfold lk; rw [idx_out h, ← hl]; simp
theorem lk_hit {cs ns : List Int} {c : Int} (hl : ns.length = cs.length) (h : c ∈ cs) (u c' : Int) : lk cs (ns.set (cs.idxOf c) u) c' = if c' = c then u else lk cs ns c' := by
  have hc := idx_mem h
  unfold lk
  by_cases e : c' = c
  · subst e
    rw [if_pos rfl, List.getD, List.getElem?_set_self (by omega)]
    rfl
  · rw [if_neg e, List.getD, List.getD, List.getElem?_set_ne]
    intro e2
    by_cases h' : c' ∈ cs
    · have hc' := idx_mem h'
      rw [← e2, hc.2] at hc'
      exact e (Option.some.inj hc'.2).symm
    · rw [idx_out h'] at e2; omega
theorem lk_new {cs ns : List Int} {c : Int} (hl : ns.length = cs.length) (h : c ∉ cs) (u c' : Int) : lk (cs ++ [c]) (ns ++ [u]) c' = if c' = c then u else lk cs ns c' := by
  unfold lk
  by_cases e : c' = c
  · subst e
    rw [if_pos rfl, List.idxOf_append, if_neg h, List.getD]
    simp [← hl]
  · rw [if_neg e, List.idxOf_append]
    by_cases h' : c' ∈ cs
    · have hc' := idx_mem h'
      rw [if_pos h', List.getD, List.getD, List.getElem?_append_left (by omega)]
    · have e0 : ([c] : List Int).idxOf c' = 1 := by
        rw [idx_out (by simpa using e)]; rfl
      rw [if_neg h', idx_out h', e0, List.getD, List.getD, List.getElem?_eq_none (by simp; omega), List.getElem?_eq_none (by omega)]
theorem lk_half (cs ns : List Int) (c : Int) : lk cs (ns.map fun t => t / 2) c = lk cs ns c / 2 := by
  unfold lk
  rw [List.getD, List.getD, List.getElem?_map]
  cases ns[cs.idxOf c]? <;> simp

/-- The reference's sketch in block p. -/
structure Rf (w : World) (p n W : Nat) (after adds : Int) (kv nv : Value) (cs ns : List Int) (B : Nat) : Prop where
  c0 : w.cell? ⟨p, 0, none⟩ = some (.int .i64 n)
  c1 : w.cell? ⟨p, 1, none⟩ = some (.int .i64 W)
  c2 : w.cell? ⟨p, 2, none⟩ = some (.int .i64 after)
  c3 : w.cell? ⟨p, 3, none⟩ = some (.int .i64 adds)
  c4 : w.cell? ⟨p, 4, none⟩ = some kv
  c5 : w.cell? ⟨p, 5, none⟩ = some nv
  fz : ∀ o, w.frozen? ⟨p, o, none⟩ = false
  ko : w.ownsRow B 3 1 kv cs.length (cs.map (.int .i64))
  no : w.ownsRow B 3 1 nv ns.length (ns.map (.int .i64))
  ne : ∀ c, kv.ownBlock = some c → nv.ownBlock ≠ some c
  pb : p < B ∧ B ≤ w.heap.size

section
variable {w w' w1 : World} {p n W : Nat} {after adds : Int} {kv nv : Value} {cs ns : List Int} {B : Nat}
theorem Rf.chg {S : Nat → Prop} (h : Rf w p n W after adds kv nv cs ns B) (c : Chg S w w') (hp : ¬ S p) (hB : ∀ k, B ≤ k → ¬ S k) : Rf w' p n W after adds kv nv cs ns B := by
  have lp := cell_lt h.c0
  exact ⟨(c.cell lp hp 0).trans h.c0, (c.cell lp hp 1).trans h.c1, (c.cell lp hp 2).trans h.c2, (c.cell lp hp 3).trans h.c3, (c.cell lp hp 4).trans h.c4, (c.cell lp hp 5).trans h.c5, fun o => (c.frozen lp hp o).trans (h.fz o),
    own_chg h.ko c (fun g hg _ _ => hB g hg), own_chg h.no c (fun g hg _ _ => hB g hg), h.ne, h.pb.1, Nat.le_trans h.pb.2 c.size⟩
theorem Rf.setAdds (h : Rf w p n W after adds kv nv cs ns B) (v : Int) : Rf (w.setCell ⟨p, 3, none⟩ (.int .i64 v)) p n W after v kv nv cs ns B := by
  have hp := h.pb
  have nk : ∀ v : Value, ∀ {k : Nat} {l : List Value}, w.ownsRow B 3 1 v k l → (w.setCell ⟨p, 3, none⟩ (.int .i64 adds)).ownsRow B 3 1 v k l := fun v _ _ ho => own_set ho (own_ne ho hp.1) _
  refine ⟨?_, ?_, ?_, ?_, ?_, ?_, ?_, own_set h.ko (own_ne h.ko hp.1) _, own_set h.no (own_ne h.no hp.1) _, h.ne, hp.1, by simp [World.setCell]; exact hp.2⟩
  · rw [cell_other (by simp)]; exact h.c0
  · rw [cell_other (by simp)]; exact h.c1
  · rw [cell_other (by simp)]; exact h.c2
  · exact cell_same h.c3
  · rw [cell_other (by simp)]; exact h.c4
  · rw [cell_other (by simp)]; exact h.c5
  · intro o; rw [World.frozen?_setCell]; exact h.fz o
theorem Rf.hit {g cap m : Nat} (h : Rf w p n W after adds kv (.slice (some ⟨g, 0, none⟩) m cap) cs ns B) {q : Nat} (hq : q < ns.length) (u : Int) : Rf (w.setCell ⟨g, q, none⟩ (.int .i64 u)) p n W after adds kv (.slice (some ⟨g, 0, none⟩) m cap) cs (ns.set q u) B := by
  have hg := own_below h.no (c := g) rfl
  have hp := h.pb
  have hm : m = ns.length := by obtain ⟨a, c, e, _⟩ := own_form h.no; cases e; rfl
  subst hm
  have hne : ∀ o : Nat, (⟨g, q, none⟩ : Addr) ≠ ⟨p, o, none⟩ := fun o e => by injection e; omega
  refine ⟨?_, ?_, ?_, ?_, ?_, ?_, ?_, own_set h.ko (fun e => h.ne g e.symm rfl) _, ?_, h.ne, hp.1, by simp [World.setCell]; exact hp.2⟩
  · rw [cell_other (hne _)]; exact h.c0
  · rw [cell_other (hne _)]; exact h.c1
  · rw [cell_other (hne _)]; exact h.c2
  · rw [cell_other (hne _)]; exact h.c3
  · rw [cell_other (hne _)]; exact h.c4
  · rw [cell_other (hne _)]; exact h.c5
  · intro o; rw [World.frozen?_setCell]; exact h.fz o
  · rw [List.length_set, ← put_map]; exact own_put h.no (by simpa using hq) _
theorem Rf.grown {row : Option Nat} {o : Obj} (h : Rf w p n W after adds kv nv cs ns B) (hg : (w.alloc o).grownBy w1 row) (hr : some p ≠ row) : (∀ k, w1.cell? ⟨p, k, none⟩ = w.cell? ⟨p, k, none⟩) ∧ (∀ k, w1.frozen? ⟨p, k, none⟩ = false) ∧ w.heap.size + 1 ≤ w1.heap.size := by
  have lp := cell_lt h.c0
  have s := hg.size
  simp at s
  have c := (Chg.refl (fun _ => False) w).alloc o
  refine ⟨fun k => ?_, fun k => ?_, s⟩
  · rw [hg.cell_far _ (by simp; omega) hr]; exact c.cell lp id k
  · rw [hg.frozen_far _ (by simp; omega) hr, c.frozen lp id k]; exact h.fz k
theorem Rf.push4 {o : Obj} {g cap : Nat} {x : Int} (h : Rf w p n W after adds kv nv cs ns B) (hg : (w.alloc o).grownBy w1 kv.ownBlock)
    (ho : w1.ownsRow B 3 1 (.slice (some ⟨g, 0, none⟩) (cs.length + 1) cap) (cs.length + 1) (cs.map (.int .i64) ++ [.int .i64 x])) (hat : kv.ownBlock = some g ∨ g = w.heap.size + 1) :
    Rf (w1.setCell ⟨p, 4, none⟩ (.slice (some ⟨g, 0, none⟩) (cs.length + 1) cap)) p n W after adds (.slice (some ⟨g, 0, none⟩) (cs.length + 1) cap) nv (cs ++ [x]) ns B := by
  have hp := h.pb
  obtain ⟨hc, hf, hs⟩ := h.grown hg (own_ne h.ko hp.1)
  have hn : w1.ownsRow B 3 1 nv ns.length (ns.map (.int .i64)) := (h.no.alloc o).kept hg (blocks_apart h.ne)
  refine ⟨?_, ?_, ?_, ?_, ?_, ?_, ?_, ?_, own_set hn (own_ne hn hp.1) _, ?_, hp.1, by simp [World.setCell]; omega⟩
  · rw [cell_other (by simp), hc]; exact h.c0
  · rw [cell_other (by simp), hc]; exact h.c1
  · rw [cell_other (by simp), hc]; exact h.c2
  · rw [cell_other (by simp), hc]; exact h.c3
  · exact cell_same (by rw [hc]; exact h.c4)
  · rw [cell_other (by simp), hc]; exact h.c5
  · intro o; rw [World.frozen?_setCell]; exact hf o
  · rw [List.length_append, ← map_snoc]; exact own_set ho (own_ne ho hp.1) _
  · intro c e
    have : c = g := by simpa [Value.ownBlock] using e.symm
    subst this
    rcases hat with e | e
    · exact h.ne c e
    · intro e2; have := own_below h.no e2; omega
theorem Rf.push5 {o : Obj} {g cap : Nat} {x : Int} (h : Rf w p n W after adds kv nv cs ns B) (hg : (w.alloc o).grownBy w1 nv.ownBlock)
    (ho : w1.ownsRow B 3 1 (.slice (some ⟨g, 0, none⟩) (ns.length + 1) cap) (ns.length + 1) (ns.map (.int .i64) ++ [.int .i64 x])) (hat : nv.ownBlock = some g ∨ g = w.heap.size + 1) :
    Rf (w1.setCell ⟨p, 5, none⟩ (.slice (some ⟨g, 0, none⟩) (ns.length + 1) cap)) p n W after adds kv (.slice (some ⟨g, 0, none⟩) (ns.length + 1) cap) cs (ns ++ [x]) B := by
  have hp := h.pb
  obtain ⟨hc, hf, hs⟩ := h.grown hg (own_ne h.no hp.1)
  have hn : w1.ownsRow B 3 1 kv cs.length (cs.map (.int .i64)) := (h.ko.alloc o).kept hg (blocks_apart (fun c e e2 => h.ne c e2 e))
  refine ⟨?_, ?_, ?_, ?_, ?_, ?_, ?_, own_set hn (own_ne hn hp.1) _, ?_, ?_, hp.1, by simp [World.setCell]; omega⟩
  · rw [cell_other (by simp), hc]; exact h.c0
  · rw [cell_other (by simp), hc]; exact h.c1
  · rw [cell_other (by simp), hc]; exact h.c2
  · rw [cell_other (by simp), hc]; exact h.c3
  · rw [cell_other (by simp), hc]; exact h.c4
  · exact cell_same (by rw [hc]; exact h.c5)
  · intro o; rw [World.frozen?_setCell]; exact hf o
  · rw [List.length_append, ← map_snoc]; exact own_set ho (own_ne ho hp.1) _
  · intro c e
    simp [Value.ownBlock]
    intro e3
    subst e3
    rcases hat with e2 | e2
    · exact h.ne g e e2
    · have := own_below h.ko e; omega
end
end Go.Proofs.Ytdoepjokaekckaa.Sk
namespace Go.Proofs.Ytdoepjokaekckaa.Sk
set_option linter.unusedVariables false
open Go.RowKit

set_option maxHeartbeats 400000 in
theorem rcell_any (w : World) (p n W : Nat) (after adds : Int) (kv nv : Value) (cs ns : List Int) (B : Nat) (c : Int) (h : Rf w p n W after adds kv nv cs ns B) (hl : cs.length ≤ 100000) :
    Calls Try.prog 57 #[.pointer (some ⟨p, 0, none⟩), .int .i64 c] w fun e w' => e = .returned (.int .i64 (ixI cs c)) ∧ w = w' := by
  have c4 := h.c4
  obtain ⟨ka, kcap, rfl, _, _, kat⟩ := own_form h.ko
  have KAT := Lib.hid kat
  have H := Lib.hid h
  clear kat h
  go_enter Try.func57, Try.ntmps57
  go_wp2
  go_loop [12] (fun i => ∃ j : Nat, j ≤ cs.length ∧ i = .int .i64 (↑j : Int) ∧ Hid (c ∉ cs.take j)) (fun i => cs.length - (intOf i).toNat)
  case atStart => exact ⟨0, by omega, rfl, by show c ∉ cs.take 0; simp⟩
  case round =>
    obtain ⟨j, hj, rfl, hn⟩ := hrel
    by_cases hjt : j < cs.length
    · obtain ⟨x, hx⟩ := some_at hjt
      obtain ⟨gk, hka, _, _, ck, _⟩ := KAT.out j _ (map_at hx)
      subst hka
      by_cases he : x = c
      · subst he
        have hi := idx_first hn.out hx
        have HI := Lib.hid hi
        have HM := Lib.hid (mem_at hx)
        clear hi hx
        go_wp2
        go_ret
        refine ⟨ret_int ?_, rfl⟩
        rw [ixI, if_pos HM.out, HI.out]
      · have hxe : (x == c) = false := by simpa using he
        have HT := Lib.hid (take_at hx)
        have HE := Lib.hid he
        clear hx he
        go_wp2
        go_round
        case rel => exact ⟨j + 1, by omega, by go_num, by show c ∉ cs.take (j + 1); rw [HT.out]; simp; exact ⟨hn.out, fun e => HE.out e.symm⟩⟩
        case measure => simp [intOf]; omega
    · obtain rfl : j = cs.length := by omega
      go_wp2
      go_ret
      refine ⟨ret_int ?_, rfl⟩
      have := hn.out
      rw [List.take_length] at this
      rw [ixI, if_neg this]

/-- What the reference may write. -/
def RfS (p U : Nat) (c : Nat) : Prop := c = p ∨ c < U ∧ p < c

set_option maxHeartbeats 1000000 in
theorem rage_any (w : World) (p n W : Nat) (after adds : Int) (kv nv : Value) (cs ns : List Int) (B : Nat) (h : Rf w p n W after adds kv nv cs ns B) (hl : ns.length ≤ 100000) (hb : ∀ t ∈ ns, 0 ≤ t ∧ t ≤ 4611686018427387904) :
    Calls Try.prog 63 #[.pointer (some ⟨p, 0, none⟩)] w fun e w' => e = .returned (.tuple #[]) ∧ Rf w' p n W after 0 kv nv cs (ns.map fun t => t / 2) B ∧ Chg (fun c => c = p ∨ nv.ownBlock = some c) w w' := by
  have c5 := h.c5
  obtain ⟨na, ncap, rfl, _, _, _⟩ := own_form h.no
  have H := Lib.hid h
  have HB := Lib.hid hb
  clear h hb
  go_enter Try.func63, Try.ntmps63
  go_wp2
  go_loopw [8] (fun i wr => ∃ j : Nat, j ≤ ns.length ∧ i = .int .i64 (↑j : Int) ∧ Hid (Rf wr p n W after adds kv (.slice na ns.length ncap) cs (upto (fun t => t / 2) ns j) B) ∧ Hid (Chg (fun c => c = p ∨ (Value.slice na ns.length ncap).ownBlock = some c) w wr)) (fun i _ => ns.length - (intOf i).toNat)
  case atStart => exact ⟨0, by omega, rfl, by rw [upto_zero]; exact H.out, Chg.refl _ _⟩
  case round =>
    obtain ⟨j, hj, rfl, HR, HG⟩ := hrel
    by_cases hjt : j < ns.length
    · obtain ⟨t, ht⟩ := some_at hjt
      obtain ⟨_, _, e1, _, _, tat⟩ := own_form HR.out.no
      obtain ⟨gt, hta, gb, _, ct, cf⟩ := tat j _ (map_at (upto_at _ ht))
      injection e1 with e1
      rw [← e1] at hta
      subst hta
      have d5 := HR.out.c5
      have hbt := HB.out t (mem_at ht)
      have HQ := Lib.hid (upto_set (fun t => t / 2) ht)
      clear ht tat e1
      go_wp2_with fail
      go_region
      all_goals
        go_wp2
        go_roundw
        case rel => exact ⟨j + 1, by omega, by go_num, by rw [← HQ.out]; exact (HR.out.hit (by rw [upto_len]; exact hjt) _).chg ((Chg.refl (fun _ => False) _).drew) id (fun _ _ => id), (HG.out.setCell (p := ⟨gt, j, none⟩) (.inl (.inr rfl)) _).drew⟩
        case measure => simp [intOf]; omega
    · obtain rfl : j = ns.length := by omega
      have d3 := HR.out.c3
      have fz := HR.out.fz
      go_wp2
      go_end0
      have hr := HR.out
      rw [upto_all] at hr
      exact ⟨rfl, hr.setAdds 0, HG.out.setCell (.inl (.inl rfl)) _⟩

/-- The reference's sketch with the counters T. -/
def RfT (w : World) (p n W : Nat) (after adds : Int) (T : Nat → Nat → Int) (B : Nat) (O : Nat → Prop) (m : Nat) (M : Int) : Prop :=
  ∃ kv nv cs ns, Rf w p n W after adds kv nv cs ns B ∧ ns.length = cs.length ∧ cs.length ≤ m ∧ (∀ i, i < n → ∀ j, j < W → lk cs ns (i * 65536 + j) = T i j) ∧ Bd ns M ∧ ∀ c, kv.ownBlock = some c ∨ nv.ownBlock = some c → O c
theorem RfT.chg {S : Nat → Prop} {w w' : World} {p n W : Nat} {after adds : Int} {T : Nat → Nat → Int} {B : Nat} {O : Nat → Prop} {m : Nat} {M : Int} (h : RfT w p n W after adds T B O m M) (c : Chg S w w') (hp : ¬ S p) (hB : ∀ k, B ≤ k → ¬ S k) : RfT w' p n W after adds T B O m M := by
  obtain ⟨kv, nv, cs, ns, h1, h2⟩ := h
  exact ⟨kv, nv, cs, ns, h1.chg c hp hB, h2⟩

theorem one_at2 {w : World} {b : Nat} (hb : w.heap.size = b) (x : Value) (t : TypeId) (j : Nat) (u : Value) (h : [x][j]? = some u) : (w.alloc (.cells #[x] t)).cell? ((⟨b, 0, none⟩ : Addr).add j) = some u := by
  subst hb; exact one_at w x t j u h
theorem lk_bump {cs ns cs' ns' : List Int} {T : Nat → Nat → Int} {n W : Nat} (key : Int) {r : Nat} (hr : r < n) (hW : 0 < W ∧ W ≤ 65536) (h : ∀ i, i < n → ∀ j, j < W → lk cs ns (i * 65536 + j) = bump T W key r i j)
    (e : ∀ c', lk cs' ns' c' = if c' = (r : Int) * 65536 + mixF key r W then lk cs ns ((r : Int) * 65536 + mixF key r W) + 1 else lk cs ns c') : ∀ i, i < n → ∀ j, j < W → lk cs' ns' (i * 65536 + j) = bump T W key (r + 1) i j := by
  intro i hi j hj
  have hm := mixF_lt key r W hW.1
  rw [e]
  by_cases e1 : (i : Int) * 65536 + j = (r : Int) * 65536 + mixF key r W
  · have ei : i = r := by omega
    subst ei
    have ej : j = mixF key i W := by omega
    subst ej
    rw [if_pos rfl, h i hi _ hj]
    simp [bump]
  · rw [if_neg e1, h i hi j hj]
    unfold bump
    by_cases e2 : i < r ∧ j = mixF key i W
    · rw [if_pos e2, if_pos ⟨by omega, e2.2⟩]
    · rw [if_neg e2, if_neg]
      rintro ⟨h1, h2⟩
      by_cases e3 : i = r
      · subst e3; subst h2; exact e1 rfl
      · exact e2 ⟨by omega, h2⟩
theorem bd_snoc1 {ts : List Int} {M : Int} (h : Bd ts M) (hm : 0 ≤ M) : Bd (ts ++ [1]) (M + 1) := fun x hx => by
  rcases List.mem_append.1 hx with h1 | h1
  · have := h x h1; omega
  · simp at h1; omega

set_option maxHeartbeats 2000000 in
set_option maxRecDepth 4000 in
theorem radd_any (w : World) (p n W : Nat) (after adds : Int) (T : Nat → Nat → Int) (B U m : Nat) (M : Int) (key : Int) (h : RfT w p n W after adds T B (fun c => c < U) m M) (hn : 1 ≤ n ∧ n ≤ 8) (hW : 1 ≤ W ∧ W ≤ 65536) (hk : 0 ≤ key ∧ key ≤ 18446744073709551615) (hm : m ≤ 50000) (hM : 0 ≤ M ∧ M ≤ 1000000000) (ha : 0 ≤ adds ∧ adds ≤ 4611686018427387904) :
    Calls Try.prog 39 #[.pointer (some ⟨p, 0, none⟩), .int .u64 key] w fun e w' => e = .returned (.tuple #[]) ∧ (if adds + 1 = after then RfT w' p n W after 0 (halve (bump T W key n)) B (fun c => c < w'.heap.size) (m + n) (M + n) else RfT w' p n W after (adds + 1) (bump T W key n) B (fun c => c < w'.heap.size) (m + n) (M + n)) ∧ Chg (RfS p U) w w' := by
  obtain ⟨it, hit, tz0, tz1, tz2⟩ := info_parts infoNum
  have H := Lib.hid h
  clear h
  go_enter Try.func39, Try.ntmps39
  go_wp2
  go_loopw [4] (fun i wr => ∃ r : Nat, r ≤ n ∧ i = .int .i64 (↑r : Int) ∧ Hid (RfT wr p n W after adds (bump T W key r) B (fun c => c < U ∨ w.heap.size ≤ c) (m + r) (M + r)) ∧ Hid (Chg (RfS p U) w wr)) (fun i _ => n - (intOf i).toNat)
  case atStart => exact ⟨0, by omega, rfl, by
    show RfT w p n W after adds (bump T W key 0) B (fun c => c < U ∨ w.heap.size ≤ c) (m + 0) (M + 0)
    have e : bump T W key 0 = T := by funext i j; simp [bump]
    rw [e, Int.add_zero]; obtain ⟨kv, nv, cs, ns, q1, q2, q3, q4, q5, q6⟩ := H.out; exact ⟨kv, nv, cs, ns, q1, q2, q3, q4, q5, fun c hc => .inl (q6 c hc)⟩, Chg.refl _ _⟩
  case round =>
    obtain ⟨r, hr, rfl, HR, HG⟩ := hrel
    obtain ⟨kv, nv, cs, ns, hR, hl, hcm, hT, hB, hO⟩ := HR.out
    have HO := Lib.hid hO
    have c0 := hR.c0
    have HF := Lib.hid hR
    have HL := Lib.hid hl
    have HT := Lib.hid hT
    have HB := Lib.hid hB
    have hpb := hR.pb
    have hll : ns.length ≤ cs.length := by omega
    clear hR hl hT hB hO
    by_cases hlt : r < n
    · have c1 := HF.out.c1
      have c5 := HF.out.c5
      have c4 := HF.out.c4
      have fz := HF.out.fz
      obtain ⟨c, hc⟩ : ∃ c : Int, c = (r : Int) * 65536 + mixF key r W := ⟨_, rfl⟩
      have HC := Lib.hid hc
      clear hc
      go_wp2_with fail
      refine (rmix_any key r W _ (by omega) hW).mono ?_; rintro e w1 ⟨rfl, rfl⟩
      have hmx := mixF_lt key r W (by omega)
      go_wp2_with fail
      refine (rcell_any _ _ _ _ _ _ _ _ cs _ _ _ HF.out (by omega)).mono ?_; rintro e w1 ⟨rfl, rfl⟩
      rw [← HC.out]
      by_cases hin : c ∈ cs
      · have hx : ixI cs c = (cs.idxOf c : Int) := by rw [ixI, if_pos hin]
        have hi := idx_mem hin
        obtain ⟨q, hq⟩ : ∃ q, q = cs.idxOf c := ⟨_, rfl⟩
        rw [← hq] at hi hx
        rw [hx]
        have hqn : q < ns.length := by rw [HL.out]; exact hi.1
        obtain ⟨t, ht⟩ := some_at hqn
        obtain ⟨na, ncap, rfl, _, _, tat⟩ := own_form HF.out.no
        obtain ⟨gt, hta, gb, gl, ct, cf⟩ := tat q _ (map_at ht)
        subst hta
        have hbt := HB.out t (mem_at ht)
        have hlk : lk cs ns c = t := lk_at (by rw [← hq]; exact ht)
        have HK := Lib.hid hlk
        have HIN := Lib.hid hin
        have HQ := Lib.hid hq
        have HTT := Lib.hid ht
        clear hlk hin hq ht tat hi hx
        go_wp2_with fail
        go_roundw
        case rel =>
          refine ⟨r + 1, by omega, by go_num, ⟨kv, _, cs, ns.set q (t + 1), HF.out.hit hqn _, by rw [List.length_set]; exact HL.out, by omega, ?_, ?_, HO.out⟩, HG.out.setCell (p := ⟨gt, q, none⟩) (by rcases HO.out gt (.inr rfl) with h | h; exact .inl (.inr ⟨h, by show p < gt; omega⟩); exact .inr h) _⟩
          · refine lk_bump key hlt (by omega) HT.out fun c' => ?_
            rw [← HC.out, HQ.out, lk_hit HL.out HIN.out, HK.out]
          · have hb := bd_set HB.out (by omega) HTT.out
            have e1 : M + ((r + 1 : Nat) : Int) = M + r + 1 := by omega
            rw [e1]; exact hb
        case measure => simp [intOf]; omega
      · have hx : ixI cs c = -1 := by rw [ixI, if_neg hin]
        rw [hx]
        have HIN := Lib.hid hin
        clear hin hx
        obtain ⟨ka, kcap, rfl, _, _, _⟩ := own_form HF.out.ko
        obtain ⟨na, ncap, rfl, _, _, _⟩ := own_form HF.out.no
        have hck : cs.length ≤ 60000 := by omega
        have nep : some p ≠ (Value.slice ka cs.length kcap).ownBlock := own_ne HF.out.ko hpb.1
        have neq : some p ≠ (Value.slice na ns.length ncap).ownBlock := own_ne HF.out.no hpb.1
        have NEP := Lib.hid nep
        have NEQ := Lib.hid neq
        clear nep neq
        go_wp2_with (first
          | (at_builtin; refine wpList_append_lies _ rfl _ _ 81 rfl B 3 it _ 1 8 Try.underlying81 hit tz0 tz1 tz2 rfl (by decide) _ cs.length _ rfl (HF.out.ko.alloc _) ⟨wr.heap.size, 0, none⟩ 1 1 [.int .i64 c] rfl rfl (one_at _ _ _) (ints_oneCell .i64 [c]) (by decide) (by unfold maxLen; omega) (by omega) (by simp; omega) (wr.heap.size + 1) (by simp) ?_; intro g1 cap1 w2 ho1 hg1 at1 lt1; have f2 := HF.out.grown hg1 NEP.out; have k4 : w2.cell? ⟨p, 4, none⟩ = some (Value.slice ka cs.length kcap) := (by rw [f2.1]; exact c4); have k5 : w2.cell? ⟨p, 5, none⟩ = some (Value.slice na ns.length ncap) := (by rw [f2.1]; exact c5); have kf := f2.2.1; have R2 := Lib.hid (HF.out.push4 hg1 ho1 at1); have z2 := f2.2.2; clear f2)
          | (at_builtin; refine wpList_append_lies _ rfl _ _ 81 rfl B 3 it _ 1 8 Try.underlying81 hit tz0 tz1 tz2 rfl (by decide) _ ns.length _ rfl (R2.out.no.alloc _) ⟨w2.heap.size, 0, none⟩ 1 1 [.int .i64 1] rfl rfl (one_at2 (by simp [World.setCell]) _ _) (ints_oneCell .i64 [1]) (by decide) (by unfold maxLen; omega) (by omega) (by simp [World.setCell]; omega) (w2.heap.size + 1) (by simp [World.setCell]) ?_; intro g2 cap2 w3 ho2 hg2 at2 lt2; have f3 := R2.out.grown hg2 NEQ.out; have k53 : w3.cell? ⟨p, 5, none⟩ = some (Value.slice na ns.length ncap) := (by rw [f3.1]; exact R2.out.c5); have kf3 := f3.2.1; clear f3))
        go_roundw
        case rel =>
          have e1 : M + ((r + 1 : Nat) : Int) = M + r + 1 := by omega
          refine ⟨r + 1, by omega, by go_num, ⟨_, _, cs ++ [c], ns ++ [1], R2.out.push5 hg2 ho2 (by rcases at2 with h | h; exact .inl h; exact .inr (by rw [h]; simp [World.setCell])), by simp [HL.out], by simp; omega, ?_, ?_, ?_⟩, ?_⟩
          · refine lk_bump key hlt (by omega) HT.out fun c' => ?_
            rw [← HC.out, lk_new HL.out HIN.out, lk_out HL.out HIN.out]; rfl
          · rw [e1]; exact bd_snoc1 HB.out (by omega)
          · have sz := HG.out.size
            intro c hc
            rcases hc with hc | hc
            · have e2 : c = g1 := by simpa [Value.ownBlock] using hc.symm
              rcases at1 with h | h
              · rw [e2]; exact HO.out g1 (.inl h)
              · right; omega
            · have e2 : c = g2 := by simpa [Value.ownBlock] using hc.symm
              rcases at2 with h | h
              · rw [e2]; exact HO.out g2 (.inr h)
              · right; omega
          · have ow : ∀ c, B ≤ c → (c < U ∨ w.heap.size ≤ c) → RfS p U c ∨ w.heap.size ≤ c := fun c hb hc => by
              rcases hc with h | h
              · exact .inl (.inr ⟨h, by omega⟩)
              · exact .inr h
            refine Chg.setCell ?_ (.inl (.inl rfl)) _
            refine Chg.grown ?_ hg2 (fun k hk => ow k (own_below R2.out.no hk).1 (HO.out k (.inr hk)))
            refine Chg.alloc ?_ _
            refine Chg.setCell ?_ (.inl (.inl rfl)) _
            refine Chg.grown ?_ hg1 (fun k hk => ow k (own_below HF.out.ko hk).1 (HO.out k (.inl hk)))
            exact HG.out.alloc _
        case measure => simp [intOf]; omega
    · obtain rfl : r = n := by omega
      have c2 := HF.out.c2
      have c3 := HF.out.c3
      have fz := HF.out.fz
      have R3 := Lib.hid (HF.out.setAdds (adds + 1))
      have hll2 : ns.length ≤ 100000 := by omega
      by_cases he : adds + 1 = after
      · subst he
        go_wp2_with fail
        go_quiet (fail)
        go_wp2_with fail
        refine (rage_any _ _ _ _ _ _ _ _ cs ns B (R3.out.chg (Chg.drewN (Chg.refl (fun _ => False) _) _) id (fun _ _ => id)) hll2 (fun t ht => by have := HB.out t ht; omega)).mono ?_; rintro e w2 ⟨rfl, hr, hc⟩
        have HR2 := Lib.hid hr
        clear hr
        go_wp2
        go_end0
        refine ⟨rfl, ?_, ((HG.out.setCell (.inl (.inl rfl)) _).drewN _).trans hc (fun c hlt h => by
          rcases h with h | h
          · exact .inl h
          · have hb := own_below HF.out.no h
            rcases HO.out c (.inr h) with h1 | h1
            · exact .inr ⟨h1, by omega⟩
            · omega)⟩
        exact ⟨_, _, _, _, HR2.out, by simpa using HL.out, by omega, fun i hi j hj => by rw [lk_half, HT.out i hi j hj]; rfl, bd_half HB.out, fun c hc => by rcases hc with hc | hc; exact (own_below HR2.out.ko hc).2; exact (own_below HR2.out.no hc).2⟩
      · have hd : (adds + 1 == after) = false := by simpa using he
        go_wp2_with fail
        go_quiet (fail)
        go_wp2_with fail
        go_end0
        refine ⟨rfl, ?_, (HG.out.setCell (.inl (.inl rfl)) _).drewN _⟩
        exact ⟨_, _, _, _, R3.out.chg (Chg.drewN (Chg.refl (fun _ => False) _) _) id (fun _ _ => id), HL.out, by omega, HT.out, HB.out, fun c hc => by simp [World.setCell]; rcases hc with hc | hc; exact (own_below HF.out.ko hc).2; exact (own_below HF.out.no hc).2⟩

set_option maxHeartbeats 1000000 in
set_option maxRecDepth 4000 in
theorem rcount_any (w : World) (p n W : Nat) (after adds : Int) (T : Nat → Nat → Int) (B : Nat) (O : Nat → Prop) (m : Nat) (M : Int) (key : Int) (h : RfT w p n W after adds T B O m M) (hn : 1 ≤ n ∧ n ≤ 8) (hW : 1 ≤ W ∧ W ≤ 65536) (hk : 0 ≤ key ∧ key ≤ 18446744073709551615) (hm : m ≤ 60000) (hM : 0 ≤ M ∧ M ≤ 1000000000000) (hT0 : ∀ i j, 0 ≤ T i j) :
    Calls Try.prog 35 #[.pointer (some ⟨p, 0, none⟩), .int .u64 key] w fun e w' => e = .returned (.int .i64 (leastF T W key n)) ∧ w = w' := by
  obtain ⟨kv, nv, cs, ns, hR, hl, hcm, hT, hB, _⟩ := h
  have c0 := hR.c0
  have c1 := hR.c1
  have c5 := hR.c5
  obtain ⟨na, ncap, rfl, _, _, tat⟩ := own_form hR.no
  have TAT := Lib.hid tat
  have HF := Lib.hid hR
  have HL := Lib.hid hl
  have HT := Lib.hid hT
  have HB := Lib.hid hB
  have H0 := Lib.hid hT0
  clear hR hl hT hB tat hT0
  go_enter Try.func35, Try.ntmps35
  go_wp2
  go_loop [5, 6] (fun o i => ∃ r : Nat, r ≤ n ∧ i = .int .i64 (↑r : Int) ∧ ∃ x : Int, o = .int .i64 x ∧ Hid (x = if r = 0 then -1 else leastF T W key r)) (fun _ i => n - (intOf i).toNat)
  case atStart => exact ⟨0, by omega, rfl, -1, rfl, rfl⟩
  case round =>
    obtain ⟨r, hr, rfl, x, rfl, HO⟩ := hrel
    by_cases hlt : r < n
    · obtain ⟨c, hc⟩ : ∃ c : Int, c = (r : Int) * 65536 + mixF key r W := ⟨_, rfl⟩
      have HC := Lib.hid hc
      clear hc
      have hmx := mixF_lt key r W (by omega)
      -- what the lists tell is the counter
      have hv : lk cs ns c = T r (mixF key r W) := by rw [HC.out]; exact HT.out r hlt _ hmx
      have HV := Lib.hid hv
      have h0 := H0.out r (mixF key r W)
      clear hv
      go_wp2_with fail
      refine (rmix_any key r W _ (by omega) hW).mono ?_; rintro e w1 ⟨rfl, rfl⟩
      go_wp2_with fail
      refine (rcell_any _ _ _ _ _ _ _ _ cs _ _ _ HF.out (by omega)).mono ?_; rintro e w1 ⟨rfl, rfl⟩
      rw [← HC.out]
      by_cases hin : c ∈ cs
      · have hx : ixI cs c = (cs.idxOf c : Int) := by rw [ixI, if_pos hin]
        have hi := idx_mem hin
        obtain ⟨q, hq⟩ : ∃ q, q = cs.idxOf c := ⟨_, rfl⟩
        rw [← hq] at hi hx
        rw [hx]
        have hqn : q < ns.length := by rw [HL.out]; exact hi.1
        obtain ⟨t, ht⟩ := some_at hqn
        obtain ⟨gt, hta, gb, gl, ct, cf⟩ := TAT.out q _ (map_at ht)
        subst hta
        have hlk : t = T r (mixF key r W) := by rw [← HV.out]; exact (lk_at (by rw [← hq]; exact ht)).symm
        have HK := Lib.hid hlk
        clear hlk hin hq ht hi hx h0
        by_cases hr0 : r = 0
        · have hx : x = -1 := by rw [HO.out, if_pos hr0]
          subst hx
          have hs : leastF T W key (r + 1) = t := by
            have h := HK.out
            rw [hr0] at h ⊢
            show T 0 _ = _
            exact h.symm
          have HS := Lib.hid hs
          clear hs hr0
          go_wp2
          go_round
          case rel => exact ⟨r + 1, by omega, by go_num, _, rfl, by rw [if_neg (by omega), HS.out]; exact Lib.hid rfl⟩
          case measure => simp [intOf]; omega
        · have hx : x = leastF T W key r := by rw [HO.out, if_neg hr0]
          have hg : 0 ≤ x := by rw [hx]; exact leastF_ge (n := r) (fun i hi => H0.out i _) r (by omega) (Nat.le_refl _)
          have hne : (x == -1) = false := by simp; omega
          obtain ⟨r', rfl⟩ : ∃ r', r = r' + 1 := ⟨r - 1, by omega⟩
          have hs : leastF T W key (r' + 2) = if t < x then t else x := by rw [hx, HK.out]; rfl
          have HS := Lib.hid hs
          clear hs hx
          by_cases hlx : t < x
          all_goals
            go_wp2
            go_round
            case rel => exact ⟨r' + 2, by omega, by go_num, _, rfl, by rw [if_neg (by omega), HS.out]; first | (rw [if_pos hlx]; exact Lib.hid rfl) | (rw [if_neg (by omega)]; exact Lib.hid rfl)⟩
            case measure => simp [intOf]; omega
      · have hx : ixI cs c = -1 := by rw [ixI, if_neg hin]
        rw [hx]
        have hlk : 0 = T r (mixF key r W) := by rw [← HV.out]; exact (lk_out HL.out hin).symm
        have HK := Lib.hid hlk
        clear hlk hin hx h0
        by_cases hr0 : r = 0
        · have hx : x = -1 := by rw [HO.out, if_pos hr0]
          subst hx
          have hs : leastF T W key (r + 1) = (0 : Int) := by
            have h := HK.out
            rw [hr0] at h ⊢
            show T 0 _ = _
            exact h.symm
          have HS := Lib.hid hs
          clear hs hr0
          go_wp2
          go_round
          case rel => exact ⟨r + 1, by omega, by go_num, _, rfl, by rw [if_neg (by omega), HS.out]; exact Lib.hid rfl⟩
          case measure => simp [intOf]; omega
        · have hx : x = leastF T W key r := by rw [HO.out, if_neg hr0]
          have hg : 0 ≤ x := by rw [hx]; exact leastF_ge (n := r) (fun i hi => H0.out i _) r (by omega) (Nat.le_refl _)
          have hne : (x == -1) = false := by simp; omega
          obtain ⟨r', rfl⟩ : ∃ r', r = r' + 1 := ⟨r - 1, by omega⟩
          have hs : leastF T W key (r' + 2) = if (0 : Int) < x then (0 : Int) else x := by rw [hx, HK.out]; rfl
          have HS := Lib.hid hs
          clear hs hx
          by_cases hlx : (0 : Int) < x
          all_goals
            go_wp2
            go_round
            case rel => exact ⟨r' + 2, by omega, by go_num, _, rfl, by rw [if_neg (by omega), HS.out]; first | (rw [if_pos hlx]; exact Lib.hid rfl) | (rw [if_neg (by omega)]; exact Lib.hid rfl)⟩
            case measure => simp [intOf]; omega
    · obtain rfl : r = n := by omega
      have hz : x = leastF T W key r := by rw [HO.out, if_neg (by omega)]
      have HZ := Lib.hid hz
      clear hz
      go_wp2
      go_ret
      exact ⟨ret_int HZ.out, rfl⟩

theorem rageT_any (w : World) (p n W : Nat) (after adds : Int) (T : Nat → Nat → Int) (B U m : Nat) (M : Int) (h : RfT w p n W after adds T B (fun c => c < U) m M) (hm : m ≤ 60000) (hM : 0 ≤ M ∧ M ≤ 1000000000000) :
    Calls Try.prog 63 #[.pointer (some ⟨p, 0, none⟩)] w fun e w' => e = .returned (.tuple #[]) ∧ RfT w' p n W after 0 (halve T) B (fun c => c < w'.heap.size) m M ∧ Chg (RfS p U) w w' := by
  obtain ⟨kv, nv, cs, ns, hR, hl, hcm, hT, hB, hO⟩ := h
  refine (rage_any w p n W after adds kv nv cs ns B hR (by omega) (fun t ht => by have := hB t ht; omega)).mono ?_
  rintro e w' ⟨rfl, h1, h2⟩
  have pb := hR.pb
  refine ⟨rfl, ⟨kv, nv, cs, _, h1, by simpa using hl, hcm, fun i hi j hj => by rw [lk_half, hT i hi j hj]; rfl, bd_half hB, fun c hc => by rcases hc with hc | hc; exact (own_below h1.ko hc).2; exact (own_below h1.no hc).2⟩, h2.mono fun c _ hc => ?_⟩
  rcases hc with h | h
  · exact .inl h
  · exact .inr ⟨hO c (.inr h), by have := own_below hR.no h; omega⟩
end Go.Proofs.Ytdoepjokaekckaa.Sk
namespace Go.Proofs.Ytdoepjokaekckaa.Sk
set_option linter.unusedVariables false
open Go.RowKit

/-- What was owned, and what has been made since. -/
def GrowS (O : Nat → Prop) (w w' : World) (c : Nat) : Prop := O c ∨ (w.heap.size ≤ c ∧ c < w'.heap.size)
theorem grow_of {O : Nat → Prop} {w w' : World} {c : Nat} (h : O c ∨ w.heap.size ≤ c) (hl : c < w'.heap.size) : GrowS O w w' c := h.elim .inl fun h => .inr ⟨h, hl⟩
set_option maxHeartbeats 2000000 in
set_option maxRecDepth 4000 in
theorem radd_own (w : World) (O : Nat → Prop) (p n W : Nat) (after adds : Int) (T : Nat → Nat → Int) (B m : Nat) (M : Int) (key : Int) (h : RfT w p n W after adds T B O m M) (hn : 1 ≤ n ∧ n ≤ 8) (hW : 1 ≤ W ∧ W ≤ 65536) (hk : 0 ≤ key ∧ key ≤ 18446744073709551615) (hm : m ≤ 50000) (hM : 0 ≤ M ∧ M ≤ 1000000000) (ha : 0 ≤ adds ∧ adds ≤ 4611686018427387904) :
    Calls Try.prog 39 #[.pointer (some ⟨p, 0, none⟩), .int .u64 key] w fun e w' => e = .returned (.tuple #[]) ∧ (if adds + 1 = after then RfT w' p n W after 0 (halve (bump T W key n)) B (GrowS O w w') (m + n) (M + n) else RfT w' p n W after (adds + 1) (bump T W key n) B (GrowS O w w') (m + n) (M + n)) ∧ Chg (fun c => c = p ∨ O c) w w' := by
  obtain ⟨it, hit, tz0, tz1, tz2⟩ := info_parts infoNum
  have H := Lib.hid h
  clear h
  go_enter Try.func39, Try.ntmps39
  go_wp2
  go_loopw [4] (fun i wr => ∃ r : Nat, r ≤ n ∧ i = .int .i64 (↑r : Int) ∧ Hid (RfT wr p n W after adds (bump T W key r) B (fun c => O c ∨ w.heap.size ≤ c) (m + r) (M + r)) ∧ Hid (Chg (fun c => c = p ∨ O c) w wr)) (fun i _ => n - (intOf i).toNat)
  case atStart => exact ⟨0, by omega, rfl, by
    show RfT w p n W after adds (bump T W key 0) B (fun c => O c ∨ w.heap.size ≤ c) (m + 0) (M + 0)
    have e : bump T W key 0 = T := by funext i j; simp [bump]
    rw [e, Int.add_zero]; obtain ⟨kv, nv, cs, ns, q1, q2, q3, q4, q5, q6⟩ := H.out; exact ⟨kv, nv, cs, ns, q1, q2, q3, q4, q5, fun c hc => .inl (q6 c hc)⟩, Chg.refl _ _⟩
  case round =>
    obtain ⟨r, hr, rfl, HR, HG⟩ := hrel
    obtain ⟨kv, nv, cs, ns, hR, hl, hcm, hT, hB, hO⟩ := HR.out
    have HO := Lib.hid hO
    have c0 := hR.c0
    have HF := Lib.hid hR
    have HL := Lib.hid hl
    have HT := Lib.hid hT
    have HB := Lib.hid hB
    have hpb := hR.pb
    have hll : ns.length ≤ cs.length := by omega
    clear hR hl hT hB hO
    by_cases hlt : r < n
    · have c1 := HF.out.c1
      have c5 := HF.out.c5
      have c4 := HF.out.c4
      have fz := HF.out.fz
      obtain ⟨c, hc⟩ : ∃ c : Int, c = (r : Int) * 65536 + mixF key r W := ⟨_, rfl⟩
      have HC := Lib.hid hc
      clear hc
      go_wp2_with fail
      refine (rmix_any key r W _ (by omega) hW).mono ?_; rintro e w1 ⟨rfl, rfl⟩
      have hmx := mixF_lt key r W (by omega)
      go_wp2_with fail
      refine (rcell_any _ _ _ _ _ _ _ _ cs _ _ _ HF.out (by omega)).mono ?_; rintro e w1 ⟨rfl, rfl⟩
      rw [← HC.out]
      by_cases hin : c ∈ cs
      · have hx : ixI cs c = (cs.idxOf c : Int) := by rw [ixI, if_pos hin]
        have hi := idx_mem hin
        obtain ⟨q, hq⟩ : ∃ q, q = cs.idxOf c := ⟨_, rfl⟩
        rw [← hq] at hi hx
        rw [hx]
        have hqn : q < ns.length := by rw [HL.out]; exact hi.1
        obtain ⟨t, ht⟩ := some_at hqn
        obtain ⟨na, ncap, rfl, _, _, tat⟩ := own_form HF.out.no
        obtain ⟨gt, hta, gb, gl, ct, cf⟩ := tat q _ (map_at ht)
        subst hta
        have hbt := HB.out t (mem_at ht)
        have hlk : lk cs ns c = t := lk_at (by rw [← hq]; exact ht)
        have HK := Lib.hid hlk
        have HIN := Lib.hid hin
        have HQ := Lib.hid hq
        have HTT := Lib.hid ht
        clear hlk hin hq ht tat hi hx
        go_wp2_with fail
        go_roundw
        case rel =>
          refine ⟨r + 1, by omega, by go_num, ⟨kv, _, cs, ns.set q (t + 1), HF.out.hit hqn _, by rw [List.length_set]; exact HL.out, by omega, ?_, ?_, HO.out⟩, HG.out.setCell (p := ⟨gt, q, none⟩) (by rcases HO.out gt (.inr rfl) with h | h; exact .inl (.inr h); exact .inr h) _⟩
          · refine lk_bump key hlt (by omega) HT.out fun c' => ?_
            rw [← HC.out, HQ.out, lk_hit HL.out HIN.out, HK.out]
          · have hb := bd_set HB.out (by omega) HTT.out
            have e1 : M + ((r + 1 : Nat) : Int) = M + r + 1 := by omega
            rw [e1]; exact hb
        case measure => simp [intOf]; omega
      · have hx : ixI cs c = -1 := by rw [ixI, if_neg hin]
        rw [hx]
        have HIN := Lib.hid hin
        clear hin hx
        obtain ⟨ka, kcap, rfl, _, _, _⟩ := own_form HF.out.ko
        obtain ⟨na, ncap, rfl, _, _, _⟩ := own_form HF.out.no
        have hck : cs.length ≤ 60000 := by omega
        have nep : some p ≠ (Value.slice ka cs.length kcap).ownBlock := own_ne HF.out.ko hpb.1
        have neq : some p ≠ (Value.slice na ns.length ncap).ownBlock := own_ne HF.out.no hpb.1
        have NEP := Lib.hid nep
        have NEQ := Lib.hid neq
        clear nep neq
        go_wp2_with (first
          | (at_builtin; refine wpList_append_lies _ rfl _ _ 81 rfl B 3 it _ 1 8 Try.underlying81 hit tz0 tz1 tz2 rfl (by decide) _ cs.length _ rfl (HF.out.ko.alloc _) ⟨wr.heap.size, 0, none⟩ 1 1 [.int .i64 c] rfl rfl (one_at _ _ _) (ints_oneCell .i64 [c]) (by decide) (by unfold maxLen; omega) (by omega) (by simp; omega) (wr.heap.size + 1) (by simp) ?_; intro g1 cap1 w2 ho1 hg1 at1 lt1; have f2 := HF.out.grown hg1 NEP.out; have k4 : w2.cell? ⟨p, 4, none⟩ = some (Value.slice ka cs.length kcap) := (by rw [f2.1]; exact c4); have k5 : w2.cell? ⟨p, 5, none⟩ = some (Value.slice na ns.length ncap) := (by rw [f2.1]; exact c5); have kf := f2.2.1; have R2 := Lib.hid (HF.out.push4 hg1 ho1 at1); have z2 := f2.2.2; clear f2)
          | (at_builtin; refine wpList_append_lies _ rfl _ _ 81 rfl B 3 it _ 1 8 Try.underlying81 hit tz0 tz1 tz2 rfl (by decide) _ ns.length _ rfl (R2.out.no.alloc _) ⟨w2.heap.size, 0, none⟩ 1 1 [.int .i64 1] rfl rfl (one_at2 (by simp [World.setCell]) _ _) (ints_oneCell .i64 [1]) (by decide) (by unfold maxLen; omega) (by omega) (by simp [World.setCell]; omega) (w2.heap.size + 1) (by simp [World.setCell]) ?_; intro g2 cap2 w3 ho2 hg2 at2 lt2; have f3 := R2.out.grown hg2 NEQ.out; have k53 : w3.cell? ⟨p, 5, none⟩ = some (Value.slice na ns.length ncap) := (by rw [f3.1]; exact R2.out.c5); have kf3 := f3.2.1; clear f3))
        go_roundw
        case rel =>
          have e1 : M + ((r + 1 : Nat) : Int) = M + r + 1 := by omega
          refine ⟨r + 1, by omega, by go_num, ⟨_, _, cs ++ [c], ns ++ [1], R2.out.push5 hg2 ho2 (by rcases at2 with h | h; exact .inl h; exact .inr (by rw [h]; simp [World.setCell])), by simp [HL.out], by simp; omega, ?_, ?_, ?_⟩, ?_⟩
          · refine lk_bump key hlt (by omega) HT.out fun c' => ?_
            rw [← HC.out, lk_new HL.out HIN.out, lk_out HL.out HIN.out]; rfl
          · rw [e1]; exact bd_snoc1 HB.out (by omega)
          · have sz := HG.out.size
            intro c hc
            rcases hc with hc | hc
            · have e2 : c = g1 := by simpa [Value.ownBlock] using hc.symm
              rcases at1 with h | h
              · rw [e2]; exact HO.out g1 (.inl h)
              · right; omega
            · have e2 : c = g2 := by simpa [Value.ownBlock] using hc.symm
              rcases at2 with h | h
              · rw [e2]; exact HO.out g2 (.inr h)
              · right; omega
          · have ow : ∀ c, (O c ∨ w.heap.size ≤ c) → (c = p ∨ O c) ∨ w.heap.size ≤ c := fun c hc => by
              rcases hc with h | h
              · exact .inl (.inr h)
              · exact .inr h
            refine Chg.setCell ?_ (.inl (.inl rfl)) _
            refine Chg.grown ?_ hg2 (fun k hk => ow k (HO.out k (.inr hk)))
            refine Chg.alloc ?_ _
            refine Chg.setCell ?_ (.inl (.inl rfl)) _
            refine Chg.grown ?_ hg1 (fun k hk => ow k (HO.out k (.inl hk)))
            exact HG.out.alloc _
        case measure => simp [intOf]; omega
    · obtain rfl : r = n := by omega
      have c2 := HF.out.c2
      have c3 := HF.out.c3
      have fz := HF.out.fz
      have R3 := Lib.hid (HF.out.setAdds (adds + 1))
      have hll2 : ns.length ≤ 100000 := by omega
      by_cases he : adds + 1 = after
      · subst he
        go_wp2_with fail
        go_quiet (fail)
        go_wp2_with fail
        refine (rage_any _ _ _ _ _ _ _ _ cs ns B (R3.out.chg (Chg.drewN (Chg.refl (fun _ => False) _) _) id (fun _ _ => id)) hll2 (fun t ht => by have := HB.out t ht; omega)).mono ?_; rintro e w2 ⟨rfl, hr, hc⟩
        have HR2 := Lib.hid hr
        clear hr
        go_wp2
        go_end0
        refine ⟨rfl, ?_, ((HG.out.setCell (.inl (.inl rfl)) _).drewN _).trans hc (fun c hlt h => by
          rcases h with h | h
          · exact .inl h
          · have hb := own_below HF.out.no h
            rcases HO.out c (.inr h) with h1 | h1
            · exact .inr h1
            · have := HG.out.size; omega)⟩
        exact ⟨_, _, _, _, HR2.out, by simpa using HL.out, by omega, fun i hi j hj => by rw [lk_half, HT.out i hi j hj]; rfl, bd_half HB.out, fun c hc => grow_of (HO.out c hc) (by rcases hc with hc | hc; exact (own_below HR2.out.ko hc).2; exact (own_below HR2.out.no hc).2)⟩
      · have hd : (adds + 1 == after) = false := by simpa using he
        go_wp2_with fail
        go_quiet (fail)
        go_wp2_with fail
        go_end0
        refine ⟨rfl, ?_, (HG.out.setCell (.inl (.inl rfl)) _).drewN _⟩
        exact ⟨_, _, _, _, R3.out.chg (Chg.drewN (Chg.refl (fun _ => False) _) _) id (fun _ _ => id), HL.out, by omega, HT.out, HB.out, fun c hc => grow_of (HO.out c hc) (by simp [World.setCell]; rcases hc with hc | hc; exact (own_below HF.out.ko hc).2; exact (own_below HF.out.no hc).2)⟩

/-- The reference's sketch, its blocks among O. -/
def RfO (w : World) (O : Nat → Prop) (p n W : Nat) (after adds : Int) (T : Nat → Nat → Int) (m : Nat) (M : Int) : Prop := ∃ B, RfT w p n W after adds T B O m M ∧ O p ∧ ∀ c, O c → c < w.heap.size
theorem RfO.chg {w w' : World} {O S : Nat → Prop} {p n W : Nat} {after adds : Int} {T : Nat → Nat → Int} {m : Nat} {M : Int} (h : RfO w O p n W after adds T m M) (c : Chg S w w') (hS : ∀ i, O i → ¬ S i) : RfO w' O p n W after adds T m M := by
  obtain ⟨B, ⟨kv, nv, cs, ns, h1, h2, h3, h4, h5, h6⟩, hp, hl⟩ := h
  have lp := cell_lt h1.c0
  have hp' := hS p hp
  exact ⟨B, ⟨kv, nv, cs, ns, ⟨(c.cell lp hp' 0).trans h1.c0, (c.cell lp hp' 1).trans h1.c1, (c.cell lp hp' 2).trans h1.c2, (c.cell lp hp' 3).trans h1.c3, (c.cell lp hp' 4).trans h1.c4, (c.cell lp hp' 5).trans h1.c5, fun o => (c.frozen lp hp' o).trans (h1.fz o),
    own_chg h1.ko c (fun g _ _ hg => hS g (h6 g (.inl hg))), own_chg h1.no c (fun g _ _ hg => hS g (h6 g (.inr hg))), h1.ne, h1.pb.1, Nat.le_trans h1.pb.2 c.size⟩, h2, h3, h4, h5, h6⟩, hp, fun i hi => Nat.lt_of_lt_of_le (hl i hi) c.size⟩
theorem RfO.wide {w : World} {O O' : Nat → Prop} {p n W : Nat} {after adds : Int} {T : Nat → Nat → Int} {m : Nat} {M : Int} (h : RfO w O p n W after adds T m M) (h1 : ∀ k, O k → O' k) (h2 : ∀ k, O' k → k < w.heap.size) : RfO w O' p n W after adds T m M := by
  obtain ⟨B, ⟨kv, nv, cs, ns, a1, a2, a3, a4, a5, a6⟩, hp, hl⟩ := h
  exact ⟨B, ⟨kv, nv, cs, ns, a1, a2, a3, a4, a5, fun c hc => h1 c (a6 c hc)⟩, h1 p hp, h2⟩
theorem radd_o (w : World) (O : Nat → Prop) (p n W : Nat) (after adds : Int) (T : Nat → Nat → Int) (m : Nat) (M : Int) (key : Int) (h : RfO w O p n W after adds T m M) (hn : 1 ≤ n ∧ n ≤ 8) (hW : 1 ≤ W ∧ W ≤ 65536) (hk : 0 ≤ key ∧ key ≤ 18446744073709551615) (hm : m ≤ 50000) (hM : 0 ≤ M ∧ M ≤ 1000000000) (ha : 0 ≤ adds ∧ adds + 1 < after ∧ adds ≤ 4611686018427387904) :
    Calls Try.prog 39 #[.pointer (some ⟨p, 0, none⟩), .int .u64 key] w fun e w' => e = .returned (.tuple #[]) ∧ RfO w' (GrowS O w w') p n W after (adds + 1) (bump T W key n) (m + n) (M + n) ∧ Chg O w w' := by
  obtain ⟨B, h1, hp, hl⟩ := h
  refine (radd_own w O p n W after adds T B m M key h1 hn hW hk hm hM ⟨ha.1, ha.2.2⟩).mono ?_
  rintro e w' ⟨rfl, k1, k2⟩
  rw [if_neg (by omega)] at k1
  refine ⟨rfl, ⟨B, k1, .inl hp, fun c hc => ?_⟩, k2.mono fun i _ hi => ?_⟩
  · rcases hc with hc | hc
    · exact Nat.lt_of_lt_of_le (hl c hc) k2.size
    · exact hc.2
  · rcases hi with rfl | hi
    · exact hp
    · exact hi
theorem rcount_o (w : World) (O : Nat → Prop) (p n W : Nat) (after adds : Int) (T : Nat → Nat → Int) (m : Nat) (M : Int) (key : Int) (h : RfO w O p n W after adds T m M) (hn : 1 ≤ n ∧ n ≤ 8) (hW : 1 ≤ W ∧ W ≤ 65536) (hk : 0 ≤ key ∧ key ≤ 18446744073709551615) (hm : m ≤ 60000) (hM : 0 ≤ M ∧ M ≤ 1000000000000) (hT0 : ∀ i j, 0 ≤ T i j) :
    Calls Try.prog 35 #[.pointer (some ⟨p, 0, none⟩), .int .u64 key] w fun e w' => e = .returned (.int .i64 (leastF T W key n)) ∧ w = w' := by
  obtain ⟨B, h1, _⟩ := h
  exact rcount_any w p n W after adds T B O m M key h1 hn hW hk hm hM hT0
end Go.Proofs.Ytdoepjokaekckaa.Sk
