/- Towards the law: a small language into which the program is turned, its soundness, and what the functions answer: part 6. -/
import Derived.Test.YtgkmheobocnenaaGreatVa05
import Derived.ProofKit
import Derived.Test.YtgkmheobocnenaaGreatRows
import Derived.OpenShut
import Derived.Test.YtgkmheobocnenaaGreatProg
import Derived.Shelf.Spec.SlicesInsert
import Derived.Lib.AppendZerosOnto
import Derived.WalkKit
set_option linter.unusedSimpArgs false
set_option linter.unusedVariables false
set_option linter.unusedSectionVars false
set_option linter.unnecessarySimpa false
section
open Go.Proofs
namespace Go.Va

/-! ### Falling lists -/
theorem pvF_iff : ∀ (p : Poly) (o : Option Mono), pvF o p = true ↔ Desc p ∧ (∀ t ∈ p, t.c ≠ 0 ∧ mvalid t.m = true) ∧ (∀ m, o = some m → ∀ t ∈ p, 0 < mcmp m t.m)
  | [], o => by simp [pvF, Desc]
  | t :: p, o => by
    simp only [pvF, Bool.and_eq_true, pvF_iff p]
    have ht : tok o t = true ↔ (t.c ≠ 0 ∧ mvalid t.m = true) ∧ (∀ m, o = some m → 0 < mcmp m t.m) := by
      cases o with
      | none => simp [tok]
      | some m => simp [tok]
    rw [ht]
    unfold Desc
    rw [List.pairwise_cons]
    constructor
    · rintro ⟨⟨h1, h2⟩, h3, h4, h5⟩
      refine ⟨⟨h5 _ rfl, h3⟩, ?_, ?_⟩
      · intro u hu
        rcases List.mem_cons.1 hu with rfl | hu
        · exact h1
        · exact h4 u hu
      · intro m hm u hu
        rcases List.mem_cons.1 hu with rfl | hu
        · exact h2 m hm
        · exact mcmp_trans (h2 m hm) (h5 _ rfl u hu)
    · rintro ⟨⟨h1, h2⟩, h3, h4⟩
      exact ⟨⟨h3 t (by simp), fun m hm => h4 m hm t (by simp)⟩, h2, fun u hu => h3 u (by simp [hu]), fun m hm u hu => by cases hm; exact h1 u hu⟩
theorem pvalid_iff {p : Poly} : pvalid p = true ↔ Desc p ∧ ∀ t ∈ p, t.c ≠ 0 ∧ mvalid t.m = true := by
  unfold pvalid
  rw [pvF_iff]
  simp
theorem desc_nodup {p : Poly} (h : Desc p) : (monos p).Nodup := by
  unfold Desc at h
  unfold monos
  rw [List.Nodup, List.pairwise_map]
  exact h.imp fun hab => mcmp_ne hab
theorem desc_padd : ∀ (p : Poly) (b : Term), Desc p → (∀ a ∈ p, a.m ≠ b.m) → Desc (padd p [b])
  | [], b, _, _ => by simp [padd, Desc]
  | a :: p, b, hd, hn => by
    have hd' := List.pairwise_cons.1 hd
    have hp : List.Perm (padd p [b]) (p ++ [b]) := padd_one p b fun x hx he => hn x (by simp [hx]) (mcmp_eq he)
    have hi := desc_padd p b hd'.2 fun x hx => hn x (by simp [hx])
    unfold padd
    split
    · rename_i h1
      refine List.pairwise_cons.2 ⟨fun u hu => ?_, hi⟩
      have := hp.mem_iff.1 hu
      simp at this
      rcases this with h | rfl
      · exact hd'.1 u h
      · exact h1
    · rename_i h1
      split
      · rename_i h2
        rw [padd_nil]
        have h3 : 0 < mcmp b.m a.m := by rw [mcmp_anti]; omega
        refine List.pairwise_cons.2 ⟨fun u hu => ?_, hd⟩
        rcases List.mem_cons.1 hu with rfl | hu
        · exact h3
        · exact mcmp_trans h3 (hd'.1 u hu)
      · rename_i h2
        exact absurd (mcmp_eq (show mcmp a.m b.m = 0 by omega)) (hn a (by simp))
/-- The terms, sorted. -/
def sortP (l : Poly) : Poly := l.foldl (fun out t => padd out [t]) []
theorem sortP_go : ∀ (l out : Poly), Desc out → (∀ t ∈ l, ∀ a ∈ out, a.m ≠ t.m) → (monos l).Nodup → Desc (l.foldl (fun out t => padd out [t]) out) ∧ (l.foldl (fun out t => padd out [t]) out).Perm (out ++ l)
  | [], out, h, _, _ => by simp [h]
  | t :: l, out, h, hn, hd => by
    simp only [List.map_cons, List.nodup_cons] at hd
    have hp : List.Perm (padd out [t]) (out ++ [t]) := padd_one out t fun x hx he => hn t (by simp) x hx (mcmp_eq he)
    obtain ⟨h1, h2⟩ := sortP_go l (padd out [t]) (desc_padd out t h fun a ha => hn t (by simp) a ha) (by
      intro u hu a ha
      have := hp.mem_iff.1 ha
      simp at this
      rcases this with h | rfl
      · exact hn u (by simp [hu]) a h
      · exact fun e => hd.1 (by rw [e]; exact List.mem_map_of_mem hu)) hd.2
    refine ⟨h1, h2.trans ?_⟩
    have := hp.append_right l
    simpa using this
theorem sortP_spec {l : Poly} (h : (monos l).Nodup) : Desc (sortP l) ∧ (sortP l).Perm l := by
  have := sortP_go l [] (by simp [Desc]) (by simp) h
  rw [List.nil_append] at this
  exact this
theorem desc_unique : ∀ {a b : Poly}, Desc a → Desc b → a.Perm b → a = b
  | [], b, _, _, h => by have := h.length_eq; simp at this; exact (List.eq_nil_of_length_eq_zero this.symm).symm
  | x :: a, [], _, _, h => by have := h.length_eq; simp at this
  | x :: a, y :: b, ha, hb, h => by
    have ha' := List.pairwise_cons.1 ha
    have hb' := List.pairwise_cons.1 hb
    have hx : x ∈ y :: b := h.mem_iff.1 (by simp)
    have hy : y ∈ x :: a := h.mem_iff.2 (by simp)
    have e : x = y := by
      rcases List.mem_cons.1 hx with e | hx
      · exact e
      · rcases List.mem_cons.1 hy with e | hy
        · exact e.symm
        · have h1 := hb'.1 x hx
          have h2 := ha'.1 y hy
          rw [mcmp_anti] at h1
          omega
    subst e
    rw [desc_unique ha'.2 hb'.2 (List.Perm.cons_inv h)]
theorem permute_sort (pm : Mono) (p : Poly) : permute pm p = sortP (p.map (pT pm)) := by
  unfold permute sortP
  rw [List.foldl_map]
  rfl
theorem permute_desc {pm : Mono} (hp : IsPerm pm.l) {p : Poly} (hn : (monos p).Nodup) : Desc (permute pm p) := by
  rw [permute_sort]
  exact (sortP_spec (nodup_pT hp hn)).1
theorem permute_valid {pm : Mono} (hp : IsPerm pm.l) {p : Poly} (hv : pvalid p = true) : pvalid (permute pm p) = true := by
  have hn := pvalid_nodup hv
  rw [pvalid_iff] at hv ⊢
  refine ⟨permute_desc hp hn, fun t ht => ?_⟩
  obtain ⟨u, hu, rfl⟩ := List.mem_map.1 ((permute_perm hp hn).mem_iff.1 ht)
  exact ⟨(hv.2 u hu).1, permM_valid (hv.2 u hu).2⟩

/-! ### Bits -/
theorem supF_succ : ∀ (l : List Int) (i : Nat), supF l (i + 1) = 2 * supF l i
  | [], _ => rfl
  | x :: l, i => by
    simp only [supF, supF_succ l (i + 1), Nat.pow_succ]
    split <;> omega
theorem supF_bit : ∀ (l : List Int) (i : Nat), (supF l 0).testBit i = decide (0 < l.getD i 0)
  | [], i => by simp [supF]
  | x :: l, i => by
    have ih := supF_bit l
    have e : supF (x :: l) 0 = (if 0 < x then 1 else 0) + 2 * supF l 0 := by simp [supF, supF_succ]
    rw [e]
    cases i with
    | zero =>
      simp only [Nat.testBit_zero, List.getD_cons_zero]
      by_cases h : 0 < x
      · simp [h]
      · simp [h]
    | succ i =>
      rw [Nat.testBit_succ, List.getD_cons_succ, ← ih i]
      congr 1
      split <;> omega
theorem puse_bit (p : Poly) (i : Nat) : (puse p).testBit i = p.any fun t => decide (0 < t.m.l.getD i 0) := by
  have : ∀ (p : Poly) (n : Nat), (p.foldl (fun n t => n ||| msup t.m) n).testBit i = (n.testBit i || p.any fun t => decide (0 < t.m.l.getD i 0)) := by
    intro p
    induction p with
    | nil => simp
    | cons t p ih =>
      intro n
      rw [List.foldl_cons, ih, Nat.testBit_or, List.any_cons, show (msup t.m).testBit i = decide (0 < t.m.l.getD i 0) from supF_bit t.m.l i, Bool.or_assoc]
  have h := this p 0
  simpa [puse] using h
theorem use_lt {p : Poly} {n : Nat} : (puse p : Int).fdiv (2 ^ n) = 0 ↔ ∀ t ∈ p, ∀ i, n ≤ i → ¬ 0 < t.m.l.getD i 0 := by
  have e : (puse p : Int).fdiv (2 ^ n) = ((puse p / 2 ^ n : Nat) : Int) := by
    rw [Int.fdiv_eq_ediv_of_nonneg _ (Int.le_of_lt (Int.pow_pos (by decide)))]
    simp
  rw [e]
  have e2 : ((puse p / 2 ^ n : Nat) : Int) = 0 ↔ puse p < 2 ^ n := by
    rw [Int.natCast_eq_zero, Nat.div_eq_zero_iff]
    have : (2 : Nat) ^ n ≠ 0 := by exact Nat.ne_of_gt (Nat.pow_pos (by decide))
    omega
  rw [e2]
  constructor
  · intro h t ht i hi h0
    have : (puse p).testBit i = true := by
      rw [puse_bit, List.any_eq_true]; exact ⟨t, ht, by simpa using h0⟩
    have h2 : (puse p).testBit i = false := Nat.testBit_lt_two_pow (Nat.lt_of_lt_of_le h (Nat.pow_le_pow_right (by decide) hi))
    rw [this] at h2; cases h2
  · intro h
    refine Nat.lt_pow_two_of_testBit _ fun i hi => ?_
    rw [puse_bit, List.any_eq_false]
    intro t ht
    simpa using h t ht i hi
theorem usedP_iff {p : Poly} {i : Int} (_ : 0 ≤ i) : usedP i p = true ↔ ∃ t ∈ p, 0 < t.m.l.getD i.toNat 0 := by
  unfold usedP
  have e : (puse p : Int).fdiv (2 ^ i.toNat) = ((puse p / 2 ^ i.toNat : Nat) : Int) := by
    rw [Int.fdiv_eq_ediv_of_nonneg _ (Int.le_of_lt (Int.pow_pos (by decide)))]
    simp
  have hb := puse_bit p i.toNat
  rw [Nat.testBit_eq_decide_div_mod_eq] at hb
  rw [e, decide_eq_true_iff]
  have e2 : (((puse p / 2 ^ i.toNat : Nat) : Int).tmod 2 = 1) ↔ (puse p / 2 ^ i.toNat % 2 = 1) := by
    rw [Int.tmod_eq_emod_of_nonneg (Int.natCast_nonneg _)]
    omega
  rw [e2]
  have e3 : (puse p / 2 ^ i.toNat % 2 = 1) ↔ (p.any fun t => decide (0 < t.m.l.getD i.toNat 0)) = true := by
    rw [← hb]; simp
  rw [e3, List.any_eq_true]
  simp

/-! ### Where exponents go -/
theorem rot_inv : (nat4.all fun a => nat4.all fun b => (List.range 8).all fun j => decide ((rotL a b).getD ((rotL b a).getD j 0).toNat 0 = (j : Int)) && decide (((rotL b a).getD j 0).toNat < 8)) = true := by decide
theorem swp_inv : (nat4.all fun a => nat4.all fun b => (List.range 8).all fun j => decide ((swpL a b).getD ((swpL a b).getD j 0).toNat 0 = (j : Int)) && decide (((swpL a b).getD j 0).toNat < 8)) = true := by decide
theorem permM_get {pm : Mono} (hp : IsPerm pm.l) (m : Mono) {i j : Nat} (hi : i < 8) (hj : pm.l.getD i 0 = (j : Int)) : (permM pm m).l.getD j 0 = m.l.getD i 0 := by
  have hr : ∀ y ∈ pm.l, 0 ≤ y ∧ y.toNat < mono1.l.length := by
    intro y hy
    have := isPerm_range hp y hy
    have e : mono1.l.length = 8 := mono1.h
    omega
  have hg : pm.l[i]? = some (j : Int) := by
    rw [List.getElem?_eq_getElem (by simp; omega)]
    rw [List.getD_eq_getElem?_getD, List.getElem?_eq_getElem (by simp; omega)] at hj
    simpa using hj
  have := permG_get pm.l m.l mono1.l (isPerm_nodup hp) hr (by simp) i _ hg
  simp only [Int.toNat_natCast] at this
  rw [List.getD_eq_getElem?_getD, List.getD_eq_getElem?_getD]
  exact congrArg (·.getD 0) this
theorem rot_get {a b : Int} (ha : 0 ≤ a ∧ a ≤ 4) (hb : 0 ≤ b ∧ b ≤ 4) (m : Mono) {j : Nat} (hj : j < 8) : (permM (rotM a b) m).l.getD j 0 = m.l.getD ((rotL b a).getD j 0).toNat 0 := by
  have := List.all_eq_true.1 (List.all_eq_true.1 (List.all_eq_true.1 rot_inv a (mem_nat4 ha.1 ha.2)) b (mem_nat4 hb.1 hb.2)) j (List.mem_range.2 hj)
  simp only [Bool.and_eq_true, decide_eq_true_eq] at this
  exact permM_get (isPerm_rot ha hb) m this.2 this.1
theorem swp_get {a b : Int} (ha : 0 ≤ a ∧ a ≤ 4) (hb : 0 ≤ b ∧ b ≤ 4) (m : Mono) {j : Nat} (hj : j < 8) : (permM (swpM a b) m).l.getD j 0 = m.l.getD ((swpL a b).getD j 0).toNat 0 := by
  have := List.all_eq_true.1 (List.all_eq_true.1 (List.all_eq_true.1 swp_inv a (mem_nat4 ha.1 ha.2)) b (mem_nat4 hb.1 hb.2)) j (List.mem_range.2 hj)
  simp only [Bool.and_eq_true, decide_eq_true_eq] at this
  exact permM_get (isPerm_swp ha hb) m this.2 this.1
theorem rot_fix : (nat4.all fun a => nat4.all fun b => (List.range 8).all fun j => decide (a < (j : Int) ∧ b < (j : Int) → (rotL b a).getD j 0 = (j : Int)) && decide ((rotL b a).getD b.toNat 0 = a)) = true := by decide
theorem swp_fix : (nat4.all fun a => nat4.all fun b => (List.range 8).all fun j => decide (a < (j : Int) ∧ b < (j : Int) → (swpL a b).getD j 0 = (j : Int))) = true := by decide
theorem rot_high {a b : Int} (ha : 0 ≤ a ∧ a ≤ 4) (hb : 0 ≤ b ∧ b ≤ 4) {j : Nat} (hj : j < 8) (h1 : a < j) (h2 : b < j) : (rotL b a).getD j 0 = (j : Int) := by
  have := List.all_eq_true.1 (List.all_eq_true.1 (List.all_eq_true.1 rot_fix a (mem_nat4 ha.1 ha.2)) b (mem_nat4 hb.1 hb.2)) j (List.mem_range.2 hj)
  simp only [Bool.and_eq_true, decide_eq_true_eq] at this
  exact this.1 ⟨h1, h2⟩
theorem rot_at {a b : Int} (ha : 0 ≤ a ∧ a ≤ 4) (hb : 0 ≤ b ∧ b ≤ 4) : (rotL b a).getD b.toNat 0 = a := by
  have := List.all_eq_true.1 (List.all_eq_true.1 (List.all_eq_true.1 rot_fix a (mem_nat4 ha.1 ha.2)) b (mem_nat4 hb.1 hb.2)) 0 (List.mem_range.2 (by decide))
  simp only [Bool.and_eq_true, decide_eq_true_eq] at this
  exact this.2
theorem swp_high {a b : Int} (ha : 0 ≤ a ∧ a ≤ 4) (hb : 0 ≤ b ∧ b ≤ 4) {j : Nat} (hj : j < 8) (h1 : a < j) (h2 : b < j) : (swpL a b).getD j 0 = (j : Int) := by
  have := List.all_eq_true.1 (List.all_eq_true.1 (List.all_eq_true.1 swp_fix a (mem_nat4 ha.1 ha.2)) b (mem_nat4 hb.1 hb.2)) j (List.mem_range.2 hj)
  simp only [decide_eq_true_eq] at this
  exact this ⟨h1, h2⟩
theorem getD8 {m : Mono} {j : Nat} (hj : ¬ j < 8) : m.l.getD j 0 = 0 := by
  rw [List.getD_eq_getElem?_getD, List.getElem?_eq_none (by simp; omega)]; rfl

/-! ### Degrees -/
theorem mono8 (m : Mono) : ∃ x0 x1 x2 x3 x4 x5 x6 x7, m.l = [x0, x1, x2, x3, x4, x5, x6, x7] := by
  obtain ⟨l, h⟩ := m
  match l, h with
  | [x0, x1, x2, x3, x4, x5, x6, x7], _ => exact ⟨x0, x1, x2, x3, x4, x5, x6, x7, rfl⟩
theorem nat4_cases {a : Int} (h0 : 0 ≤ a) (h4 : a ≤ 4) : a = 0 ∨ a = 1 ∨ a = 2 ∨ a = 3 ∨ a = 4 := by omega
theorem mdeg_permL {pm : Mono} (hp : IsPerm pm.l) (m : Mono) : mdeg (permM pm m) = mdeg m := by
  obtain ⟨a, b, ha, hb, h⟩ := hp
  obtain ⟨x0, x1, x2, x3, x4, x5, x6, x7, hm⟩ := mono8 m
  have e : (permM pm m).l = (pm.l.zip m.l).foldl permG mono1.l := rfl
  unfold mdeg
  rw [e, hm]
  rcases nat4_cases ha.1 ha.2 with rfl | rfl | rfl | rfl | rfl <;> rcases nat4_cases hb.1 hb.2 with rfl | rfl | rfl | rfl | rfl <;> rcases h with h | h <;> rw [h] <;> simp [rotL, swpL, rotI, swpI, permG, mono1] <;> omega
theorem pdeg_max : ∀ (p : Poly) (d k : Int), p.foldl (fun d t => max d (mdeg t.m)) d ≤ k ↔ d ≤ k ∧ ∀ t ∈ p, mdeg t.m ≤ k
  | [], d, k => by simp
  | t :: p, d, k => by
    rw [List.foldl_cons, pdeg_max p]
    simp only [List.mem_cons, forall_eq_or_imp, Int.max_le, and_assoc]
theorem pdeg_le {p : Poly} {k : Int} (h : -1 ≤ k) : pdeg p ≤ k ↔ ∀ t ∈ p, mdeg t.m ≤ k := by
  unfold pdeg
  rw [pdeg_max]
  exact ⟨fun h => h.2, fun h2 => ⟨h, h2⟩⟩
/-- A permuted polynomial fits. -/
theorem fits_permute {pm : Mono} (hp : IsPerm pm.l) {p : Poly} {n k : Nat} (hf : fits p n = true) (hk : ∀ t ∈ p, ∀ j, k ≤ j → j < 8 → ¬ 0 < (permM pm t.m).l.getD j 0) : fits (permute pm p) k = true := by
  unfold fits at hf ⊢
  simp only [Bool.and_eq_true, decide_eq_true_eq] at hf ⊢
  obtain ⟨⟨h1, h2⟩, h3⟩ := hf
  have hq := permute_perm hp (pvalid_nodup h1)
  refine ⟨⟨permute_valid hp h1, ?_⟩, ?_⟩
  · rw [use_lt]
    intro t ht i hi
    obtain ⟨u, hu, rfl⟩ := List.mem_map.1 (hq.mem_iff.1 ht)
    by_cases hi8 : i < 8
    · exact hk u hu i hi hi8
    · rw [getD8 hi8]; omega
  · rw [pdeg_le (by decide)] at h3 ⊢
    intro t ht
    obtain ⟨u, hu, rfl⟩ := List.mem_map.1 (hq.mem_iff.1 ht)
    have := h3 u hu
    rw [show (pT pm u).m = permM pm u.m from rfl, mdeg_permL hp]; exact this
end Go.Va
end
section
open Go.Proofs
namespace Go.Va

/-! ### Lists of equations -/
theorem mem_dropE {l : List Eqn} {id : Int} {x : Eqn} : x ∈ drop l id ↔ x ∈ l ∧ x.id ≠ id := by simp [drop]
theorem drop_drop (l : List Eqn) (id : Int) : drop (drop l id) id = drop l id := by simp [drop]
theorem drop_len (l : List Eqn) (id : Int) : (drop l id).length ≤ l.length := List.length_filter_le _ _
theorem drop_none {l : List Eqn} {id : Int} (h : ∀ x ∈ l, x.id ≠ id) : drop l id = l := by
  unfold drop
  rw [List.filter_eq_self]
  intro x hx
  simpa using h x hx
theorem drop_some {l : List Eqn} {id : Int} {x : Eqn} (h : x ∈ l) (hx : x.id = id) : (drop l id).length < l.length := by
  unfold drop
  have := List.length_filter_lt_length_iff_exists (p := fun x : Eqn => !decide (x.id = id)) (l := l)
  exact this.2 ⟨x, h, by simp [hx]⟩
theorem findL_mem (id : Int) : ∀ (l : List Eqn) (i : Nat), (findL (fun i (x : Eqn) => if x.id = id then some (i : Int) else none) l i = none ↔ ∀ x ∈ l, x.id ≠ id) ∧ ∀ z, findL (fun i (x : Eqn) => if x.id = id then some (i : Int) else none) l i = some z → 0 ≤ z
  | [], _ => by simp [findL]
  | x :: l, i => by
    obtain ⟨h1, h2⟩ := findL_mem id l (i + 1)
    unfold findL
    by_cases hx : x.id = id
    · simp [hx]
    · simp only [hx, if_false]
      refine ⟨?_, h2⟩
      rw [h1]
      simp [hx]
theorem find_pos {l : List Eqn} {id : Int} : 0 ≤ find l id ↔ ∃ x ∈ l, x.id = id := by
  obtain ⟨h1, h2⟩ := findL_mem id l 0
  unfold find
  cases h : findL (fun i (x : Eqn) => if x.id = id then some (i : Int) else none) l 0 with
  | none =>
    have := h1.1 h
    simp only [Option.getD_none]
    constructor
    · intro h; omega
    · rintro ⟨x, hx, he⟩; exact absurd he (this x hx)
  | some z =>
    have hz := h2 z h
    simp only [Option.getD_some]
    refine ⟨fun _ => ?_, fun _ => hz⟩
    apply Classical.byContradiction
    intro hn
    have : ∀ x ∈ l, x.id ≠ id := fun x hx he => hn ⟨x, hx, he⟩
    rw [h1.2 this] at h
    cases h
theorem getE_mem {l : List Eqn} {id : Int} (h : 0 ≤ find l id) : getE l id ∈ l ∧ (getE l id).id = id := by
  obtain ⟨x, hx, he⟩ := find_pos.1 h
  unfold getE
  cases hf : l.find? fun x => decide (x.id = id) with
  | none =>
    have := List.find?_eq_none.1 hf x hx
    simp [he] at this
  | some y =>
    simp only [Option.getD_some]
    exact ⟨List.mem_of_find?_eq_some hf, by simpa using List.find?_some hf⟩
theorem putF_mem (x y : Eqn) : ∀ (l : List Eqn) (b : Bool), y ∈ putF x l b → y = x ∨ (y ∈ l ∧ y.id ≠ x.id)
  | [], b, h => by
    unfold putF at h
    cases b <;> simp at h
    exact .inl h
  | z :: l, b, h => by
    unfold putF at h
    rw [List.mem_append, List.mem_append] at h
    rcases h with (h | h) | h
    · split at h
      · simp at h; exact .inl h
      · simp at h
    · split at h
      · simp at h
      · rename_i hz
        simp at h
        subst h
        exact .inr ⟨List.mem_cons_self .., hz⟩
    · rcases putF_mem x y l _ h with h | h
      · exact .inl h
      · exact .inr ⟨List.mem_cons_of_mem _ h.1, h.2⟩
theorem put_mem {x y : Eqn} {l : List Eqn} (h : y ∈ put l x) : y = x ∨ (y ∈ l ∧ y.id ≠ x.id) := putF_mem x y l false h
theorem putF_len (x : Eqn) : ∀ (l : List Eqn) (b : Bool), (putF x l b).length = (drop l x.id).length + (if b then 0 else 1)
  | [], b => by cases b <;> rfl
  | z :: l, b => by
    unfold putF
    rw [List.length_append, List.length_append, putF_len x l]
    by_cases h1 : z.id = x.id
    · cases b <;> simp [drop, h1, Nat.add_comm]
    · cases b
      · by_cases h2 : x.id ≤ z.id
        · simp [drop, h1, h2]; omega
        · simp [drop, h1, h2]; omega
      · simp [drop, h1]; omega
theorem put_len (l : List Eqn) (x : Eqn) : (put l x).length = (drop l x.id).length + 1 := putF_len x l false
/-! ### Good systems -/
structure Good (s : Sys) : Prop where
  vars : s.vars.length ≤ 4
  leqs : s.eqs.length ≤ 12
  lneqs : s.neqs.length ≤ 12
  pe : ∀ x ∈ s.eqs, PG x.p
  pn : ∀ x ∈ s.neqs, PG x.p
  ie : ∀ x ∈ s.eqs, 1 ≤ x.id ∧ x.id < s.next
  iN : ∀ x ∈ s.neqs, 1 ≤ x.id ∧ x.id < s.next
  dis : ∀ x ∈ s.eqs, ∀ y ∈ s.neqs, x.id ≠ y.id
  lo : 1 ≤ s.next
  hi : s.next ≤ 1000000
theorem Good.sw {s : Sys} (h : Good s) : SW s :=
  ⟨h.vars, ⟨h.leqs, fun x hx => (h.pe x hx).1⟩, ⟨h.lneqs, fun x hx => (h.pn x hx).1⟩, by have := h.lo; omega, by have := h.hi; omega⟩
theorem Good.sa {s : Sys} (h : Good s) : SA s := by
  intro pm hpm x hx
  rcases List.mem_append.1 hx with hx | hx
  · exact apart_PG hpm (h.pe x hx)
  · exact apart_PG hpm (h.pn x hx)
theorem Good.two {s : Sys} (h : Good s) (id : Int) : ¬ (0 ≤ find s.eqs id ∧ 0 ≤ find s.neqs id) := by
  rintro ⟨h1, h2⟩
  obtain ⟨x, hx, ex⟩ := find_pos.1 h1
  obtain ⟨y, hy, ey⟩ := find_pos.1 h2
  exact h.dis x hx y hy (by rw [ex, ey])
theorem fits_PG {p : Poly} {n : Nat} (hp : PW p) (h : fits p n = true) : PG p := by
  unfold fits at h
  simp only [Bool.and_eq_true] at h
  exact ⟨hp, pvalid_nodup h.1.1⟩
theorem good_one : Good sys1 := by
  constructor <;> simp [sys1]
theorem moved_good {s : Sys} (h : Good s) {pm : Mono} (hp : IsPerm pm.l) (v : List ByteArray) (hv : v.length ≤ 4) : Good ⟨v, moved pm s.eqs, moved pm s.neqs, s.next⟩ := by
  obtain ⟨h1, h2, h3, h4, h5, h6, h7, h8, h9, h10⟩ := h
  have m : ∀ {l : List Eqn} {x : Eqn}, x ∈ moved pm l → ∃ y ∈ l, x.id = y.id ∧ x.p = permute pm y.p := by
    intro l x hx
    obtain ⟨y, hy, rfl⟩ := List.mem_map.1 hx
    exact ⟨y, hy, rfl, rfl⟩
  refine ⟨hv, by simpa [moved] using h2, by simpa [moved] using h3, ?_, ?_, ?_, ?_, ?_, h9, h10⟩
  · intro x hx
    obtain ⟨y, hy, -, e⟩ := m hx
    rw [e]; exact permute_PG hp (h4 y hy)
  · intro x hx
    obtain ⟨y, hy, -, e⟩ := m hx
    rw [e]; exact permute_PG hp (h5 y hy)
  · intro x hx
    obtain ⟨y, hy, e, -⟩ := m hx
    rw [e]; exact h6 y hy
  · intro x hx
    obtain ⟨y, hy, e, -⟩ := m hx
    rw [e]; exact h7 y hy
  · intro x hx y hy
    obtain ⟨x', hx', e, -⟩ := m hx
    obtain ⟨y', hy', e', -⟩ := m hy
    rw [e, e']; exact h8 x' hx' y' hy'

theorem check_kinds {s : Sys} {e : Edt} (h : check s e = 0) (h1 : e.kind ≠ 1) (h2 : e.kind ≠ 2) (h3 : e.kind ≠ 3) (h4 : e.kind ≠ 4) : e.kind = 5 ∨ e.kind = 6 ∨ e.kind = 7 ∨ e.kind = 8 := by
  unfold check at h
  rw [if_neg h1, if_neg h2, if_neg h3, if_neg h4] at h
  split at h
  · exact .inl ‹_›
  · split at h
    · exact .inr ‹_›
    · cases h
theorem checkAdd_ok {s : Sys} {e : Edt} (h : checkAdd s e = 0) : 0 ≤ e.id ∧ e.id ≤ 999999 ∧ (0 < e.id → has s e.id = false) ∧ (e.neq = false → s.eqs.length < 12) ∧ (e.neq = true → s.neqs.length < 12) ∧ (e.id = 0 → s.next < 1000000) ∧ fits e.p s.vars.length = true := by
  unfold checkAdd at h
  split at h
  · cases h
  · rename_i g1
    split at h
    · cases h
    · rename_i g2
      split at h
      · rename_i g3
        simp only [not_or, not_and] at g1 g2
        refine ⟨by omega, by omega, fun hp => ?_, fun hp => ?_, fun hp => ?_, fun hp => ?_, g3⟩
        · simpa using g1.2.2 hp
        · have := g2.1 hp; omega
        · have := g2.2.1 hp; omega
        · have := g2.2.2 hp; omega
      · cases h
theorem checkId_ok {s : Sys} {e : Edt} (h : checkId s e = 0) : has s e.id = true ∧ (e.kind = 7 → fits e.p s.vars.length = true) ∧ (e.kind = 8 → (0 ≤ find s.eqs e.id → s.neqs.length < 12) ∧ (¬ 0 ≤ find s.eqs e.id → s.eqs.length < 12)) := by
  unfold checkId at h
  split at h
  · cases h
  · rename_i g1
    split at h
    · cases h
    · rename_i g2
      split at h
      · cases h
      · rename_i g3
        refine ⟨by simpa using g1, fun hk => ?_, fun hk => ⟨fun hp => ?_, fun hp => ?_⟩⟩
        · simp only [not_and] at g2
          simpa using g2 hk
        · simp only [not_and, not_or] at g3
          have := (g3 hk).1 hp; omega
        · simp only [not_and, not_or] at g3
          have := (g3 hk).2 hp; omega
theorem has_or {s : Sys} {id : Int} : has s id = true ↔ 0 ≤ find s.eqs id ∨ 0 ≤ find s.neqs id := by simp [has]
theorem has_not {s : Sys} {id : Int} (h : has s id = false) : (∀ x ∈ s.eqs, x.id ≠ id) ∧ (∀ x ∈ s.neqs, x.id ≠ id) := by
  have h' : ¬ (0 ≤ find s.eqs id ∨ 0 ≤ find s.neqs id) := by rw [← has_or]; simp [h]
  rw [not_or, find_pos, find_pos] at h'
  exact ⟨fun x hx he => h'.1 ⟨x, hx, he⟩, fun x hx he => h'.2 ⟨x, hx, he⟩⟩
end Go.Va
end
section
open Go.Proofs
namespace Go.Va
variable {pp : Option PrimFn}

theorem good_mk {s : Sys} (h : Good s) {l1 l2 : List Eqn} {n : Int} (hn : 1 ≤ n) (hn2 : n ≤ 1000000) (k1 : l1.length ≤ 12) (k2 : l2.length ≤ 12)
    (H1 : ∀ y ∈ l1, PG y.p ∧ 1 ≤ y.id ∧ y.id < n) (H2 : ∀ y ∈ l2, PG y.p ∧ 1 ≤ y.id ∧ y.id < n) (D : ∀ x ∈ l1, ∀ y ∈ l2, x.id ≠ y.id) : Good ⟨s.vars, l1, l2, n⟩ :=
  ⟨h.vars, k1, k2, fun x hx => (H1 x hx).1, fun x hx => (H2 x hx).1, fun x hx => (H1 x hx).2, fun x hx => (H2 x hx).2, D, hn, hn2⟩
theorem Good.all1 {s : Sys} (h : Good s) : ∀ y ∈ s.eqs, PG y.p ∧ 1 ≤ y.id ∧ y.id < s.next := fun y hy => ⟨h.pe y hy, h.ie y hy⟩
theorem Good.all2 {s : Sys} (h : Good s) : ∀ y ∈ s.neqs, PG y.p ∧ 1 ≤ y.id ∧ y.id < s.next := fun y hy => ⟨h.pn y hy, h.iN y hy⟩
/-- The Id that an added equation gets. -/
theorem new_id {s : Sys} (h : Good s) {e : Edt} (hc : checkAdd s e = 0) : 1 ≤ (if e.id = 0 then s.next else e.id) ∧ (if e.id = 0 then s.next else e.id) ≤ 999999 ∧ (∀ x ∈ s.eqs, x.id ≠ if e.id = 0 then s.next else e.id) ∧ (∀ x ∈ s.neqs, x.id ≠ if e.id = 0 then s.next else e.id) := by
  obtain ⟨c1, c2, c3, -, -, c6, -⟩ := checkAdd_ok hc
  have hlo := h.lo
  split
  · rename_i h0
    have := c6 h0
    refine ⟨hlo, by omega, fun x hx => ?_, fun x hx => ?_⟩
    · have := (h.ie x hx).2; omega
    · have := (h.iN x hx).2; omega
  · have := has_not (c3 (by omega))
    exact ⟨by omega, by omega, this.1, this.2⟩
theorem equations_good {s : Sys} (h : Good s) {e : Edt} (he : PW e.p) (hc : check s e = 0) (hk : e.kind = 5 ∨ e.kind = 6 ∨ e.kind = 7 ∨ e.kind = 8) : Good (equations s e) := by
  have hlo := h.lo
  have hhi := h.hi
  have l1 := h.leqs
  have l2 := h.lneqs
  have a1 := h.all1
  have a2 := h.all2
  have dd := h.dis
  unfold equations
  by_cases h5 : e.kind = 5
  · rw [if_pos h5]
    have hca : checkAdd s e = 0 := by simpa [check, h5] using hc
    obtain ⟨i1, i2, i3, i4⟩ := new_id h hca
    obtain ⟨-, -, -, c4, c5, -, c7⟩ := checkAdd_ok hca
    have hp := fits_PG he c7
    unfold eqnsAdd
    generalize (if e.id = 0 then s.next else e.id) = id at *
    have up : ∀ {y : Eqn}, PG y.p ∧ 1 ≤ y.id ∧ y.id < s.next → PG y.p ∧ 1 ≤ y.id ∧ y.id < max s.next (id + 1) := fun h => ⟨h.1, h.2.1, by omega⟩
    split
    · rename_i hneq
      have := put_len s.neqs ⟨id, e.p⟩
      have := drop_len s.neqs (Eqn.mk id e.p).id
      have := c5 hneq
      refine good_mk h (by omega) (by omega) l1 (by omega) (fun y hy => up (a1 y hy)) (fun y hy => ?_) (fun x hx y hy => ?_)
      · rcases put_mem hy with rfl | hy
        · exact ⟨hp, i1, by simp only; omega⟩
        · exact up (a2 y hy.1)
      · rcases put_mem hy with rfl | hy
        · exact i3 x hx
        · exact dd x hx y hy.1
    · rename_i hneq
      have hneq' : e.neq = false := by simpa using hneq
      have := put_len s.eqs ⟨id, e.p⟩
      have := drop_len s.eqs (Eqn.mk id e.p).id
      have := c4 hneq'
      refine good_mk h (by omega) (by omega) (by omega) l2 (fun y hy => ?_) (fun y hy => up (a2 y hy)) (fun x hx y hy => ?_)
      · rcases put_mem hy with rfl | hy
        · exact ⟨hp, i1, by simp only; omega⟩
        · exact up (a1 y hy.1)
      · rcases put_mem hx with rfl | hx
        · exact (i4 y hy).symm
        · exact dd x hx.1 y hy
  have hci : checkId s e = 0 := by
    have : e.kind = 6 ∨ e.kind = 7 ∨ e.kind = 8 := by rcases hk with hk | hk; exact absurd hk h5; exact hk
    unfold check at hc
    rw [if_neg (by omega), if_neg (by omega), if_neg (by omega), if_neg (by omega), if_neg h5, if_pos this] at hc
    exact hc
  obtain ⟨c1, c2, c3⟩ := checkId_ok hci
  have d1 := drop_len s.eqs e.id
  have d2 := drop_len s.neqs e.id
  rw [if_neg h5]
  by_cases h6 : e.kind = 6
  · rw [if_pos h6]
    exact good_mk h hlo hhi (by omega) (by omega) (fun y hy => a1 y (mem_dropE.1 hy).1) (fun y hy => a2 y (mem_dropE.1 hy).1) (fun x hx y hy => dd x (mem_dropE.1 hx).1 y (mem_dropE.1 hy).1)
  rw [if_neg h6]
  by_cases h7 : e.kind = 7
  · rw [if_pos h7]
    have hp := fits_PG he (c2 h7)
    unfold eqnsSet
    split
    · rename_i hf
      obtain ⟨z, hz, ez⟩ := find_pos.1 hf
      have := put_len s.eqs ⟨e.id, e.p⟩
      have := drop_some hz ez
      have iz := a1 z hz
      refine good_mk h hlo hhi (by simp only at *; omega) l2 (fun y hy => ?_) a2 (fun x hx y hy => ?_)
      · rcases put_mem hy with rfl | hy
        · exact ⟨hp, by simp only; omega, by simp only; omega⟩
        · exact a1 y hy.1
      · rcases put_mem hx with rfl | hx
        · have := dd z hz y hy
          simp only; rwa [← ez]
        · exact dd x hx.1 y hy
    · rename_i hf
      have hf2 := (has_or.1 c1).resolve_left hf
      obtain ⟨z, hz, ez⟩ := find_pos.1 hf2
      have := put_len s.neqs ⟨e.id, e.p⟩
      have := drop_some hz ez
      have iz := a2 z hz
      refine good_mk h hlo hhi l1 (by simp only at *; omega) a1 (fun y hy => ?_) (fun x hx y hy => ?_)
      · rcases put_mem hy with rfl | hy
        · exact ⟨hp, by simp only; omega, by simp only; omega⟩
        · exact a2 y hy.1
      · rcases put_mem hy with rfl | hy
        · have := dd x hx z hz
          simp only; rwa [← ez]
        · exact dd x hx y hy.1
  rw [if_neg h7]
  have h8 : e.kind = 8 := by omega
  obtain ⟨c4, c5⟩ := c3 h8
  unfold eqnsFlip
  split
  · rename_i hf
    obtain ⟨gm, gi⟩ := getE_mem hf
    have := put_len s.neqs (getE s.eqs e.id)
    have := drop_len s.neqs (getE s.eqs e.id).id
    have := c4 hf
    refine good_mk h hlo hhi (by omega) (by omega) (fun y hy => a1 y (mem_dropE.1 hy).1) (fun y hy => ?_) (fun x hx y hy => ?_)
    · rcases put_mem hy with rfl | hy
      · exact a1 _ gm
      · exact a2 y hy.1
    · obtain ⟨hx1, hx2⟩ := mem_dropE.1 hx
      rcases put_mem hy with rfl | hy
      · rw [gi]; exact hx2
      · exact dd x hx1 y hy.1
  · rename_i hf
    have hf2 := (has_or.1 c1).resolve_left hf
    obtain ⟨gm, gi⟩ := getE_mem hf2
    have := put_len s.eqs (getE s.neqs e.id)
    have := drop_len s.eqs (getE s.neqs e.id).id
    have := c5 hf
    refine good_mk h hlo hhi (by omega) (by omega) (fun y hy => ?_) (fun y hy => a2 y (mem_dropE.1 hy).1) (fun x hx y hy => ?_)
    · rcases put_mem hy with rfl | hy
      · exact a2 _ gm
      · exact a1 y hy.1
    · obtain ⟨hy1, hy2⟩ := mem_dropE.1 hy
      rcases put_mem hx with rfl | hx
      · rw [gi]; exact hy2.symm
      · exact dd x hx.1 y hy1
theorem isV_iff {s : Sys} {i : Int} : isV s i = true ↔ 0 ≤ i ∧ i < s.vars.length := by simp [isV]
theorem applyV_good {s : Sys} (h : Good s) {e : Edt} (he : PW e.p) (hc : check s e = 0) : Good (applyV s e) := by
  have hv := h.vars
  have hc' := hc
  unfold applyV
  by_cases h1 : e.kind = 1
  · rw [if_pos h1]
    unfold check at hc
    rw [if_pos h1] at hc
    have b1 : s.vars.length < 4 ∧ 0 ≤ e.at_ ∧ e.at_ ≤ s.vars.length := by
      split at hc
      · cases hc
      · split at hc
        · cases hc
        · omega
    exact moved_good h (isPerm_rot (by omega) (by omega)) _ (by simp; omega)
  rw [if_neg h1]
  by_cases h2 : e.kind = 2
  · rw [if_pos h2]
    unfold check at hc
    rw [if_neg h1, if_pos h2] at hc
    have b1 : isV s e.at_ = true := by
      split at hc
      · cases hc
      · simpa using ‹¬ isV s e.at_ = false›
    have b2 := isV_iff.1 b1
    exact moved_good h (isPerm_rot (by omega) (by omega)) _ (by simp; omega)
  rw [if_neg h2]
  by_cases h3 : e.kind = 3
  · rw [if_pos h3]
    obtain ⟨g1, g2, g3, g4, g5, g6, g7, g8, g9, g10⟩ := h
    exact ⟨by simpa using g1, g2, g3, g4, g5, g6, g7, g8, g9, g10⟩
  rw [if_neg h3]
  by_cases h4 : e.kind = 4
  · rw [if_pos h4]
    unfold check at hc
    rw [if_neg h1, if_neg h2, if_neg h3, if_pos h4] at hc
    have b1 : isV s e.at_ = true ∧ isV s e.to = true := by
      split at hc
      · cases hc
      · rename_i g
        simpa using g
    have b2 := isV_iff.1 b1.1
    have b3 := isV_iff.1 b1.2
    exact moved_good h (isPerm_swp (by omega) (by omega)) _ (by simpa using hv)
  rw [if_neg h4]
  exact equations_good h he hc' (check_kinds hc' h1 h2 h3 h4)
theorem edit_PW (s : Sys) (x : Raw33) : PW (editOf s x).p := made_PW _ _ _ (by decide) (by decide) _ (by decide)
theorem step_good {s : Sys} (h : Good s) (x : Raw33) : Good (stepS s x) := by
  unfold stepS
  split
  · rename_i hz
    unfold apply at hz ⊢
    by_cases c : check s (editOf s x) = 0
    · rw [if_pos c]
      exact applyV_good h (edit_PW s x) c
    · rw [if_neg c] at hz
      exact absurd hz c
  · exact h
theorem keeps (pp : Option PrimFn) : Keeps33 pp Good :=
  ⟨fun _ h => h.sw, fun _ h => h.sa, fun s x _ _ => edit_PW s x, fun i h0 h6 => name_ok i h0 h6, fun _ x h _ => step_good h x, good_one⟩
end Go.Va
end
section
open Go.Proofs
namespace Go.Va
variable {pp : Option PrimFn}

end Go.Va
end
section
open Go.Proofs
namespace Go.Va

/-! ### Lists sorted by Id -/
abbrev SortedE (l : List Eqn) : Prop := l.Pairwise fun a b => a.id < b.id
/-- An equation put ahead of the first with a greater Id. -/
def insE : List Eqn → Eqn → List Eqn
  | [], x => [x]
  | y :: l, x => if x.id < y.id then x :: y :: l else y :: insE l x
theorem insE_mem {x y : Eqn} : ∀ {l : List Eqn}, y ∈ insE l x ↔ y = x ∨ y ∈ l
  | [] => by simp [insE]
  | z :: l => by
    unfold insE
    split
    · simp
    · simp only [List.mem_cons, insE_mem (l := l)]
      constructor
      · rintro (h | h | h)
        · exact .inr (.inl h)
        · exact .inl h
        · exact .inr (.inr h)
      · rintro (h | h | h)
        · exact .inr (.inl h)
        · exact .inl h
        · exact .inr (.inr h)
theorem insE_sorted {x : Eqn} : ∀ {l : List Eqn}, SortedE l → (∀ y ∈ l, y.id ≠ x.id) → SortedE (insE l x)
  | [], _, _ => by simp [insE]
  | z :: l, h, hn => by
    have h' := List.pairwise_cons.1 h
    unfold insE
    split
    · rename_i c
      refine List.pairwise_cons.2 ⟨fun y hy => ?_, h⟩
      rcases List.mem_cons.1 hy with rfl | hy
      · exact c
      · have := h'.1 y hy; omega
    · rename_i c
      refine List.pairwise_cons.2 ⟨fun y hy => ?_, insE_sorted h'.2 fun y hy => hn y (by simp [hy])⟩
      rcases insE_mem.1 hy with rfl | hy
      · have := hn z (by simp); omega
      · exact h'.1 y hy
theorem putF_true (x : Eqn) : ∀ (l : List Eqn), putF x l true = drop l x.id
  | [] => rfl
  | y :: l => by
    have ih := putF_true x l
    unfold putF
    by_cases h : y.id = x.id <;> simp [h, drop, ih]
theorem insE_head {x : Eqn} {l : List Eqn} (h : ∀ y ∈ l, x.id < y.id) : insE l x = x :: l := by
  cases l with
  | nil => rfl
  | cons y l => unfold insE; rw [if_pos (h y (by simp))]
theorem put_insE {x : Eqn} : ∀ {l : List Eqn}, SortedE l → put l x = insE (drop l x.id) x
  | [], _ => by simp [put, putF, drop, insE]
  | y :: l, h => by
    have h' := List.pairwise_cons.1 h
    have ih := put_insE (x := x) h'.2
    unfold put at ih ⊢
    unfold putF
    by_cases c1 : y.id = x.id
    · have c2 : x.id ≤ y.id := by omega
      have hg : ∀ z ∈ drop l x.id, x.id < z.id := fun z hz => by have := h'.1 z (mem_dropE.1 hz).1; omega
      have hd : drop (y :: l) x.id = drop l x.id := by simp [drop, c1]
      rw [hd, insE_head hg]
      simp [c1, putF_true]
    · have hd : drop (y :: l) x.id = y :: drop l x.id := by simp [drop, c1]
      rw [hd]
      by_cases c2 : x.id ≤ y.id
      · have c3 : x.id < y.id := by omega
        simp [c1, c2, putF_true, insE, c3]
      · have c3 : ¬ x.id < y.id := by omega
        simp [c1, c2, ih, insE, c3]
theorem find_shift {α : Type} (P : α → Bool) : ∀ (l : List α) (i : Nat), findL (fun i (x : α) => if P x then some (i : Int) else none) l (i + 1) = (findL (fun i (x : α) => if P x then some (i : Int) else none) l i).map (· + 1)
  | [], _ => rfl
  | x :: l, i => by
    unfold findL
    cases h : P x
    · simp [find_shift P l (i + 1)]
    · simp
theorem indexP_cons (P : Eqn → Bool) (y : Eqn) (l : List Eqn) : indexP P (y :: l) = if P y then 0 else if indexP P l < 0 then -1 else indexP P l + 1 := by
  have hs := find_shift P l 0
  have hc : indexP P (y :: l) = (if P y then some ((0 : Nat) : Int) else findL (fun i (x : Eqn) => if P x then some (i : Int) else none) l (0 + 1)).getD (-1) := by
    unfold indexP
    rw [findL]
    cases P y <;> rfl
  rw [hc]
  cases h : P y
  · simp only [Bool.false_eq_true, if_false, hs]
    unfold indexP
    rcases index_split P l 0 with ⟨h1, -⟩ | ⟨A, d, R, hl, h1, -⟩
    · rw [h1]; simp
    · rw [h1]
      simp only [Option.map_some, Option.getD_some]
      rw [if_neg (by omega)]
  · simp
theorem ins_at (x : Eqn) : ∀ (d : List Eqn), (let i := indexP (fun y => decide (x.id < y.id)) d; let j := if i < 0 then d.length else i.toNat; d.take j ++ [x] ++ d.drop j) = insE d x
  | [] => rfl
  | y :: d => by
    have ih := ins_at x d
    have hb := (indexP_lt (fun y => decide (x.id < y.id)) d).2
    simp only at ih ⊢
    rw [indexP_cons]
    unfold insE
    by_cases c : x.id < y.id
    · simp [c]
    · simp only [c, decide_false, Bool.false_eq_true, if_false]
      generalize indexP (fun y => decide (x.id < y.id)) d = I at *
      by_cases c2 : I < 0
      · simp only [c2, if_true] at ih
        simp [c2]
        simpa using ih
      · have e : ¬ (I + 1 < 0) := by omega
        have e2 : (I + 1).toNat = I.toNat + 1 := by omega
        simp only [c2, if_false] at ih
        simp only [c2, e, if_false, e2, List.take_succ_cons, List.drop_succ_cons, List.cons_append]
        rw [ih]
theorem withE_insE (l : List Eqn) (x : Eqn) : withE l x = insE (drop l x.id) x := ins_at x (drop l x.id)
theorem withE_put {l : List Eqn} (h : SortedE l) (x : Eqn) : withE l x = put l x := by rw [withE_insE, put_insE h]
theorem drop_sorted {l : List Eqn} (h : SortedE l) (id : Int) : SortedE (drop l id) := List.Pairwise.filter _ h
theorem put_sorted {l : List Eqn} (h : SortedE l) (x : Eqn) : SortedE (put l x) := by
  rw [put_insE h]
  exact insE_sorted (drop_sorted h _) fun y hy => (mem_dropE.1 hy).2
theorem equationsW_eq {s : Sys} (h1 : SortedE s.eqs) (h2 : SortedE s.neqs) (e : Edt) : equationsW s e = equations s e := by
  unfold equationsW equations eqnsAddW eqnsAdd eqnsSetW eqnsSet eqnsFlipW eqnsFlip
  simp only [withE_put h1, withE_put h2]

/-! ### Names -/
theorem indexF_pos {l : List ByteArray} {b : ByteArray} : (0 ≤ indexF l b ↔ b ∈ l) ∧ (0 ≤ indexF l b → l[(indexF l b).toNat]? = some b) := by
  have key : ∀ (l : List ByteArray) (i : Nat), (findL (fun i (x : ByteArray) => if x = b then some (i : Int) else none) l i = none ∧ b ∉ l) ∨ ∃ k, findL (fun i (x : ByteArray) => if x = b then some (i : Int) else none) l i = some ((i + k : Nat) : Int) ∧ l[k]? = some b := by
    intro l
    induction l with
    | nil => intro i; exact .inl ⟨rfl, by simp⟩
    | cons x l ih =>
      intro i
      unfold findL
      by_cases hx : x = b
      · exact .inr ⟨0, by simp [hx], by simp [hx]⟩
      · rcases ih (i + 1) with ⟨h1, h2⟩ | ⟨k, h1, h2⟩
        · exact .inl ⟨by simp [hx, h1], by simp [h2]; exact fun e => hx e.symm⟩
        · refine .inr ⟨k + 1, ?_, by simpa using h2⟩
          simp only [hx, if_false, h1]
          congr 2; omega
  unfold indexF
  rcases key l 0 with ⟨h1, h2⟩ | ⟨k, h1, h2⟩
  · rw [h1]; simp [h2]
  · rw [h1]
    simp only [Option.getD_some]
    have hm : b ∈ l := List.mem_of_getElem? h2
    have e : ((0 + k : Nat) : Int).toNat = k := by omega
    rw [e]
    exact ⟨⟨fun _ => hm, fun _ => by omega⟩, fun _ => h2⟩
/-- What is kept besides. -/
structure Extra (s : Sys) : Prop where
  fe : ∀ x ∈ s.eqs, fits x.p s.vars.length = true
  fN : ∀ x ∈ s.neqs, fits x.p s.vars.length = true
  se : SortedE s.eqs
  sN : SortedE s.neqs
  names : ∀ v ∈ s.vars, nameOK v = true
  nodup : s.vars.Nodup
theorem moved_sorted {l : List Eqn} (h : SortedE l) (pm : Mono) : SortedE (moved pm l) := by
  unfold SortedE moved at *
  rw [List.pairwise_map]
  exact h
theorem moved_fits {pm : Mono} (hp : IsPerm pm.l) {l : List Eqn} {n k : Nat} (h : ∀ x ∈ l, fits x.p n = true) (hk : ∀ x ∈ l, ∀ t ∈ x.p, ∀ j, k ≤ j → j < 8 → ¬ 0 < (permM pm t.m).l.getD j 0) : ∀ x ∈ moved pm l, fits x.p k = true := by
  intro x hx
  obtain ⟨y, hy, rfl⟩ := List.mem_map.1 hx
  exact fits_permute hp (h y hy) (hk y hy)
theorem fits_use {p : Poly} {n : Nat} (h : fits p n = true) : ∀ t ∈ p, ∀ i, n ≤ i → ¬ 0 < t.m.l.getD i 0 := by
  unfold fits at h
  simp only [Bool.and_eq_true, decide_eq_true_eq] at h
  exact use_lt.1 h.1.2
theorem nodup_mid {α : Type} {A B : List α} {x : α} (h : (A ++ B).Nodup) (hx : x ∉ A ++ B) : (A ++ x :: B).Nodup :=
  List.perm_middle.nodup_iff.2 (List.nodup_cons.2 ⟨hx, h⟩)
theorem mid_nodup {α : Type} {A B : List α} {x : α} (h : (A ++ x :: B).Nodup) : (A ++ B).Nodup ∧ x ∉ A ++ B := by
  have := List.nodup_cons.1 (List.perm_middle.nodup_iff.1 h)
  exact ⟨this.2, this.1⟩
theorem swap_nodup {l : List ByteArray} {i j : Nat} (hi : i < l.length) (hj : j < l.length) (h : l.Nodup) : ((l.set i (l.getD j ⟨#[]⟩)).set j (l.getD i ⟨#[]⟩)).Nodup ∧ ∀ v ∈ (l.set i (l.getD j ⟨#[]⟩)).set j (l.getD i ⟨#[]⟩), v ∈ l := by
  have hp : ((l.set i (l.getD j ⟨#[]⟩)).set j (l.getD i ⟨#[]⟩)).Perm l := by
    have e : (l.set i (l.getD j ⟨#[]⟩)).set j (l.getD i ⟨#[]⟩) = (l.toArray.swap i j (by simpa using hi) (by simpa using hj)).toList := by
      simp [Array.swap, List.getD_eq_getElem?_getD, hi, hj]
    rw [e]
    exact (Array.swap_perm _ _).toList
  exact ⟨hp.nodup_iff.2 h, fun v hv => hp.mem_iff.1 hv⟩
theorem applyV_extra {s : Sys} (hg : Good s) (h : Extra s) {e : Edt} (hc : check s e = 0) : Extra (applyV s e) := by
  have hv := hg.vars
  obtain ⟨fe, fN, se, sN, nm, nd⟩ := h
  have hc' := hc
  unfold applyV
  by_cases h1 : e.kind = 1
  · rw [if_pos h1]
    unfold check at hc
    rw [if_pos h1] at hc
    have b1 : (s.vars.length < 4 ∧ 0 ≤ e.at_ ∧ e.at_ ≤ s.vars.length) ∧ nameOK e.name = true ∧ e.name ∉ s.vars := by
      split at hc
      · cases hc
      · split at hc
        · cases hc
        · split at hc
          · cases hc
          · rename_i g
            simp only [not_or] at g
            refine ⟨by omega, by simpa using g.1, fun hm => g.2 (indexF_pos.1.2 hm)⟩
    have hl : (s.vars.take e.at_.toNat ++ [e.name] ++ s.vars.drop e.at_.toNat).length = s.vars.length + 1 := by simp; omega
    have ha : (0 : Int) ≤ s.vars.length ∧ (s.vars.length : Int) ≤ 4 := by omega
    have hb : 0 ≤ e.at_ ∧ e.at_ ≤ 4 := by omega
    have hk : ∀ {p : Poly}, fits p s.vars.length = true → ∀ t ∈ p, ∀ j, s.vars.length + 1 ≤ j → j < 8 → ¬ 0 < (permM (rotM s.vars.length e.at_) t.m).l.getD j 0 := by
      intro p hf t ht j hj hj8
      rw [rot_get ha hb t.m hj8, rot_high ha hb hj8 (by omega) (by omega)]
      exact fits_use hf t ht _ (by simp; omega)
    refine ⟨?_, ?_, moved_sorted se _, moved_sorted sN _, ?_, ?_⟩
    · simp only [hl]; exact moved_fits (isPerm_rot ha hb) fe fun x hx => hk (fe x hx)
    · simp only [hl]; exact moved_fits (isPerm_rot ha hb) fN fun x hx => hk (fN x hx)
    · intro v hv
      simp only [List.mem_append, List.mem_singleton] at hv
      rcases hv with (hv | rfl) | hv
      · exact nm v (List.mem_of_mem_take hv)
      · exact b1.2.1
      · exact nm v (List.mem_of_mem_drop hv)
    · have : (s.vars.take e.at_.toNat ++ e.name :: s.vars.drop e.at_.toNat).Nodup := nodup_mid (by rw [List.take_append_drop]; exact nd) (by rw [List.take_append_drop]; exact b1.2.2)
      simpa using this
  rw [if_neg h1]
  by_cases h2 : e.kind = 2
  · rw [if_pos h2]
    unfold check at hc
    rw [if_neg h1, if_pos h2] at hc
    have b1 : isV s e.at_ = true ∧ used s e.at_ = false := by
      split at hc
      · cases hc
      · split at hc
        · cases hc
        · rename_i g1 g2
          exact ⟨by simpa using g1, by simpa using g2⟩
    have b2 := isV_iff.1 b1.1
    have ha : 0 ≤ e.at_ ∧ e.at_ ≤ 4 := by omega
    have hb : 0 ≤ (s.vars.length : Int) - 1 ∧ (s.vars.length : Int) - 1 ≤ 4 := by omega
    have hu : ∀ x ∈ s.eqs ++ s.neqs, ∀ t ∈ x.p, ¬ 0 < t.m.l.getD e.at_.toNat 0 := by
      intro x hx t ht h0
      have hu := b1.2
      unfold used at hu
      simp only [Bool.or_eq_false_iff, List.any_eq_false] at hu
      have : usedP e.at_ x.p = true := (usedP_iff b2.1).2 ⟨t, ht, h0⟩
      rcases List.mem_append.1 hx with hx | hx
      · exact hu.1 x hx this
      · exact hu.2 x hx this
    have hl : (s.vars.take e.at_.toNat ++ s.vars.drop (e.at_.toNat + 1)).length = s.vars.length - 1 := by simp; omega
    have hk : ∀ {p : Poly}, fits p s.vars.length = true → (∀ t ∈ p, ¬ 0 < t.m.l.getD e.at_.toNat 0) → ∀ t ∈ p, ∀ j, s.vars.length - 1 ≤ j → j < 8 → ¬ 0 < (permM (rotM e.at_ (s.vars.length - 1)) t.m).l.getD j 0 := by
      intro p hf hu t ht j hj hj8
      rw [rot_get ha hb t.m hj8]
      by_cases hj2 : j = s.vars.length - 1
      · have := rot_at ha hb
        have e1 : ((s.vars.length : Int) - 1).toNat = j := by omega
        rw [e1] at this
        rw [this]
        exact hu t ht
      · rw [rot_high ha hb hj8 (by omega) (by omega)]
        exact fits_use hf t ht _ (by simp; omega)
    refine ⟨?_, ?_, moved_sorted se _, moved_sorted sN _, ?_, ?_⟩
    · simp only [hl]; exact moved_fits (isPerm_rot ha hb) fe fun x hx => hk (fe x hx) (hu x (by simp [hx]))
    · simp only [hl]; exact moved_fits (isPerm_rot ha hb) fN fun x hx => hk (fN x hx) (hu x (by simp [hx]))
    · intro v hv
      simp only [List.mem_append] at hv
      rcases hv with hv | hv
      · exact nm v (List.mem_of_mem_take hv)
      · exact nm v (List.mem_of_mem_drop hv)
    · rw [← List.eraseIdx_eq_take_drop_succ]
      exact nd.sublist (List.eraseIdx_sublist ..)
  rw [if_neg h2]
  by_cases h3 : e.kind = 3
  · rw [if_pos h3]
    unfold check at hc
    rw [if_neg h1, if_neg h2, if_pos h3] at hc
    have b1 : isV s e.at_ = true ∧ nameOK e.name = true ∧ (e.name ∈ s.vars → s.vars[e.at_.toNat]? = some e.name) := by
      split at hc
      · cases hc
      · split at hc
        · cases hc
        · rename_i g1 g2
          simp only [not_or, not_and, Classical.not_not] at g2
          refine ⟨by simpa using g1, by simpa using g2.1, fun hm => ?_⟩
          have hi := (indexF_pos (l := s.vars) (b := e.name)).1.2 hm
          have := (indexF_pos (l := s.vars) (b := e.name)).2 hi
          rwa [show indexF s.vars e.name = e.at_ from g2.2 hi] at this
    have b2 := isV_iff.1 b1.1
    have hlt : e.at_.toNat < s.vars.length := by omega
    refine ⟨by simpa using fe, by simpa using fN, se, sN, ?_, ?_⟩
    · intro v hv
      rcases List.mem_or_eq_of_mem_set hv with hv | rfl
      · exact nm v hv
      · exact b1.2.1
    · simp only [List.set_eq_take_append_cons_drop, if_pos hlt]
      have hsp : s.vars = s.vars.take e.at_.toNat ++ s.vars[e.at_.toNat] :: s.vars.drop (e.at_.toNat + 1) := by rw [← List.drop_eq_getElem_cons hlt, List.take_append_drop]
      have hn := nd
      rw [hsp] at hn
      have hm := mid_nodup hn
      refine nodup_mid hm.1 fun hx => ?_
      by_cases hv : e.name ∈ s.vars
      · have := b1.2.2 hv
        rw [List.getElem?_eq_getElem hlt, Option.some.injEq] at this
        rw [this] at hm
        exact hm.2 hx
      · apply hv
        rcases List.mem_append.1 hx with hx | hx
        · exact List.mem_of_mem_take hx
        · exact List.mem_of_mem_drop hx
  rw [if_neg h3]
  by_cases h4 : e.kind = 4
  · rw [if_pos h4]
    unfold check at hc
    rw [if_neg h1, if_neg h2, if_neg h3, if_pos h4] at hc
    have b1 : isV s e.at_ = true ∧ isV s e.to = true := by
      split at hc
      · cases hc
      · rename_i g
        simpa using g
    have b2 := isV_iff.1 b1.1
    have b3 := isV_iff.1 b1.2
    have ha : 0 ≤ e.at_ ∧ e.at_ ≤ 4 := by omega
    have hb : 0 ≤ e.to ∧ e.to ≤ 4 := by omega
    have hk : ∀ {p : Poly}, fits p s.vars.length = true → ∀ t ∈ p, ∀ j, s.vars.length ≤ j → j < 8 → ¬ 0 < (permM (swpM e.at_ e.to) t.m).l.getD j 0 := by
      intro p hf t ht j hj hj8
      rw [swp_get ha hb t.m hj8, swp_high ha hb hj8 (by omega) (by omega)]
      exact fits_use hf t ht _ (by simp; omega)
    have hsn := swap_nodup (l := s.vars) (i := e.at_.toNat) (j := e.to.toNat) (by omega) (by omega) nd
    have hl : ((s.vars.set e.at_.toNat (vAt s e.to)).set e.to.toNat (vAt s e.at_)).length = s.vars.length := by simp
    refine ⟨?_, ?_, moved_sorted se _, moved_sorted sN _, fun v hv => nm v (hsn.2 v hv), hsn.1⟩
    · simp only [hl]; exact moved_fits (isPerm_swp ha hb) fe fun x hx => hk (fe x hx)
    · simp only [hl]; exact moved_fits (isPerm_swp ha hb) fN fun x hx => hk (fN x hx)
  rw [if_neg h4]
  have hk := check_kinds hc' h1 h2 h3 h4
  unfold equations
  by_cases h5 : e.kind = 5
  · rw [if_pos h5]
    have hca : checkAdd s e = 0 := by simpa [check, h5] using hc'
    obtain ⟨-, -, -, -, -, -, c7⟩ := checkAdd_ok hca
    unfold eqnsAdd
    split
    · refine ⟨fe, fun x hx => ?_, se, put_sorted sN _, nm, nd⟩
      rcases put_mem hx with rfl | hx
      · exact c7
      · exact fN x hx.1
    · refine ⟨fun x hx => ?_, fN, put_sorted se _, sN, nm, nd⟩
      rcases put_mem hx with rfl | hx
      · exact c7
      · exact fe x hx.1
  rw [if_neg h5]
  have hci : checkId s e = 0 := by
    have : e.kind = 6 ∨ e.kind = 7 ∨ e.kind = 8 := by rcases hk with hk | hk; exact absurd hk h5; exact hk
    unfold check at hc'
    rw [if_neg h1, if_neg h2, if_neg h3, if_neg h4, if_neg h5, if_pos this] at hc'
    exact hc'
  obtain ⟨c1, c2, c3⟩ := checkId_ok hci
  by_cases h6 : e.kind = 6
  · rw [if_pos h6]
    exact ⟨fun x hx => fe x (mem_dropE.1 hx).1, fun x hx => fN x (mem_dropE.1 hx).1, drop_sorted se _, drop_sorted sN _, nm, nd⟩
  rw [if_neg h6]
  by_cases h7 : e.kind = 7
  · rw [if_pos h7]
    unfold eqnsSet
    split
    · refine ⟨fun x hx => ?_, fN, put_sorted se _, sN, nm, nd⟩
      rcases put_mem hx with rfl | hx
      · exact c2 h7
      · exact fe x hx.1
    · refine ⟨fe, fun x hx => ?_, se, put_sorted sN _, nm, nd⟩
      rcases put_mem hx with rfl | hx
      · exact c2 h7
      · exact fN x hx.1
  rw [if_neg h7]
  unfold eqnsFlip
  split
  · rename_i hf
    obtain ⟨gm, -⟩ := getE_mem hf
    refine ⟨fun x hx => fe x (mem_dropE.1 hx).1, fun x hx => ?_, drop_sorted se _, put_sorted sN _, nm, nd⟩
    rcases put_mem hx with rfl | hx
    · exact fe _ gm
    · exact fN x hx.1
  · rename_i hf
    obtain ⟨gm, -⟩ := getE_mem ((has_or.1 c1).resolve_left hf)
    refine ⟨fun x hx => ?_, fun x hx => fN x (mem_dropE.1 hx).1, put_sorted se _, drop_sorted sN _, nm, nd⟩
    rcases put_mem hx with rfl | hx
    · exact fN _ gm
    · exact fe x hx.1
/-! ### Short polynomials -/
def Short (l : List Eqn) : Prop := ∀ x ∈ l, x.p.length ≤ 4
theorem moved_short {pm : Mono} (hp : IsPerm pm.l) {l : List Eqn} (hg : ∀ x ∈ l, PG x.p) (h : Short l) : Short (moved pm l) := by
  intro x hx
  obtain ⟨y, hy, rfl⟩ := List.mem_map.1 hx
  have := (permute_perm hp (hg y hy).2).length_eq
  rw [List.length_map] at this
  have h2 := h y hy
  show (permute pm y.p).length ≤ 4
  omega
theorem applyV_short {s : Sys} (hg : Good s) {e : Edt} (he : e.p.length ≤ 4) (hc : check s e = 0) (h1 : Short s.eqs) (h2 : Short s.neqs) : Short (applyV s e).eqs ∧ Short (applyV s e).neqs := by
  have hv := hg.vars
  have hc' := hc
  unfold applyV
  by_cases k1 : e.kind = 1
  · rw [if_pos k1]
    unfold check at hc
    rw [if_pos k1] at hc
    have b1 : s.vars.length < 4 ∧ 0 ≤ e.at_ ∧ e.at_ ≤ s.vars.length := by
      split at hc
      · cases hc
      · split at hc
        · cases hc
        · omega
    exact ⟨moved_short (isPerm_rot (by omega) (by omega)) hg.pe h1, moved_short (isPerm_rot (by omega) (by omega)) hg.pn h2⟩
  rw [if_neg k1]
  by_cases k2 : e.kind = 2
  · rw [if_pos k2]
    unfold check at hc
    rw [if_neg k1, if_pos k2] at hc
    have b1 : isV s e.at_ = true := by
      split at hc
      · cases hc
      · simpa using ‹¬ isV s e.at_ = false›
    have b2 := isV_iff.1 b1
    exact ⟨moved_short (isPerm_rot (by omega) (by omega)) hg.pe h1, moved_short (isPerm_rot (by omega) (by omega)) hg.pn h2⟩
  rw [if_neg k2]
  by_cases k3 : e.kind = 3
  · rw [if_pos k3]; exact ⟨h1, h2⟩
  rw [if_neg k3]
  by_cases k4 : e.kind = 4
  · rw [if_pos k4]
    unfold check at hc
    rw [if_neg k1, if_neg k2, if_neg k3, if_pos k4] at hc
    have b1 : isV s e.at_ = true ∧ isV s e.to = true := by
      split at hc
      · cases hc
      · rename_i g
        simpa using g
    have b2 := isV_iff.1 b1.1
    have b3 := isV_iff.1 b1.2
    exact ⟨moved_short (isPerm_swp (by omega) (by omega)) hg.pe h1, moved_short (isPerm_swp (by omega) (by omega)) hg.pn h2⟩
  rw [if_neg k4]
  have pt : ∀ {l : List Eqn} {x : Eqn}, Short l → x.p.length ≤ 4 → Short (put l x) := by
    intro l x hl hx y hy
    rcases put_mem hy with rfl | hy
    · exact hx
    · exact hl y hy.1
  have dr : ∀ {l : List Eqn} {id : Int}, Short l → Short (drop l id) := fun hl y hy => hl y (mem_dropE.1 hy).1
  unfold equations eqnsAdd eqnsSet eqnsFlip
  by_cases k5 : e.kind = 5
  · rw [if_pos k5]
    split
    · exact ⟨h1, pt h2 he⟩
    · exact ⟨pt h1 he, h2⟩
  rw [if_neg k5]
  by_cases k6 : e.kind = 6
  · rw [if_pos k6]; exact ⟨dr h1, dr h2⟩
  rw [if_neg k6]
  have hk := check_kinds hc' k1 k2 k3 k4
  have hci : checkId s e = 0 := by
    have : e.kind = 6 ∨ e.kind = 7 ∨ e.kind = 8 := by rcases hk with hk | hk; exact absurd hk k5; exact hk
    unfold check at hc'
    rw [if_neg k1, if_neg k2, if_neg k3, if_neg k4, if_neg k5, if_pos this] at hc'
    exact hc'
  obtain ⟨c1, -, -⟩ := checkId_ok hci
  by_cases k7 : e.kind = 7
  · rw [if_pos k7]
    split
    · exact ⟨pt h1 he, h2⟩
    · exact ⟨h1, pt h2 he⟩
  rw [if_neg k7]
  split
  · rename_i hf
    exact ⟨dr h1, pt h2 (h1 _ (getE_mem hf).1)⟩
  · rename_i hf
    exact ⟨pt h1 (h2 _ (getE_mem ((has_or.1 c1).resolve_left hf)).1), dr h2⟩
/-- Good systems of which all is known. -/
structure GX (s : Sys) : Prop where
  g : Good s
  x : Extra s
  le : Short s.eqs
  ln : Short s.neqs
theorem gx_one : GX sys1 := ⟨good_one, by constructor <;> simp [sys1], by simp [sys1, Short], by simp [sys1, Short]⟩
theorem applyV_gx {s : Sys} (h : GX s) {e : Edt} (he : PW e.p) (hl : e.p.length ≤ 4) (hc : check s e = 0) : GX (applyV s e) :=
  ⟨applyV_good h.g he hc, applyV_extra h.g h.x hc, (applyV_short h.g hl hc h.le h.ln).1, (applyV_short h.g hl hc h.le h.ln).2⟩
theorem made_len (x : RawP) (n : Nat) (deg : Int) (h0 : 0 ≤ deg) (h1 : deg ≤ 13) (terms : Nat) : (made x n deg terms).length ≤ terms := by
  have := (made_go n deg h0 h1 (x.take terms) [] 0 (by intro t ht; simp at ht) (by simp) (by simp)).2.2
  have hl : (x.take terms).length ≤ terms := by simp; omega
  unfold made; omega
theorem edit_len (s : Sys) (x : Raw33) : (editOf s x).p.length ≤ 4 := by
  have := made_len x.p (min s.vars.length 3) 2 (by decide) (by decide) 3
  show (made x.p (min s.vars.length 3) 2 3).length ≤ 4
  omega
theorem step_gx {s : Sys} (h : GX s) (x : Raw33) : GX (stepS s x) := by
  unfold stepS
  split
  · rename_i hz
    unfold apply at hz ⊢
    by_cases c : check s (editOf s x) = 0
    · rw [if_pos c]
      exact applyV_gx h (edit_PW s x) (edit_len s x) c
    · rw [if_neg c] at hz
      exact absurd hz c
  · exact h
theorem keepsX (pp : Option PrimFn) : Keeps33 pp GX :=
  ⟨fun _ h => h.g.sw, fun _ h => h.g.sa, fun s x _ _ => edit_PW s x, fun i h0 h6 => name_ok i h0 h6, fun _ x h _ => step_gx h x, gx_one⟩
theorem applyV_next {s : Sys} {e : Edt} : s.next ≤ (applyV s e).next := by
  unfold applyV equations eqnsAdd eqnsSet eqnsFlip
  repeat' split
  all_goals simp only
  all_goals omega
end Go.Va
end
section
open Go.Proofs
namespace Go.Va

/-! ### The terms of a sum, sorted: the primitive -/
def entP (t : Term) : PV × PV := (.agg (ints t.m.l), .agg (cRat t.c))
structure PolyArg (es : List (PV × PV)) (ts : Poly) : Prop where
  es : es = ts.map entP
  len : ts.length ≤ 12
  nd : (monos ts).Nodup
  sm : Sm 12 ts
  nz : ∀ t ∈ ts, t.c ≠ 0
theorem ints_inj : ∀ {a b : List Int}, ints a = ints b → a = b
  | [], [], _ => rfl
  | [], _ :: _, h => by simp [ints] at h
  | _ :: _, [], h => by simp [ints] at h
  | x :: a, y :: b, h => by
    simp only [ints_cons, List.cons.injEq, PV.int.injEq, true_and] at h
    rw [h.1, ints_inj h.2]
set_option maxRecDepth 1000000 in
theorem cRat_all : ((upto 12).all fun z => (upto 12).all fun y => decide (z = y) || !(PV.beqL (cRat z) (cRat y))) = true := by kernel_rfl
theorem cRat_inj {a b : Int} (ha : a.natAbs ≤ 12) (hb : b.natAbs ≤ 12) (h : cRat a = cRat b) : a = b := by
  have := all2 cRat_all a b ha hb
  rw [h, PV.beqL_self] at this
  simpa using this
theorem entP_inj {a b : Term} (ha : a.c.natAbs ≤ 12) (hb : b.c.natAbs ≤ 12) (h : entP a = entP b) : a = b := by
  unfold entP at h
  simp only [Prod.mk.injEq, PV.agg.injEq] at h
  have h1 := ints_inj h.1
  have h2 := cRat_inj ha hb h.2
  obtain ⟨c, m⟩ := a
  obtain ⟨c', m'⟩ := b
  simp only at h1 h2
  rw [h2, Mono.ext h1]
theorem ents_inj : ∀ {a b : Poly}, Sm 12 a → Sm 12 b → a.map entP = b.map entP → a = b
  | [], [], _, _, _ => rfl
  | [], _ :: _, _, _, h => by simp at h
  | _ :: _, [], _, _, h => by simp at h
  | x :: a, y :: b, ha, hb, h => by
    simp only [List.map_cons, List.cons.injEq] at h
    rw [entP_inj (ha x (by simp)) (hb y (by simp)) h.1, ents_inj (fun t ht => ha t (by simp [ht])) (fun t ht => hb t (by simp [ht])) h.2]
open Classical in
noncomputable def specPoly : PrimFn := fun _ args h key =>
  match args with
  | [.map k ver] => match h.mapAt k ver with
    | some es => if H : ∃ ts : Poly, PolyArg es ts then some (.ref key ((h.get key).ver + 1) 0 (sortP H.choose).length 12 false, h.alloc key (.cells (cT (sortP H.choose)))) else none
    | none => none
  | _ => none
theorem specPoly_eq {d : Nat} {k key : Key} {ver : Nat} {h : Hp} {ts : Poly} (ha : PolyArg (ts.map entP) ts) (hm : h.mapAt k ver = some (ts.map entP)) :
    specPoly d [.map k ver] h key = some (.ref key ((h.get key).ver + 1) 0 (sortP ts).length 12 false, h.alloc key (.cells (cT (sortP ts)))) := by
  have H : ∃ ts' : Poly, PolyArg (ts.map entP) ts' := ⟨ts, ha⟩
  have e : H.choose = ts := by
    have h2 := H.choose_spec
    exact ents_inj h2.sm ha.sm h2.es.symm
  unfold specPoly
  simp only [hm]
  rw [dif_pos H, e]
noncomputable abbrev ppS : Option PrimFn := some specPoly
@[simp] theorem call_218S {d : Nat} {args : List AV} {h : Hp} {key : Key} : callD (cxT ppS) d 218 args h key = specPoly d args h key := callD_prim prim_218

/-! ### shift -/
theorem shift_run {pp : Option PrimFn} : (nat4.all fun a => nat4.all fun b => runIs pp 117 fn117 [.int .i64 a, .int .i64 b] (.agg (ints (rotL a b)))) = true := by kernel_rfl
theorem shift_spec {pp : Option PrimFn} (a b : Int) (ha : 0 ≤ a ∧ a ≤ 4) (hb : 0 ≤ b ∧ b ≤ 4) : funD (cxT pp) 117 [.int .i64 a, .int .i64 b] = some (.agg (ints (rotL a b))) :=
  runIs_fun fns_117 (List.all_eq_true.1 (List.all_eq_true.1 shift_run a (mem_nat4 ha.1 ha.2)) b (mem_nat4 hb.1 hb.2))

/-! ### add, of a sum -/
theorem same10 (a b : Mono) : sameK 10 (.agg (ints a.l)) (.agg (ints b.l)) = some (decide (a = b)) := by
  have e : sameK 10 (.agg (ints a.l)) (.agg (ints b.l)) = if (ints a.l).length = 8 ∧ (ints b.l).length = 8 ∧ allInts (ints a.l) ∧ allInts (ints b.l) then eqInts (ints a.l) (ints b.l) else none := rfl
  rw [e, if_pos ⟨by simp, by simp, allInts_ints _, allInts_ints _⟩, eqInts_ints _ _ (by simp)]
  congr 1
  refine decide_eq_decide.2 ⟨fun h => Mono.ext h, fun h => by rw [h]⟩
theorem find_ent {m : Mono} : ∀ {ts : Poly}, m ∉ monos ts → mapFind 10 (.agg (ints m.l)) (ts.map entP) = some none
  | [], _ => rfl
  | t :: ts, h => by
    simp only [List.map_cons, List.mem_cons, not_or] at h
    rw [List.map_cons]
    unfold mapFind entP
    simp only [same10, h.1, decide_false, Option.bind_some, Bool.false_eq_true, if_false]
    exact find_ent h.2
theorem put_ent {m : Mono} {v : PV} : ∀ {ts : Poly}, m ∉ monos ts → mapPut 10 (.agg (ints m.l)) v (ts.map entP) = some (ts.map entP ++ [(.agg (ints m.l), v)])
  | [], _ => rfl
  | t :: ts, h => by
    simp only [List.map_cons, List.mem_cons, not_or] at h
    have ih := put_ent (v := v) h.2
    rw [List.map_cons]
    unfold mapPut
    rw [show (entP t) = (.agg (ints t.m.l), .agg (cRat t.c)) from rfl]
    simp only [same10, h.1, decide_false, Option.bind_some, Bool.false_eq_true, if_false, ih, Option.map_some, List.cons_append]
theorem good10 (m : Mono) : goodK 10 (.agg (ints m.l)) = true := by
  have e : goodK 10 (.agg (ints m.l)) = ((ints m.l).length == 8 && allInts (ints m.l)) := rfl
  rw [e, allInts_ints]; simp
theorem sumAdd_spec {pp : Option PrimFn} (k : Key) (hk : k.d = 0) (ver : Nat) (ts : Poly) (t : Term) (hm : t.m ∉ monos ts) (h : Hp) (hg : h.get k = ⟨ver, false, some (.amap (ts.map entP))⟩) :
    ∃ h', bodyD (cxT pp) 1 fn217 [.map k ver, .p (.agg (cRat t.c)), .p (.agg (ints t.m.l))] h = some (.p (.tup []), h') ∧ h'.get k = ⟨ver, false, some (.amap ((ts ++ [t]).map entP))⟩ ∧ (∀ k' : Key, k'.d = 0 → k' ≠ k → h'.get k' = h.get k') := by
  have hki : ∀ t, ¬ k = ⟨1, t⟩ := fun t e => by rw [e] at hk; simp at hk
  have f1 := find_ent hm
  have f2 := put_ent (v := .agg (cRat t.c)) hm
  have f3 := good10 t.m
  simp [cRat] at f2
  have e : entP t = (.agg (ints t.m.l), .agg (cRat t.c)) := rfl
  unfold bodyD
  simp [fn217, hg, hki, f1, f2, f3, e]
  intro k' h1 h2
  have e3 : ∀ t, ¬ k' = ⟨1, t⟩ := fun t e => by rw [e] at h1; simp at h1
  simp [h2, e3]

/-! ### Permute -/
def bools (l : List Bool) : List PV := l.map .bool
@[simp] theorem bools_len (l : List Bool) : (bools l).length = l.length := by simp [bools]
theorem pbools_drop {l : List Bool} {i : Nat} {b : Bool} {r : List Bool} (h : l.drop i = b :: r) : ((bools l).map AV.p).drop i = .p (.bool b) :: (bools r).map .p := by
  rw [← List.map_drop]; unfold bools; rw [← List.map_drop, h]; rfl
theorem pbools_set {l : List Bool} {n : Nat} (h : n < l.length) : ((bools l).map AV.p).take n ++ AV.p (.bool true) :: ((bools l).map AV.p).drop (n + 1) = (bools (l.set n true)).map .p := by
  rw [List.set_eq_take_append_cons_drop, if_pos h]; simp [bools, List.map_drop, List.map_take]
/-- The check of the permutation. -/
theorem perm_check {pp : Option PrimFn} (pm : Mono) (hn : pm.l.Nodup) (hr : ∀ x ∈ pm.l, 0 ≤ x ∧ x < 8) (e0 e3 : AV) (g3 : HE) (st : St)
    (h0 : st.env 15 = .p (.agg (ints pm.l)) ∧ st.env 16 = .p (.int .i64 0) ∧ st.env 6 = .ptr ⟨0, 6⟩ 1 0 ∧ st.h.get ⟨0, 6⟩ = ⟨1, false, some (.cells ((bools (List.replicate 8 false)).map .p))⟩ ∧ st.env 0 = e0 ∧ st.env 3 = e3 ∧ st.h.get ⟨0, 3⟩ = g3) :
    ∃ r, codeD (cxT pp) 0 (.loop c190_0) st = some r ∧ r.1 = .ex 0 ∧ r.2.env 0 = e0 ∧ r.2.env 3 = e3 ∧ r.2.h.get ⟨0, 3⟩ = g3 := by
  have loop := loop_foldI (cx := cxT pp) (d := 0) (c := c190_0) pm.l (fun _ (B : List Bool) x => B.set x.toNat true)
    (fun i B s => (B.length = 8 ∧ ∀ x ∈ pm.l.drop i, B[x.toNat]? = some false) ∧ s.env 15 = .p (.agg (ints pm.l)) ∧ s.env 16 = .p (.int .i64 i) ∧ s.env 6 = .ptr ⟨0, 6⟩ 1 0 ∧ s.h.get ⟨0, 6⟩ = ⟨1, false, some (.cells ((bools B).map .p))⟩ ∧ s.env 0 = e0 ∧ s.env 3 = e3 ∧ s.h.get ⟨0, 3⟩ = g3) (.ex 0) (by simp)
    (by
      rintro i B ⟨env, h⟩ x rest hi hx hd ⟨⟨hB, hf⟩, h15, h16, h6, g6, h0, h3, hg3⟩
      simp only at h15 h16 h6 g6 h0 h3 hg3
      have hz := pm.h
      rw [hz] at hi
      have hw := inc_id hi (by omega)
      have hi' : (i : Int) < 8 := by omega
      have hi1 : i + 1 ≤ 8 := by omega
      have hi7 : (i : Int) ≤ 7 := by omega
      have hxr := hr x (mem_drop hd)
      have hxf := hf x (by rw [hd]; simp)
      have hxl : x.toNat < B.length := by omega
      have hdr : B.drop x.toNat = false :: B.drop (x.toNat + 1) := by
        rw [List.drop_eq_getElem_cons hxl]
        rw [List.getElem?_eq_getElem hxl, Option.some.injEq] at hxf
        rw [hxf]
      have p1 := pbools_drop hdr
      have p2 := pbools_set hxl
      have hn0 : ¬ x < 0 := by omega
      have hn8 : ¬ 8 ≤ x := by omega
      have hx8 : x.toNat + 1 ≤ 8 := by omega
      have hnd : ∀ y ∈ rest, y ≠ x := by
        have h1 : (pm.l.drop i).Nodup := hn.sublist (List.drop_sublist ..)
        rw [hd, List.nodup_cons] at h1
        intro y hy e
        exact h1.1 (e ▸ hy)
      simp [-Prod.exists, c190_0, h15, h16, h6, g6, h0, h3, hg3, hi, hi', hi1, hi7, hd, hw, hxr.1, hxr.2, hn0, hn8, hx8, p1, p2, hB]
      intro y hy
      rw [drop_next hd] at hy
      have hyr := hr y (List.mem_of_mem_drop (i := i) (by rw [hd]; simp [hy]))
      rw [List.getElem?_set_ne (by have := hnd y hy; omega)]
      exact hf y (by rw [hd]; simp [hy]))
    (by
      rintro B ⟨env, h⟩ ⟨⟨hB, hf⟩, h15, h16, h6, g6, h0, h3, hg3⟩
      rw [pm.h] at h16
      simp only at h15 h16 h6 g6 h0 h3 hg3
      simp [-Prod.exists, c190_0, h15, h16, h6, g6, h0, h3, hg3, hB]
      intro x hx
      rw [List.drop_eq_nil_of_le (by simp)] at hx
      cases hx)
  obtain ⟨a1, a2, a3, a4, a5, a6, a7⟩ := h0
  obtain ⟨r, q1, q2, -, -, -, -, -, q3, q4, q5⟩ := loop (List.replicate 8 false) st ⟨⟨rfl, fun x hx => by
    have := hr x (List.mem_of_mem_drop hx)
    rw [List.getElem?_replicate, if_pos (by omega)]⟩, a1, by simpa using a2, a3, a4, a5, a6, a7⟩
  exact ⟨r, q1, q2, q3, q4, q5⟩
end Go.Va
end
section
open Go.Proofs
namespace Go.Va

def PmR (vm : Nat) (pm : Mono) (p : Poly) (k : Nat) (g33 : HE) (e11 : AV) (g11 : HE) (s : St) : Prop :=
  s.env 3 = .ptr ⟨0, 3⟩ 1 0 ∧ s.h.get ⟨0, 3⟩ = ⟨1, false, some (.cells ((ints pm.l).map .p))⟩ ∧ s.env 9 = .map ⟨0, 33⟩ vm ∧ s.h.get ⟨0, 33⟩ = g33 ∧
  s.env 34 = .p (poly p) ∧ s.env 35 = .p (.int .i64 p.length) ∧ s.env 36 = .p (.int .i64 k) ∧ s.env 11 = e11 ∧ s.h.get ⟨0, 11⟩ = g11
set_option maxHeartbeats 1000000 in
theorem perm_inner2 {pp : Option PrimFn} (vm : Nat) (pm : Mono) (hpm : ∀ x ∈ pm.l, 0 ≤ x ∧ x < 8) (m : Mono) (p : Poly) (k : Nat) (g33 : HE) (e11 : AV) (g11 : HE) (s : St)
    (h : (∃ v, s.env 12 = .ptr ⟨0, 12⟩ v 0 ∧ s.h.get ⟨0, 12⟩ = ⟨v, false, some (.cells ((ints mono1.l).map .p))⟩) ∧ s.env 41 = .p (.agg (ints m.l)) ∧ s.env 42 = .p (.int .i64 0) ∧ PmR vm pm p k g33 e11 g11 s) :
    ∃ a, codeD (cxT pp) 0 (.loop c190_1) s = some a ∧ a.1 = .ex 4 ∧ (∃ v, a.2.env 12 = .ptr ⟨0, 12⟩ v 0 ∧ a.2.h.get ⟨0, 12⟩ = ⟨v, false, some (.cells ((ints (permM pm m).l).map .p))⟩) ∧ PmR vm pm p k g33 e11 g11 a.2 := by
  have hle : (pm.l.zip m.l).length = 8 := by simp
  have := loop_fold (cx := cxT pp) (d := 0) (c := c190_1) (pm.l.zip m.l) permG
    (fun i acc s => acc.length = 8 ∧ (∃ v, s.env 12 = .ptr ⟨0, 12⟩ v 0 ∧ s.h.get ⟨0, 12⟩ = ⟨v, false, some (.cells ((ints acc).map .p))⟩) ∧ s.env 41 = .p (.agg (ints m.l)) ∧ s.env 42 = .p (.int .i64 i) ∧ PmR vm pm p k g33 e11 g11 s) (.ex 4) (by simp)
    (by
      rintro i acc ⟨env, h⟩ ⟨x, y⟩ rst hi hx1 hd ⟨hal, ⟨v, h12, g12⟩, h41, h42, h3, g3, h9, g33, h34, h35, h36, h11, g11⟩
      simp only at h12 g12 h41 h42 h3 g3 h9 g33 h34 h35 h36 h11 g11
      rw [hle] at hi
      have hw := inc_id hi (by omega)
      obtain ⟨ra, rb, da, db⟩ := zip_drop' hd
      have hx := hpm x (mem_drop da)
      have hi8 : (i : Int) < 8 := by omega
      have hi7 : (i : Int) ≤ 7 := by omega
      have hi1 : i + 1 ≤ 8 := by omega
      have hxn : x.toNat < 8 := by omega
      have hxn1 : x.toNat + 1 ≤ 8 := by omega
      have hset := ints_set (v := y) (show x.toNat < acc.length by omega)
      simp [-Prod.exists, c190_1, h12, g12, h41, h42, h3, g3, h9, g33, h34, h35, h36, h11, g11, hi, hi8, hi7, hi1, hw, da, db, hx, hxn, hxn1, hal, permG, hset, PmR])
    (by
      rintro acc ⟨env, h⟩ ⟨hal, ⟨v, h12, g12⟩, h41, h42, h3, g3, h9, g33, h34, h35, h36, h11, g11⟩
      rw [hle] at h42
      simp only at h12 g12 h41 h42 h3 g3 h9 g33 h34 h35 h36 h11 g11
      simp [-Prod.exists, c190_1, h12, g12, h41, h42, h3, g3, h9, g33, h34, h35, h36, h11, g11, hal, hle, PmR])
    mono1.l s (by
      obtain ⟨⟨v, h12, g12⟩, h41, h42, hrest⟩ := h
      exact ⟨rfl, ⟨v, h12, g12⟩, h41, by simpa using h42, hrest⟩)
  obtain ⟨a, q1, q2, -, ⟨v, q3, q4⟩, -, -, q5⟩ := this
  exact ⟨a, q1, q2, ⟨v, q3, q4⟩, q5⟩

theorem pT_take {pm : Mono} (hp : IsPerm pm.l) {p : Poly} (hn : (monos p).Nodup) {i : Nat} {t : Term} {rest : Poly} (hd : p.drop i = t :: rest) : (pT pm t).m ∉ monos ((p.take i).map (pT pm)) := by
  intro h
  simp only [List.map_map, List.mem_map, Function.comp] at h
  obtain ⟨u, hu, he⟩ := h
  have e := permM_inj hp he
  have hs : p = p.take i ++ t :: rest := by rw [← hd, List.take_append_drop]
  rw [hs] at hn
  simp only [List.map_append, List.map_cons, List.nodup_append] at hn
  exact hn.2.2 _ (List.mem_map_of_mem hu) _ (List.mem_cons_self ..) e
set_option maxHeartbeats 4000000 in
theorem ppermute_spec (pm : Mono) (hp : IsPerm pm.l) (p : Poly) (hg : PG p) (hz : ∀ t ∈ p, t.c ≠ 0) (hl : p.length ≤ 12) :
    funD (cxT ppS) 190 [poly p, .agg (ints pm.l)] = some (.tup [poly (permute pm p), .int .i64 0]) := by
  have hr := isPerm_range hp
  have hnd := hg.2
  have loop := fun vm => loop_foldI (cx := cxT ppS) (d := 0) (c := c190_2) p (fun _ (u : Unit) _ => u)
    (fun i _ s => ∃ e11 g11, PmR vm pm p i ⟨vm, false, some (.amap (((p.take i).map (pT pm)).map entP))⟩ e11 g11 s) (.ex 2) (by simp)
    (by
      rintro i u ⟨env, h⟩ t rest hi hx hd ⟨e11, g11, h3, g3, h9, g33, h34, h35, h36, h11, g11⟩
      simp only at h3 g3 h9 g33 h34 h35 h36 h11 g11
      have hw := inc_id hi (by omega)
      have hi2 : (i : Int) < p.length := by omega
      have inner := fun v s => perm_inner2 (pp := ppS) vm pm hr t.m p i ⟨vm, false, some (.amap (((p.take i).map (pT pm)).map entP))⟩ (.ptr ⟨0, 11⟩ v 0) ⟨v, false, some (.cells ((cTerm t).map .p))⟩ s
      simp [-Prod.exists, c190_2, h3, g3, h9, g33, h34, h35, h36, hi, hi2, hd, cTerm]
      generalize hX : codeD (cxT ppS) 0 (ACode.loop c190_1) _ = X
      obtain ⟨e, env', h', rfl, q⟩ := at_code hX (inner ((h.get ⟨0, 11⟩).ver + 1) _ (by simp [PmR, h3, g3, h9, g33, h34, h35, h36, mono1, cTerm]))
      simp only [PmR] at q
      obtain ⟨rfl, ⟨v, q1, q2⟩, q3, q4, q5, q6, q7, q8, q9, q10, q11⟩ := q
      have hnt := pT_take hp hnd hd
      obtain ⟨h2, k1, k2, k3⟩ := sumAdd_spec (pp := ppS) ⟨0, 33⟩ rfl vm ((p.take i).map (pT pm)) (pT pm t) hnt h' q6
      simp [cRat] at k1
      have e2 : ((p.take (i + 1)).map (pT pm)).map entP = (((p.take i).map (pT pm)) ++ [pT pm t]).map entP := by
        rw [List.take_add_one, hx]; simp
      simp [-Prod.exists, q1, q2, q3, q4, q5, q6, q7, q8, q9, q10, q11, cTerm, k1, hw, PmR]
      rw [k3 ⟨0, 3⟩ rfl (by simp), k2, q4]
      refine ⟨rfl, ?_⟩
      rw [← e2]
      simp)
    (by
      rintro u ⟨env, h⟩ ⟨e11, g11, h3, g3, h9, g33, h34, h35, h36, h11, g11⟩
      simp only at h3 g3 h9 g33 h34 h35 h36 h11 g11
      simp [-Prod.exists, c190_2, h3, g3, h9, g33, h34, h35, h36, h11, g11, PmR])
  have ha : PolyArg ((p.map (pT pm)).map entP) (p.map (pT pm)) := by
    refine ⟨rfl, by simpa using hl, nodup_pT hp hnd, ?_, ?_⟩
    · intro t ht
      obtain ⟨u, hu, rfl⟩ := List.mem_map.1 ht
      exact hg.1.1 u hu
    · intro t ht
      obtain ⟨u, hu, rfl⟩ := List.mem_map.1 ht
      exact hz u hu
  rw [fun_190]
  unfold closedD bodyD
  simp [fn190]
  generalize hX : codeD (cxT ppS) 0 (ACode.loop c190_0) _ = X
  obtain ⟨e, env, h, rfl, q⟩ := at_code hX (perm_check (pp := ppS) pm (isPerm_nodup hp) hr (.p (poly p)) (.ptr ⟨0, 3⟩ 1 0) ⟨1, false, some (.cells ((ints pm.l).map .p))⟩ _ (by simp [bools]))
  obtain ⟨rfl, q0, q3, q4⟩ := q
  simp only at q0 q3 q4
  simp [q0, q3, q4]
  generalize hY : codeD (cxT ppS) 0 (ACode.loop c190_2) _ = Y
  obtain ⟨e, env2, h2, rfl, q⟩ := at_code hY (loop ((h.get ⟨0, 33⟩).ver + 1) () _ (by simp [PmR, q0, q3, q4]))
  obtain ⟨rfl, e11, g11, r3, r4, r5, r6, r7, r8, r9, r10, r11⟩ := q
  simp only at r3 r4 r5 r6 r7 r8 r9 r10 r11
  rw [List.take_length] at r6
  have hsp := specPoly_eq (d := 0) (k := ⟨0, 33⟩) (key := ⟨0, 59⟩) (ver := (h.get ⟨0, 33⟩).ver + 1) (h := h2) ha (by simp [r6])
  simp [r5, hsp, cT]
  rw [permute_sort]
  exact ⟨rfl, rfl⟩

/-! ### turned -/
def cQ (L : List Eqn) : List AV := (L.flatMap cEqn).map .p
@[simp] theorem cQ_len (L : List Eqn) : (cQ L).length = L.length * 2 := by simp [cQ]
theorem cQ_app (A B : List Eqn) : cQ (A ++ B) = cQ A ++ cQ B := by simp [cQ]
theorem cQ_cons (x : Eqn) (B : List Eqn) : cQ (x :: B) = .p (.int .i64 x.id) :: .p (poly x.p) :: cQ B := by simp [cQ]
theorem cQ_ld {A B : List Eqn} {x : Eqn} {i : Nat} (hi : A.length = i) : (cQ (A ++ x :: B)).drop (i * 2 + 1) = .p (poly x.p) :: cQ B := by
  subst hi
  rw [cQ_app, ← List.drop_drop, List.drop_left' (by simp), cQ_cons]; rfl
theorem cQ_st {A B : List Eqn} {x : Eqn} {q : Poly} {i : Nat} (hi : A.length = i) : (cQ (A ++ x :: B)).take (i * 2 + 1) ++ (AV.p (poly q) :: (cQ (A ++ x :: B)).drop (i * 2 + 1 + 1)) = cQ (A ++ ⟨x.id, q⟩ :: B) := by
  subst hi
  have e : (cQ (A ++ x :: B)).drop (A.length * 2 + 1 + 1) = cQ B := by
    rw [← List.drop_drop, cQ_ld rfl]; rfl
  rw [e, cQ_app, cQ_cons, List.take_append, List.take_of_length_le (by simp), cQ_app, cQ_cons]
  simp [show A.length * 2 + 1 - A.length * 2 = 1 by omega]
set_option maxHeartbeats 4000000 in
theorem turned_spec (pm : Mono) (hp : IsPerm pm.l) (l : List Eqn) (hl : l.length < 2 ^ 20) (hg : ∀ x ∈ l, PG x.p ∧ (∀ t ∈ x.p, t.c ≠ 0) ∧ x.p.length ≤ 12) :
    funD (cxT ppS) 156 [sl cEqn l, .agg (ints pm.l)] = some (sl cEqn (moved pm l)) := by
  have loop := fun v => loop_foldI (cx := cxT ppS) (d := 0) (c := c156_0) l (fun _ (u : Unit) _ => u)
    (fun i _ s => s.env 5 = .ref ⟨0, 8⟩ v 0 l.length 2 false ∧ s.h.get ⟨0, 8⟩ = ⟨v, false, some (.cells (cQ ((l.take i).map (movedE pm) ++ l.drop i)))⟩ ∧
      s.env 3 = .ptr ⟨0, 3⟩ 1 0 ∧ s.h.get ⟨0, 3⟩ = ⟨1, false, some (.cells ((ints pm.l).map .p))⟩ ∧ s.env 10 = .p (.int .i64 l.length) ∧ s.env 11 = .p (.int .i64 i)) (.ex 0) (by simp)
    (by
      rintro i u ⟨env, h⟩ x rest hi hx hd ⟨h5, g8, h3, g3, h10, h11⟩
      simp only at h5 g8 h3 g3 h10 h11
      have hw := inc_id hi (by omega)
      have hi2 : (i : Int) < l.length := by omega
      obtain ⟨x1, x2, x3⟩ := hg x (mem_drop hd)
      have k := ppermute_spec pm hp x.p x1 x2 x3
      have hil : ((l.take i).map (movedE pm)).length = i := by simp; omega
      have e1 := cQ_ld (A := (l.take i).map (movedE pm)) (B := rest) (x := x) hil
      have e2 := cQ_st (A := (l.take i).map (movedE pm)) (B := rest) (x := x) (q := permute pm x.p) hil
      have hlen : (cQ ((l.take i).map (movedE pm) ++ x :: rest)).length = l.length * 2 := by
        have := congrArg List.length hd
        simp at this ⊢; omega
      have e3 : (l.take (i + 1)).map (movedE pm) ++ l.drop (i + 1) = (l.take i).map (movedE pm) ++ ⟨x.id, permute pm x.p⟩ :: rest := by
        rw [List.take_add_one, hx, drop_next hd]; simp [movedE]
      have f1 : i * 2 + 1 + 1 ≤ l.length * 2 := by omega
      have f2 : i * 2 + 1 < l.length * 2 := by omega
      rw [hd] at g8
      rw [e3]
      generalize cQ ((l.take i).map (movedE pm) ++ x :: rest) = C at *
      simp [-Prod.exists, c156_0, h5, g8, h3, g3, h10, h11, hi, hi2, hw, k, e1, e2, hlen, f1, f2])
    (by
      rintro u ⟨env, h⟩ ⟨h5, g8, h3, g3, h10, h11⟩
      simp only at h5 g8 h3 g3 h10 h11
      simp [-Prod.exists, c156_0, h5, g8, h3, g3, h10, h11])
  have hl20 : l.length ≤ 1048576 := by omega
  rw [fun_156]
  unfold closedD bodyD
  simp [fn156, specClone, hl20]
  generalize hX : codeD (cxT ppS) 0 (ACode.loop c156_0) _ = X
  obtain ⟨e, env, h, rfl, q⟩ := at_code hX (loop 1 () _ (by simp [cQ]))
  obtain ⟨rfl, q1, q2, -⟩ := q
  simp only at q1 q2
  rw [List.take_length, List.drop_length, List.append_nil] at q2
  have hm : (l.map (movedE pm)) = moved pm l := rfl
  rw [hm] at q2
  have hml : (moved pm l).length = l.length := by simp [moved]
  have hz : ((moved pm l).flatMap cEqn).length = l.length * 2 := by simp [hml]
  simp [q1, frz_row (cs := (moved pm l).flatMap cEqn) q2 hz, hml]
end Go.Va
end
section
open Go.Proofs
namespace Go.Va
variable {pp : Option PrimFn}

/-! ### within -/
theorem within_spec (n : Nat) (hs : n ≤ 4) (p : Poly) (hp : PW p) : funD (cxT pp) 149 [poly p, .int .i64 n] = some (.bool (fits p n)) := by
  obtain ⟨h1, h2, h3⟩ := hp
  have k1 := pvalid_spec (pp := pp) p h1 (by omega)
  have k2 := puse_spec (pp := pp) p (by omega)
  have k3 := pdeg_spec (pp := pp) p h2 (by omega)
  have hmin : min n 8 = n := by omega
  have hneg : ¬ ((n : Int) < 0) := by omega
  rw [fun_149]
  unfold closedD bodyD fits
  cases c1 : pvalid p
  · simp [fn149, k1, c1]
  · by_cases c3 : pdeg p ≤ 12
    · by_cases c2 : (puse p : Int).fdiv (2 ^ n) = 0
      · simp [fn149, k1, k2, k3, c1, c2, c3, hmin, hneg, IntKind.bits]
      · simp [fn149, k1, k2, k3, c1, c2, c3, hmin, hneg, IntKind.bits]
    · simp [fn149, k1, k2, k3, c1, c3]

/-! ### The two maps -/
def isIn (b : ByteArray) (l : List ByteArray) : Bool := l.any fun x => decide (b = x)
theorem isIn_iff {b : ByteArray} {l : List ByteArray} : isIn b l = true ↔ b ∈ l := by simp [isIn]
theorem isIn_not {b : ByteArray} {l : List ByteArray} : isIn b l = false ↔ b ∉ l := by rw [← isIn_iff]; simp
theorem ba_beq (a b : ByteArray) : (a == b) = decide (a = b) := by
  have e : (a == b) = (a.data == b.data) := rfl
  rw [e, Bool.beq_eq_decide_eq]
  exact decide_eq_decide.2 ⟨fun h => by cases a; cases b; cases h; rfl, fun h => by rw [h]⟩
def nmsM (l : List ByteArray) : List (PV × PV) := l.map fun b => (.str b, .bool true)
def idsM (l : List Int) : List (PV × PV) := l.map fun z => (.int .i64 z, .bool true)
theorem nms_find {b : ByteArray} : ∀ {l : List ByteArray}, mapFind 1 (.str b) (nmsM l) = some (if isIn b l = true then some (.bool true) else none)
  | [] => rfl
  | x :: l => by
    have ih := nms_find (b := b) (l := l)
    unfold nmsM at ih ⊢
    rw [List.map_cons]
    unfold mapFind
    have e : sameK 1 (.str b) (.str x) = some (b == x) := rfl
    rw [e, Option.bind_some]
    have e2 : (b == x) = decide (b = x) := ba_beq b x
    rw [e2]
    by_cases h : b = x
    · simp [h, isIn]
    · have : isIn b (x :: l) = isIn b l := by simp [isIn, h]
      simp [h, ih, this]
theorem nms_put {b : ByteArray} : ∀ {l : List ByteArray}, b ∉ l → mapPut 1 (.str b) (.bool true) (nmsM l) = some (nmsM (l ++ [b]))
  | [], _ => rfl
  | x :: l, h => by
    simp only [List.mem_cons, not_or] at h
    have ih := nms_put h.2
    unfold nmsM at ih ⊢
    rw [List.map_cons]
    unfold mapPut
    have e : sameK 1 (.str b) (.str x) = some (b == x) := rfl
    have e2 : (b == x) = decide (b = x) := ba_beq b x
    rw [e, Option.bind_some, e2]
    simp [h.1, ih]
theorem ids_find {b : Int} : ∀ {l : List Int}, mapFind 0 (.int .i64 b) (idsM l) = some (if b ∈ l then some (.bool true) else none)
  | [] => rfl
  | x :: l => by
    have ih := ids_find (b := b) (l := l)
    unfold idsM at ih ⊢
    rw [List.map_cons]
    unfold mapFind
    have e : sameK 0 (.int .i64 b) (.int .i64 x) = some (b == x) := rfl
    rw [e, Option.bind_some]
    by_cases h : b = x
    · simp [h]
    · simp [h, ih]
theorem ids_put {b : Int} : ∀ {l : List Int}, b ∉ l → mapPut 0 (.int .i64 b) (.bool true) (idsM l) = some (idsM (l ++ [b]))
  | [], _ => rfl
  | x :: l, h => by
    simp only [List.mem_cons, not_or] at h
    have ih := ids_put h.2
    unfold idsM at ih ⊢
    rw [List.map_cons]
    unfold mapPut
    have e : sameK 0 (.int .i64 b) (.int .i64 x) = some (b == x) := rfl
    rw [e, Option.bind_some]
    simp [h.1, ih]

/-! ### Valid -/
def nmsF : List ByteArray → List ByteArray → Bool
  | _, [] => true
  | seen, v :: l => nameOK v && !isIn v seen && nmsF (seen ++ [v]) l
def eqOK (n : Nat) (next : Int) (o : Option Int) (seen : List Int) (q : Eqn) : Bool :=
  decide (1 ≤ q.id) && decide (q.id < next) && !decide (q.id ∈ seen) && (match o with | none => true | some p => decide (p ≤ q.id)) && fits q.p n
def eqsF (n : Nat) (next : Int) : Option Int → List Int → List Eqn → Bool
  | _, _, [] => true
  | o, seen, q :: l => eqOK n next o seen q && eqsF n next (some q.id) (seen ++ [q.id]) l
def validS (s : Sys) : Bool :=
  decide (s.vars.length ≤ 4) && decide (1 ≤ s.next) && decide (s.next ≤ 1000000) && nmsF [] s.vars && decide (s.eqs.length ≤ 12) && eqsF s.vars.length s.next none [] s.eqs &&
  decide (s.neqs.length ≤ 12) && eqsF s.vars.length s.next none (s.eqs.map (·.id)) s.neqs
theorem nms_run : ∀ (l : List ByteArray) (i : Nat) (seen : List ByteArray), (match runL (fun _ (seen : List ByteArray) v => if nameOK v && !isIn v seen then .inl (seen ++ [v]) else .inr ()) l i seen with | .inl _ => true | .inr _ => false) = nmsF seen l
  | [], _, _ => rfl
  | v :: l, i, seen => by
    unfold runL nmsF
    cases h : (nameOK v && !isIn v seen)
    · simp
    · simp only [if_true, Bool.true_and]
      exact nms_run l (i + 1) (seen ++ [v])
theorem nms_loop (s : Sys) (hv : s.vars.length ≤ 4) (hb : ∀ v ∈ s.vars, v.size < 2 ^ 30) (e1 : AV) (g1 : HE) (st : St)
    (h : st.env 1 = e1 ∧ st.h.get ⟨0, 1⟩ = g1 ∧ st.env 27 = .p (names s.vars) ∧ st.env 28 = .p (.int .i64 s.vars.length) ∧ st.env 29 = .p (.int .i64 0) ∧ st.env 3 = .map ⟨0, 25⟩ 1 ∧ st.h.get ⟨0, 25⟩ = ⟨1, false, some (.amap [])⟩ ∧ (st.h.get ⟨0, 44⟩).ver = 0 ∧ (st.h.get ⟨0, 49⟩).ver = 0) :
    ∃ r, codeD (cxT pp) 0 (.loop c81_0) st = some r ∧ ((nmsF [] s.vars = true ∧ r.1 = .ex 0 ∧ r.2.env 1 = e1 ∧ r.2.h.get ⟨0, 1⟩ = g1 ∧ (r.2.h.get ⟨0, 44⟩).ver = 0 ∧ (r.2.h.get ⟨0, 49⟩).ver = 0) ∨ (nmsF [] s.vars = false ∧ r.1 = .ret ∧ r.2.env 2 = .p (.bool false))) := by
  have loop := loop_run (cx := cxT pp) (d := 0) (c := c81_0) s.vars (fun _ (seen : List ByteArray) v => if nameOK v && !isIn v seen then .inl (seen ++ [v]) else .inr ())
    (fun i seen st => st.env 1 = e1 ∧ st.h.get ⟨0, 1⟩ = g1 ∧ st.env 27 = .p (names s.vars) ∧ st.env 28 = .p (.int .i64 s.vars.length) ∧ st.env 29 = .p (.int .i64 i) ∧ st.env 3 = .map ⟨0, 25⟩ 1 ∧ st.h.get ⟨0, 25⟩ = ⟨1, false, some (.amap (nmsM seen))⟩ ∧ (st.h.get ⟨0, 44⟩).ver = 0 ∧ (st.h.get ⟨0, 49⟩).ver = 0)
    (fun _ r => r.1 = .ret ∧ r.2.env 2 = .p (.bool false)) (.ex 0) (by simp)
    (by
      rintro i seen ⟨env, h⟩ v rest hi hx hd ⟨h1, g1, h27, h28, h29, h3, g3, g44, g49⟩
      simp only at h1 g1 h27 h28 h29 h3 g3 g44 g49
      have hw := inc_id hi (by omega)
      have hi2 : (i : Int) < s.vars.length := by omega
      have k := sname_spec (pp := pp) v (hb v (mem_drop hd))
      have f1 := nms_find (b := v) (l := seen)
      cases a1 : nameOK v
      · simp [-Prod.exists, c81_0, h1, g1, h27, h28, h29, h3, g3, g44, g49, hi, hi2, hd, hw, k, a1]
      · by_cases a2 : isIn v seen = true
        · simp [a2] at f1
          simp [-Prod.exists, c81_0, h1, g1, h27, h28, h29, h3, g3, g44, g49, hi, hi2, hd, hw, k, a1, a2, f1]
        · have f2 := nms_put (isIn_not.1 (by simpa using a2))
          simp [a2] at f1
          simp [-Prod.exists, c81_0, h1, g1, h27, h28, h29, h3, g3, g44, g49, hi, hi2, hd, hw, k, a1, a2, f1, f2])
    (by
      rintro seen ⟨env, h⟩ ⟨h1, g1, h27, h28, h29, h3, g3, g44, g49⟩
      simp only at h1 g1 h27 h28 h29 h3 g3 g44 g49
      simp [-Prod.exists, c81_0, h1, g1, h27, h28, h29, h3, g3, g44, g49])
  obtain ⟨a1, a2, a3, a4, a5, a6, a7, a8, a9⟩ := h
  obtain ⟨r, q1, q2⟩ := loop [] st ⟨a1, a2, a3, a4, by simpa using a5, a6, by simpa [nmsM] using a7, a8, a9⟩
  refine ⟨r, q1, ?_⟩
  have hc := nms_run s.vars 0 []
  revert q2 hc
  cases runL (fun _ (seen : List ByteArray) v => if nameOK v && !isIn v seen then .inl (seen ++ [v]) else .inr ()) s.vars 0 [] with
  | inl o => rintro ⟨b1, b2, b3, -, -, -, -, -, b4, b5⟩ hc; exact .inl ⟨hc.symm, b1, b2, b3, b4, b5⟩
  | inr u => rintro ⟨b1, b2⟩ hc; exact .inr ⟨hc.symm, b1, b2⟩
def PrevE (l : List Eqn) (i : Nat) (o : Option Int) : Prop := (i = 0 ∧ o = none) ∨ ∃ k x0 r0, i = k + 1 ∧ l.drop k = x0 :: r0 ∧ o = some x0.id
theorem eqs_run (n : Nat) (next : Int) : ∀ (l : List Eqn) (i : Nat) (a : Option Int × List Int), (match runL (fun _ (a : Option Int × List Int) q => if eqOK n next a.1 a.2 q then .inl (some q.id, a.2 ++ [q.id]) else .inr ()) l i a with | .inl a' => eqsF n next a.1 a.2 l = true ∧ a'.2 = a.2 ++ l.map (·.id) | .inr _ => eqsF n next a.1 a.2 l = false)
  | [], _, _ => by simp [runL, eqsF]
  | q :: l, i, a => by
    unfold runL eqsF
    cases h : eqOK n next a.1 a.2 q
    · simp
    · simp only [if_true, Bool.true_and]
      have ih := eqs_run n next l (i + 1) (some q.id, a.2 ++ [q.id])
      revert ih
      cases runL (fun _ (a : Option Int × List Int) q => if eqOK n next a.1 a.2 q then .inl (some q.id, a.2 ++ [q.id]) else .inr ()) l (i + 1) (some q.id, a.2 ++ [q.id]) with
      | inl a' => rintro ⟨h1, h2⟩; exact ⟨h1, by rw [h2]; simp⟩
      | inr u => exact fun h => h
/-- What the loop over a list leaves alone. -/
def VlR (s : Sys) (R : List PV) (j : Nat) (st : St) : Prop :=
  st.env 1 = .ptr ⟨0, 1⟩ 1 0 ∧ st.h.get ⟨0, 1⟩ = ⟨1, false, some (.cells ((cSys s).map .p))⟩ ∧ st.env 6 = .map ⟨0, 44⟩ 1 ∧ st.env 49 = .ref ⟨0, 49⟩ 1 0 2 1 false ∧ st.h.get ⟨0, 49⟩ = ⟨1, false, some (.cells (R.map .p))⟩ ∧
  st.env 50 = .p (.int .i64 2) ∧ st.env 51 = .p (.int .i64 j)
set_option maxHeartbeats 4000000 in
theorem eqs_loop (s : Sys) (hv : s.vars.length ≤ 4) (R : List PV) (j : Nat) (l : List Eqn) (hl : l.length < 2 ^ 30) (hp : ∀ q ∈ l, PW q.p) (seen : List Int) (st : St)
    (h : VlR s R j st ∧ st.h.get ⟨0, 44⟩ = ⟨1, false, some (.amap (idsM seen))⟩ ∧ st.env 8 = .p (sl cEqn l) ∧ st.env 58 = .p (sl cEqn l) ∧ st.env 59 = .p (.int .i64 l.length) ∧ st.env 60 = .p (.int .i64 0)) :
    ∃ r, codeD (cxT pp) 0 (.loop c81_1) st = some r ∧ ((eqsF s.vars.length s.next none seen l = true ∧ r.1 = .ex 4 ∧ VlR s R j r.2 ∧ r.2.h.get ⟨0, 44⟩ = ⟨1, false, some (.amap (idsM (seen ++ l.map (·.id))))⟩) ∨
      (eqsF s.vars.length s.next none seen l = false ∧ r.1 = .ret ∧ r.2.env 2 = .p (.bool false))) := by
  have loop := loop_run (cx := cxT pp) (d := 0) (c := c81_1) l (fun _ (a : Option Int × List Int) q => if eqOK s.vars.length s.next a.1 a.2 q then .inl (some q.id, a.2 ++ [q.id]) else .inr ())
    (fun i a st => PrevE l i a.1 ∧ VlR s R j st ∧ st.h.get ⟨0, 44⟩ = ⟨1, false, some (.amap (idsM a.2))⟩ ∧ st.env 8 = .p (sl cEqn l) ∧ st.env 58 = .p (sl cEqn l) ∧ st.env 59 = .p (.int .i64 l.length) ∧ st.env 60 = .p (.int .i64 i))
    (fun _ r => r.1 = .ret ∧ r.2.env 2 = .p (.bool false)) (.ex 4) (by simp)
    (by
      rintro i ⟨o, sn⟩ ⟨env, h⟩ q rest hi hx hd ⟨ho, ⟨h1, g1, h6, h49, g49, h50, h51⟩, g44, h8, h58, h59, h60⟩
      simp only at ho h1 g1 h6 h49 g49 h50 h51 g44 h8 h58 h59 h60
      have hw := inc_id hi (by omega)
      have hi2 : (i : Int) < l.length := by omega
      have k := within_spec (pp := pp) s.vars.length hv q.p (hp q (mem_drop hd))
      have f1 := ids_find (b := q.id) (l := sn)
      have hnx : PrevE l (i + 1) (some q.id) := .inr ⟨i, q, rest, rfl, hd, rfl⟩
      by_cases a1 : q.id < 1
      · have ht : eqOK s.vars.length s.next o sn q = false := by simp [eqOK]; omega
        simp [-Prod.exists, c81_1, h1, g1, h6, h49, g49, h50, h51, g44, h8, h58, h59, h60, hi, hi2, hd, hw, k, a1, ht]
      by_cases a2 : s.next ≤ q.id
      · have ht : eqOK s.vars.length s.next o sn q = false := by simp [eqOK]; omega
        simp [-Prod.exists, c81_1, h1, g1, h6, h49, g49, h50, h51, g44, h8, h58, h59, h60, hi, hi2, hd, hw, k, a1, a2, ht]
      by_cases a3 : q.id ∈ sn
      · have ht : eqOK s.vars.length s.next o sn q = false := by simp [eqOK, a3]
        simp [a3] at f1
        simp [-Prod.exists, c81_1, h1, g1, h6, h49, g49, h50, h51, g44, h8, h58, h59, h60, hi, hi2, hd, hw, k, a1, a2, f1, ht]
      have f2 := ids_put a3
      simp [a3] at f1
      rcases ho with ⟨hi0, rfl⟩ | ⟨m, x0, r0, hm, hd0, rfl⟩
      · have e0 : ¬ (0 < i) := by omega
        cases a5 : fits q.p s.vars.length
        · have ht : eqOK s.vars.length s.next none sn q = false := by simp [eqOK, a5]
          simp [-Prod.exists, c81_1, h1, g1, h6, h49, g49, h50, h51, g44, h8, h58, h59, h60, hi, hi2, hd, hw, k, a1, a2, f1, f2, e0, a5, ht]
        · have ht : eqOK s.vars.length s.next none sn q = true := by simp [eqOK, a5, a3]; omega
          simp [-Prod.exists, c81_1, h1, g1, h6, h49, g49, h50, h51, g44, h8, h58, h59, h60, hi, hi2, hd, hw, k, a1, a2, f1, f2, e0, a5, ht, hnx, VlR]
      · have e0 : 0 < i := by omega
        have e1 : IntKind.i64.wrap ((i : Int) - 1) = (m : Int) := by rw [i64_id] <;> omega
        have e2 : (m : Int) < l.length := by omega
        have e3 : m < l.length := by omega
        by_cases a4 : q.id < x0.id
        · have ht : eqOK s.vars.length s.next (some x0.id) sn q = false := by simp [eqOK]; omega
          simp [-Prod.exists, c81_1, h1, g1, h6, h49, g49, h50, h51, g44, h8, h58, h59, h60, hi, hi2, hd, hw, k, a1, a2, f1, f2, e0, e1, e2, e3, hd0, a4, ht]
        · cases a5 : fits q.p s.vars.length
          · have ht : eqOK s.vars.length s.next (some x0.id) sn q = false := by simp [eqOK, a5]
            simp [-Prod.exists, c81_1, h1, g1, h6, h49, g49, h50, h51, g44, h8, h58, h59, h60, hi, hi2, hd, hw, k, a1, a2, f1, f2, e0, e1, e2, e3, hd0, a4, a5, ht]
          · have ht : eqOK s.vars.length s.next (some x0.id) sn q = true := by simp [eqOK, a5, a3]; omega
            simp [-Prod.exists, c81_1, h1, g1, h6, h49, g49, h50, h51, g44, h8, h58, h59, h60, hi, hi2, hd, hw, k, a1, a2, f1, f2, e0, e1, e2, e3, hd0, a4, a5, ht, hnx, VlR])
    (by
      rintro ⟨o, sn⟩ ⟨env, h⟩ ⟨ho, ⟨h1, g1, h6, h49, g49, h50, h51⟩, g44, h8, h58, h59, h60⟩
      simp only at ho h1 g1 h6 h49 g49 h50 h51 g44 h8 h58 h59 h60
      simp [-Prod.exists, c81_1, h1, g1, h6, h49, g49, h50, h51, g44, h8, h58, h59, h60, ho, VlR])
  obtain ⟨a1, a2, a3, a4, a5, a6⟩ := h
  obtain ⟨r, q1, q2⟩ := loop (none, seen) st ⟨.inl ⟨rfl, rfl⟩, a1, a2, a3, a4, a5, by simpa using a6⟩
  refine ⟨r, q1, ?_⟩
  have hc := eqs_run s.vars.length s.next l 0 (none, seen)
  revert q2 hc
  cases runL (fun _ (a : Option Int × List Int) q => if eqOK s.vars.length s.next a.1 a.2 q then .inl (some q.id, a.2 ++ [q.id]) else .inr ()) l 0 (none, seen) with
  | inl o => rintro ⟨b1, -, b3, b4, -⟩ ⟨c1, c2⟩; exact .inl ⟨c1, b1, b3, by rw [b4, c2]⟩
  | inr u => rintro ⟨b1, b2⟩ hc; exact .inr ⟨hc, b1, b2⟩
noncomputable def loopK (cx : Cx) (d : Nat) (c : ACode) : Option (AExit × St) → Option (AExit × St)
  | some (.norm, s) => codeD cx d (.loop c) s
  | r => r
@[simp] theorem loopK_norm {cx : Cx} {d : Nat} {c : ACode} {s : St} : loopK cx d c (some (.norm, s)) = codeD cx d (.loop c) s := rfl
@[simp] theorem loopK_ex {cx : Cx} {d : Nat} {c : ACode} {i : Nat} {s : St} : loopK cx d c (some (.ex i, s)) = some (.ex i, s) := rfl
@[simp] theorem loopK_ret {cx : Cx} {d : Nat} {c : ACode} {s : St} : loopK cx d c (some (.ret, s)) = some (.ret, s) := rfl
/-- A loop's first round. -/
theorem code_loop1 {cx : Cx} {d : Nat} {c : ACode} {s : St} : codeD cx d (.loop c) s = loopK cx d c (codeD cx d c s) := by
  rw [codeD_loop]
  match codeD cx d c s with
  | none => rfl
  | some (.norm, s) => simp
  | some (.ex i, s) => simp
  | some (.ret, s) => simp
structure VOK (s : Sys) : Prop where
  nm : ∀ v ∈ s.vars, v.size < 2 ^ 30
  e : s.eqs.length < 2 ^ 30 ∧ ∀ x ∈ s.eqs, PW x.p
  n : s.neqs.length < 2 ^ 30 ∧ ∀ x ∈ s.neqs, PW x.p
  v : s.vars.length < 2 ^ 30
set_option maxHeartbeats 4000000 in
theorem sysvalid_spec (s : Sys) (h : VOK s) : funD (cxT pp) 81 [.agg (cSys s)] = some (.bool (validS s)) := by
  rw [fun_81]
  unfold closedD bodyD validS
  by_cases a1 : s.vars.length ≤ 4
  · have a1' : ¬ (4 : Int) < s.vars.length := by omega
    by_cases a2 : 1 ≤ s.next
    · have a2' : ¬ s.next < 1 := by omega
      by_cases a3 : s.next ≤ 1000000
      · have a3' : ¬ 1000000 < s.next := by omega
        have hnl := fun e1 g1 st => nms_loop (pp := pp) s a1 h.nm e1 g1 st
        simp [fn81, a1, a1', a2, a2', a3, a3']
        generalize hX : codeD (cxT pp) 0 (ACode.loop c81_0) _ = X
        obtain ⟨x, env, hh, rfl, q⟩ := at_code hX (hnl (.ptr ⟨0, 1⟩ 1 0) ⟨1, false, some (.cells ((cSys s).map .p))⟩ _ (by simp))
        simp only at q
        rcases q with ⟨n1, rfl, e1, g1, v44, v49⟩ | ⟨n1, rfl, e2⟩
        · have R0 : PV.erL [sl cEqn s.eqs, sl cEqn s.neqs] = [sl cEqn s.eqs, sl cEqn s.neqs] := by simp
          simp [e1, g1, v44, v49, n1]
          rw [code_loop1]
          by_cases a4 : s.eqs.length ≤ 12
          · have a4' : ¬ (12 : Int) < s.eqs.length := by omega
            have l1 := fun st => eqs_loop (pp := pp) s a1 [sl cEqn s.eqs, sl cEqn s.neqs] 0 s.eqs h.e.1 h.e.2 [] st
            simp [c81_2, a4, a4']
            generalize hX : codeD (cxT pp) 0 (ACode.loop c81_1) _ = X
            obtain ⟨x, env, hh, rfl, q⟩ := at_code hX (l1 _ (by simp [VlR, e1, g1, v44, v49, idsM]))
            simp only [VlR] at q
            rcases q with ⟨n2, rfl, ⟨b1, b2, b3, b4, b5, b6, b7⟩, b8⟩ | ⟨n2, rfl, e2⟩
            · have w1 : IntKind.i64.wrap (0 + 1) = 1 := by rw [i64_id] <;> omega
              simp [b1, b2, b3, b4, b5, b6, b7, b8, n2]
              rw [code_loop1]
              by_cases a5 : s.neqs.length ≤ 12
              · have a5' : ¬ (12 : Int) < s.neqs.length := by omega
                have l2 := fun st => eqs_loop (pp := pp) s a1 [sl cEqn s.eqs, sl cEqn s.neqs] 1 s.neqs h.n.1 h.n.2 ([] ++ s.eqs.map (·.id)) st
                simp [c81_2, b1, b2, b3, b4, b5, b6, b7, b8, a5, a5', i64_id]
                generalize hX : codeD (cxT pp) 0 (ACode.loop c81_1) _ = X
                obtain ⟨x, env, hh, rfl, q⟩ := at_code hX (l2 _ (by simp [VlR, b1, b2, b3, b4, b5, b6, b7, b8, i64_id]))
                simp only [VlR, List.nil_append] at q
                rcases q with ⟨n3, rfl, ⟨d1, d2, d3, d4, d5, d6, d7⟩, d8⟩ | ⟨n3, rfl, e2⟩
                · simp [d1, d2, d3, d4, d5, d6, d7, d8, n3]
                  rw [code_loop1]
                  simp [c81_2, d1, d2, d3, d4, d5, d6, d7, d8, i64_id]
                · simp [e2, n3]
              · have a5' : (12 : Int) < s.neqs.length := by omega
                simp [c81_2, b1, b2, b3, b4, b5, b6, b7, b8, a5, a5', i64_id]
            · simp [e2, n2]
          · have a4' : (12 : Int) < s.eqs.length := by omega
            simp [c81_2, a4, a4', v49]
        · simp [e2, n1]
      · have a3' : 1000000 < s.next := by omega
        simp [fn81, a1, a1', a2, a2', a3, a3']
    · have a2' : s.next < 1 := by omega
      simp [fn81, a1, a1', a2, a2']
  · have a1' : (4 : Int) < s.vars.length := by omega
    simp [fn81, a1, a1']
end Go.Va
end
section
open Go.Proofs
namespace Go.Va

section
variable {pp : Option PrimFn}
/-! ### named, Index, variable, unused -/
theorem validS_one (b : ByteArray) : validS ⟨[b], [], [], 1⟩ = nameOK b := by simp [validS, nmsF, eqsF, isIn]
theorem named_spec (b : ByteArray) (hb : b.size < 2 ^ 30) : funD (cxT pp) 112 [.str b] = some (.bool (nameOK b)) := by
  have k := sysvalid_spec (pp := pp) ⟨[b], [], [], 1⟩ ⟨by simpa using hb, by simp, by simp, by simp⟩
  rw [validS_one] at k
  simp at k
  rw [fun_112]
  unfold closedD bodyD
  simp [fn112, k]
theorem sindex_spec (l : List ByteArray) (hl : l.length < 2 ^ 30) (b : ByteArray) : funD (cxT pp) 155 [names l, .str b] = some (.int .i64 (indexF l b)) := by
  have loop := loop_find (cx := cxT pp) (d := 0) (c := c155_0) l (fun i (x : ByteArray) => if x = b then some (i : Int) else none)
    (fun i st => st.env 0 = .p (names l) ∧ st.env 1 = .p (.str b) ∧ st.env 7 = .p (.int .i64 l.length) ∧ st.env 8 = .p (.int .i64 i))
    (fun z a => a.1 = .ret ∧ a.2.env 4 = .p (.int .i64 z)) (.ex 0) (by simp)
    (by
      rintro i ⟨env, h⟩ x rest hi hx hd ⟨h0, h1, h7, h8⟩
      simp only at h0 h1 h7 h8
      have hw := inc_id hi (by omega)
      have hi2 : (i : Int) < l.length := by omega
      by_cases hid : x = b
      · simp [c155_0, h0, h1, h7, h8, hi, hi2, hd, hid]
      · have hid2 : ¬ b = x := fun e => hid e.symm
        simp [c155_0, h0, h1, h7, h8, hi, hi2, hd, hid, hid2, hw])
    (by
      rintro ⟨env, h⟩ ⟨h0, h1, h7, h8⟩
      simp only at h0 h1 h7 h8
      simp [c155_0, h0, h1, h7, h8])
  rw [fun_155]
  unfold closedD bodyD indexF
  simp [fn155]
  generalize hx : codeD (cxT pp) 0 (ACode.loop c155_0) _ = X
  obtain ⟨e, env, h, rfl, q⟩ := at_code hx (loop _ (by simp))
  simp only at q
  revert q
  cases findL (fun i (x : ByteArray) => if x = b then some (i : Int) else none) l 0 with
  | none => simp +contextual
  | some z => simp +contextual
theorem wnamed_spec (s : Sys) (hl : s.vars.length < 2 ^ 30) (e : Edt) : funD (cxT pp) 113 [.agg (cWork s e)] = some (.int .i64 (index s e.name)) := by
  have k := sindex_spec (pp := pp) s.vars hl e.name
  rw [fun_113]
  unfold closedD bodyD index
  simp [fn113, k]
theorem variable_spec (s : Sys) (e : Edt) (i : Int) : funD (cxT pp) 119 [.agg (cWork s e), .int .i64 i] = some (.bool (isV s i)) := by
  rw [fun_119]
  unfold closedD bodyD isV
  by_cases h : 0 ≤ i <;> simp [fn119, h]
theorem and1 {n : Nat} (hn : n < 256) : binPV .and (.int .u8 (n : Int)) (.int .u8 1) = some (.int .u8 ((n % 2 : Nat) : Int)) := by
  rw [bin_and]
  have e1 : (BitVec.ofInt IntKind.u8.bits (n : Int)).toNat = n := by simp [IntKind.bits]; omega
  have e2 : (BitVec.ofInt IntKind.u8.bits (n : Int) &&& BitVec.ofInt IntKind.u8.bits 1).toNat = n % 2 := by
    rw [BitVec.toNat_and, e1, show (BitVec.ofInt IntKind.u8.bits 1).toNat = 1 from rfl, Nat.and_one_is_mod]
  rw [e2, u8_id (by omega) (by omega)]
theorem unused1_spec (s : Sys) (e : Edt) (h0 : 0 ≤ e.at_ ∧ e.at_ ≤ 4) (x : Eqn) (hp : PW x.p) : funD (cxT pp) 162 [.agg (cEqn x), .cptr (cWork s e)] = some (.bool (usedP e.at_ x.p)) := by
  have k := puse_spec (pp := pp) x.p (by have := hp.2.2; omega)
  have hneg : ¬ (e.at_ < 0) := by omega
  have hmin : min e.at_.toNat 8 = e.at_.toNat := by omega
  have e1 : (puse x.p : Int).fdiv (2 ^ e.at_.toNat) = ((puse x.p / 2 ^ e.at_.toNat : Nat) : Int) := by
    rw [Int.fdiv_eq_ediv_of_nonneg _ (Int.le_of_lt (Int.pow_pos (by decide)))]
    simp
  have hlt : puse x.p / 2 ^ e.at_.toNat < 256 := by
    have := puse_lt x.p
    exact Nat.lt_of_le_of_lt (Nat.div_le_self ..) this
  have ka := and1 hlt
  have ku : usedP e.at_ x.p = decide (((puse x.p / 2 ^ e.at_.toNat % 2 : Nat) : Int) = 1) := by
    unfold usedP
    rw [e1]
    refine decide_eq_decide.2 ?_
    rw [Int.tmod_eq_emod_of_nonneg (Int.natCast_nonneg _)]
    omega
  rw [ku]
  rw [fun_162]
  unfold closedD bodyD
  generalize puse x.p / 2 ^ e.at_.toNat = N at *
  simp [-Int.natCast_ediv, -Int.natCast_emod, fn162, k, hneg, hmin, IntKind.bits, e1, ka]
theorem index_any (P : Eqn → Bool) (l : List Eqn) : decide (0 ≤ indexP P l) = l.any P := by
  rcases index_split P l 0 with ⟨h1, h2⟩ | ⟨A, d, R, hl, h1, -⟩
  · have e : indexP P l = -1 := by simp [indexP, h1]
    rw [e]
    have : l.any P = false := by
      rw [List.any_eq_false]
      intro x hx
      have h3 : l.filter (fun x => !P x) = l := h2
      have := List.filter_eq_self.1 h3 x hx
      simpa using this
    rw [this]; rfl
  · have e : indexP P l = A.length := by simp [indexP, h1]
    rw [e]
    have hc := findL_any P l 0
    rw [h1] at hc
    rw [← hc]
    simp
where
  findL_any (P : Eqn → Bool) : ∀ (l : List Eqn) (i : Nat), (findL (fun i (x : Eqn) => if P x then some (i : Int) else none) l i).isSome = l.any P
    | [], _ => rfl
    | x :: l, i => by
      unfold findL
      cases h : P x <;> simp [h, findL_any P l]
theorem contains_spec (f : FuncId) (b : List PV) (hb : PV.erL b = b) (P : Eqn → Bool) (l : List Eqn) (hl : l.length < 2 ^ 30) (hP : Pred pp f b P l) :
    funD (cxT pp) 164 [sl cEqn l, .func f [] b] = some (.bool (l.any P)) := by
  have k := indexFunc_spec (pp := pp) f b hb P l hl hP
  have ka := index_any P l
  simp at k
  rw [fun_164]
  unfold closedD bodyD
  simp [fn164, hb, k, ka]
theorem unused_spec (s : Sys) (hs : SW s) (e : Edt) (h0 : 0 ≤ e.at_ ∧ e.at_ ≤ 4) : funD (cxT pp) 120 [.agg (cWork s e)] = some (.bool (!used s e.at_)) := by
  have b1 := hs.eqs.1
  have b2 := hs.neqs.1
  have k1 := contains_spec (pp := pp) 162 [.cptr (cWork s e)] (by simp) (fun x => usedP e.at_ x.p) s.eqs (by omega) (pred_closed (by simp) (by simp) (by simp) (fun x hx => unused1_spec s e h0 x (hs.eqs.2 x hx)))
  have k2 := contains_spec (pp := pp) 162 [.cptr (cWork s e)] (by simp) (fun x => usedP e.at_ x.p) s.neqs (by omega) (pred_closed (by simp) (by simp) (by simp) (fun x hx => unused1_spec s e h0 x (hs.neqs.2 x hx)))
  simp at k1 k2
  rw [fun_120]
  unfold closedD bodyD used
  cases c1 : s.eqs.any fun x => usedP e.at_ x.p
  · rw [c1] at k1
    cases c2 : s.neqs.any fun x => usedP e.at_ x.p
    · rw [c2] at k2
      simp [fn120, k1, k2]
    · rw [c2] at k2
      simp [fn120, k1, k2]
  · rw [c1] at k1
    simp [fn120, k1]
end

/-! ### permuted -/
structure TW (s : Sys) : Prop where
  sw : SW s
  pe : ∀ x ∈ s.eqs, PG x.p ∧ (∀ t ∈ x.p, t.c ≠ 0) ∧ x.p.length ≤ 12
  pn : ∀ x ∈ s.neqs, PG x.p ∧ (∀ t ∈ x.p, t.c ≠ 0) ∧ x.p.length ≤ 12
theorem fits_nz {p : Poly} {n : Nat} (h : fits p n = true) : ∀ t ∈ p, t.c ≠ 0 := by
  unfold fits at h
  simp only [Bool.and_eq_true] at h
  exact fun t ht => ((pvalid_iff.1 h.1.1).2 t ht).1
theorem GX.tw {s : Sys} (h : GX s) : TW s :=
  ⟨h.g.sw, fun x hx => ⟨h.g.pe x hx, fits_nz (h.x.fe x hx), by have := h.le x hx; omega⟩, fun x hx => ⟨h.g.pn x hx, fits_nz (h.x.fN x hx), by have := h.ln x hx; omega⟩⟩
theorem permuted_spec (s : Sys) (h : TW s) (e : Edt) (v : List ByteArray) (pm : Mono) (hp : IsPerm pm.l) :
    funD (cxT ppS) 114 [.agg (cWork s e), names v, .agg (ints pm.l)] = some (.agg (cSys ⟨v, moved pm s.eqs, moved pm s.neqs, s.next⟩)) := by
  have b1 := h.sw.eqs.1
  have b2 := h.sw.neqs.1
  have k1 := turned_spec pm hp s.eqs (by omega) h.pe
  have k2 := turned_spec pm hp s.neqs (by omega) h.pn
  rw [fun_114]
  unfold closedD bodyD
  simp at k1 k2
  simp [fn114, k1, k2]
end Go.Va
end
section
open Go.Proofs
namespace Go.Va

section
variable {pp : Option PrimFn}
theorem adv1_spec (n : Nat) : funD (cxT pp) 109 [.cptr [.int .i64 n]] = some (.bool (decide (n < 4))) := by
  rw [fun_109]
  unfold closedD bodyD
  have e : decide ((n : Int) < 4) = decide (n < 4) := decide_eq_decide.2 (by omega)
  simp [fn109, e]
theorem adv2_spec (s : Sys) (e : Edt) (n : Nat) : funD (cxT pp) 110 [.cptr (cWork s e), .cptr [.int .i64 n]] = some (.bool (decide (0 ≤ e.at_) && decide (e.at_ ≤ n))) := by
  rw [fun_110]
  unfold closedD bodyD
  by_cases h : 0 ≤ e.at_ <;> simp [fn110, h]
theorem adv3_spec (s : Sys) (hs : s.vars.length < 2 ^ 30) (e : Edt) (hb : e.name.size < 2 ^ 30) : funD (cxT pp) 111 [.cptr (cWork s e)] = some (.bool (nameOK e.name && decide (index s e.name < 0))) := by
  have k1 := named_spec (pp := pp) e.name hb
  have k2 := wnamed_spec (pp := pp) s hs e
  simp at k2
  rw [fun_111]
  unfold closedD bodyD
  cases h : nameOK e.name <;> simp [fn111, k1, k2, h]
theorem var1_spec (f : FuncId) (s : Sys) (e : Edt) (h : f = 118 ∨ f = 122) : funD (cxT pp) f [.cptr (cWork s e)] = some (.bool (isV s e.at_)) := by
  have k := variable_spec (pp := pp) s e e.at_
  simp at k
  rcases h with rfl | rfl
  · rw [fun_118]; unfold closedD bodyD; simp [fn118, k]
  · rw [fun_122]; unfold closedD bodyD; simp [fn122, k]
theorem ren2_spec (s : Sys) (hs : s.vars.length < 2 ^ 30) (e : Edt) (hb : e.name.size < 2 ^ 30) : funD (cxT pp) 123 [.cptr (cWork s e)] = some (.bool (nameOK e.name && (decide (index s e.name < 0) || decide (index s e.name = e.at_)))) := by
  have k1 := named_spec (pp := pp) e.name hb
  have k2 := wnamed_spec (pp := pp) s hs e
  simp at k2
  rw [fun_123]
  unfold closedD bodyD
  cases h : nameOK e.name
  · simp [fn123, k1, k2, h]
  · by_cases h2 : index s e.name < 0 <;> simp [fn123, k1, k2, h, h2]
end
theorem first_stop {pp : Option PrimFn} (t : Tst) (h : TstOK pp t) (hr : t.r = false) (n : Nat) (hn : 0 < n) (R : List PV) (hR : R.length + 2 = n * 2) : funD (cxT pp) 108 [.frz .any n (cTst t ++ R)] = some (.int .i64 t.e) := by
  have hc := h.call
  rw [hr] at hc
  have hn2 : (0 : Int) < n := by omega
  have hn3 : 2 ≤ n * 2 := by omega
  rw [fun_108]
  unfold closedD bodyD
  simp [fn108]
  rw [code_loop1]
  simp [c108_0, cTst, hn, hn2, hn3, hR, hc]
set_option maxHeartbeats 4000000 in
theorem addVar_spec (s : Sys) (h : TW s) (e : Edt) (hb : e.name.size < 2 ^ 30) (hk : e.kind = 1) :
    funD (cxT ppS) 59 [.agg (cWork s e)] = some (.tup [.agg (cSys (apply s e).1), .int .i64 (apply s e).2]) := by
  have b0 := h.sw.vars
  have kf := first_spec (pp := ppS) [⟨2, 109, [], [.cptr [.int .i64 s.vars.length]], decide (s.vars.length < 4)⟩, ⟨330, 110, [], [.cptr (cWork s e), .cptr [.int .i64 s.vars.length]], decide (0 ≤ e.at_) && decide (e.at_ ≤ s.vars.length)⟩,
      ⟨331, 111, [], [.cptr (cWork s e)], nameOK e.name && decide (index s e.name < 0)⟩] (by simp) (by
    intro t ht
    simp only [List.mem_cons, List.not_mem_nil, or_false] at ht
    rcases ht with rfl | rfl | rfl
    · exact tst_closed (by simp) (by simp) (by simp) (by simp) (adv1_spec _)
    · exact tst_closed (by simp) (by simp) (by simp) (by simp) (adv2_spec s e _)
    · exact tst_closed (by simp) (by simp) (by simp) (by simp) (adv3_spec s (by omega) e hb))
  have hc : check s e = firstE [⟨2, 109, [], [.cptr [.int .i64 s.vars.length]], decide (s.vars.length < 4)⟩, ⟨330, 110, [], [.cptr (cWork s e), .cptr [.int .i64 s.vars.length]], decide (0 ≤ e.at_) && decide (e.at_ ≤ s.vars.length)⟩,
      ⟨331, 111, [], [.cptr (cWork s e)], nameOK e.name && decide (index s e.name < 0)⟩] := by
    unfold check
    rw [if_pos hk]
    by_cases c1 : s.vars.length < 4
    · rw [if_neg (by omega)]
      by_cases c2 : 0 ≤ e.at_
      · by_cases c3 : e.at_ ≤ s.vars.length
        · rw [if_neg (by omega)]
          cases c4 : nameOK e.name
          · simp [firstE, findL, c1, c2, c3]
          · by_cases c5 : index s e.name < 0
            · simp [firstE, findL, c1, c2, c3, c5]
            · have c6 : 0 ≤ index s e.name := by omega
              simp [firstE, findL, c1, c2, c3, c5, c6]
        · rw [if_pos (by omega)]
          simp [firstE, findL, c1, c2, c3]
      · rw [if_pos (by omega)]
        simp [firstE, findL, c1, c2]
    · rw [if_pos (by omega)]
      simp [firstE, findL, c1]
  rw [← hc] at kf
  rw [fun_59]
  unfold closedD bodyD apply
  simp [cTst, hk] at kf
  by_cases c0 : check s e = 0
  · have ca : 0 ≤ e.at_ ∧ e.at_ ≤ s.vars.length ∧ s.vars.length < 4 := by
      simp [check, hk] at c0
      split at c0
      · simp at c0
      · split at c0
        · simp at c0
        · omega
    have kp := permuted_spec s h e (s.vars.take e.at_.toNat ++ [e.name] ++ s.vars.drop e.at_.toNat) (rotM s.vars.length e.at_) (isPerm_rot (by omega) (by omega))
    have ks := shift_spec (pp := ppS) s.vars.length e.at_ (by omega) (by omega)
    have hl20 : s.vars.length ≤ 1048576 := by omega
    have hl21 : s.vars.length + 1 ≤ 1048576 := by omega
    have hat : e.at_.toNat ≤ s.vars.length := by omega
    have hmin : min e.at_.toNat s.vars.length = e.at_.toNat := by omega
    have hsum : e.at_.toNat + (s.vars.length - e.at_.toNat + 1) = s.vars.length + 1 := by omega
    simp [hk, rotM, hmin, hsum] at kp
    simp [fn59, hk, kf, c0, specClone, specInsert, hl20, hl21, ca.1, hat, hmin, hsum, ks, kp, applyV, rotM]
  · simp [fn59, hk, kf, c0, sys0]

/-! ### dropVar -/
theorem hset_set (h : Hp) (k : Key) (a b : HE) : (h.set k a).set k b = h.set k b := by
  unfold Hp.set
  congr 1
  funext x
  by_cases e : x = k
  · simp [e]
  · simp [e, Hp.get]
set_option maxHeartbeats 4000000 in
theorem delete1_spec {pp : Option PrimFn} (k : Key) (hk : k.d = 0) (ver : Nat) (l : List ByteArray) (i : Nat) (hi : i < l.length) (hl : l.length ≤ 2 ^ 20) (h : Hp) (hg : h.get k = ⟨ver, false, some (.cells ((strs l).map .p))⟩) :
    bodyD (cxT pp) 1 fn121 [.ref k ver 0 l.length 1 false, .p (.int .i64 i), .p (.int .i64 (i + 1 : Nat))] h = some (.ref k ver 0 (l.take i ++ l.drop (i + 1)).length 1 false,
      h.set k ⟨ver, false, some (.cells ((strs (l.take i ++ l.drop (i + 1))).map .p ++ [.p (.str ⟨#[]⟩)]))⟩) := by
  have hki : ∀ t, ¬ k = ⟨1, t⟩ := fun t e => by rw [e] at hk; simp at hk
  have t1 : i + 1 ≤ l.length := by omega
  have t2 : i ≤ l.length := by omega
  have t3 : ¬ i = i + 1 := by omega
  have t4 : ¬ ((i : Int) = ((i + 1 : Nat) : Int)) := by omega
  have t5 : ¬ i = l.length := by omega
  have t6 : (0 : Int) ≤ ((i + 1 : Nat) : Int) := by omega
  have t7 : ((i + 1 : Nat) : Int).toNat = i + 1 := by omega
  have t8 : min i l.length = i := by omega
  have hr := @roomy_ok (i + (l.length - (i + 1))) 16 (by omega) (by decide)
  have hr0 := @roomy_ok i 16 (by omega) (by decide)
  have u1 : ¬ ((i : Int) = (l.length : Int)) := by omega
  have u2 : ¬ l.length = 0 := by omega
  have u3 : ¬ l.length = i := by omega
  have u4 : ¬ l.length ≤ i := by omega
  have u5 : i + (l.length - i) = l.length := by omega
  have u6 : l.length - i ≠ 0 := by omega
  have hd0 : l.drop l.length = [] := List.drop_length
  unfold bodyD
  generalize hj : i + 1 = j at *
  by_cases hj2 : j = l.length
  · subst hj2
    simp [fn121, hg, hki, t1, t2, t3, t4, t5, t6, t7, t8, hr, hr0, u1, u2, u3, u4, u5, u6, hset_set, Fl.tight]
    have e1 : l.length - i = 1 := by omega
    have e2 : ((strs (l.take i)).map AV.p ++ (strs (l.drop i)).map AV.p).drop l.length = [] := List.drop_eq_nil_of_le (by simp; omega)
    rw [e1, e2]
    simp
  · have v1 : ¬ l.length - j = 0 := by omega
    have v4 : i ≤ j := by omega
    have v5 : ¬ l.length = j := by omega
    have v6 : ¬ j = 0 := by omega
    have v7 : ¬ l.length ≤ j := by omega
    have v8 : i + (l.length - j) + (l.length - (i + (l.length - j))) = l.length := by omega
    have v9 : ¬ i + (l.length - j) = l.length := by omega
    have v10 : ¬ l.length = i + (l.length - j) := by omega
    have v11 : ¬ l.length - (i + (l.length - j)) = 0 := by omega
    have v12 : j + (l.length - j) = l.length := by omega
    have w1 : (0 : Int) ≤ (i : Int) + ((l.length - j : Nat) : Int) := by omega
    have w2 : ((i : Int) + ((l.length - j : Nat) : Int)).toNat = i + (l.length - j) := by omega
    have w3 : i + (l.length - j + (l.length - (i + (l.length - j)))) = l.length := by omega
    have v2 : i + (l.length - j) ≤ l.length := by omega
    have v3 : ¬ l.length ≤ i + (l.length - j) := by omega
    simp [fn121, hg, hki, t1, t2, t3, t4, t5, t6, t7, t8, hr, hr0, u1, u2, u3, u4, u5, u6, hj2, v1, v2, v3, v4, v5, v6, v7, v8, v9, v10, v11, v12, w1, w2, w3, hset_set, Fl.tight]
    have e : ∀ C : List AV, ((strs (l.take i)).map AV.p ++ ((strs (l.drop j)).map AV.p ++ C)).take (i + (l.length - j)) = (strs (l.take i)).map AV.p ++ (strs (l.drop j)).map AV.p := by
      intro C
      rw [← List.append_assoc]
      exact List.take_left' (by simp [t8])
    have e1 : l.length - (i + (l.length - j)) = 1 := by omega
    have e2 : ((strs (l.take i)).map AV.p ++ ((strs (l.drop j)).map AV.p ++ (strs (l.drop (i + (l.length - j)))).map AV.p)).drop l.length = [] := List.drop_eq_nil_of_le (by simp; omega)
    rw [e, e1, e2]
    simp
set_option maxHeartbeats 4000000 in
theorem dropVar_spec (s : Sys) (h : TW s) (e : Edt) (hk : e.kind = 2) :
    funD (cxT ppS) 60 [.agg (cWork s e)] = some (.tup [.agg (cSys (apply s e).1), .int .i64 (apply s e).2]) := by
  have b0 := h.sw.vars
  by_cases hv : isV s e.at_ = true
  · have hv2 := isV_iff.1 hv
    have kf := first_spec (pp := ppS) [⟨330, 118, [], [.cptr (cWork s e)], isV s e.at_⟩, ⟨333, 120, [.agg (cWork s e)], [], !used s e.at_⟩] (by simp) (by
      intro t ht
      simp only [List.mem_cons, List.not_mem_nil, or_false] at ht
      rcases ht with rfl | rfl
      · exact tst_closed (by simp) (by simp) (by simp) (by simp) (var1_spec 118 s e (.inl rfl))
      · exact tst_closed (by simp) (by simp) (by simp) (by simp) (unused_spec s h.sw e (by omega)))
    have hc : check s e = firstE [⟨330, 118, [], [.cptr (cWork s e)], isV s e.at_⟩, ⟨333, 120, [.agg (cWork s e)], [], !used s e.at_⟩] := by
      unfold check
      cases c2 : used s e.at_ <;> simp [hk, hv, firstE, findL]
    rw [← hc] at kf
    rw [fun_60]
    unfold closedD bodyD apply
    simp [cTst, hk] at kf
    by_cases c0 : check s e = 0
    · have hat : e.at_.toNat < s.vars.length := by omega
      have kp := permuted_spec s h e (s.vars.take e.at_.toNat ++ s.vars.drop (e.at_.toNat + 1)) (rotM e.at_ (s.vars.length - 1)) (isPerm_rot (by omega) (by omega))
      have ks := shift_spec (pp := ppS) e.at_ (s.vars.length - 1) (by omega) (by omega)
      have kd := fun h hg => delete1_spec (pp := ppS) ⟨0, 20⟩ rfl 1 s.vars e.at_.toNat hat (by omega) h hg
      have hw1 : IntKind.i64.wrap ((s.vars.length : Int) - 1) = (s.vars.length : Int) - 1 := by rw [i64_id] <;> omega
      have hw2 : IntKind.i64.wrap (e.at_ + 1) = e.at_ + 1 := by rw [i64_id] <;> omega
      have hl20 : s.vars.length ≤ 1048576 := by omega
      have ht : ((e.at_.toNat : Nat) : Int) = e.at_ := by omega
      have ht2 : ((e.at_.toNat + 1 : Nat) : Int) = e.at_ + 1 := by omega
      rw [ht, ht2] at kd
      simp only [List.length_append, List.length_take, List.length_drop] at kd
      simp [hk, rotM] at kp
      have htk : ∀ C : List AV, ((strs (s.vars.take e.at_.toNat)).map AV.p ++ ((strs (s.vars.drop (e.at_.toNat + 1))).map AV.p ++ C)).take (min e.at_.toNat s.vars.length + (s.vars.length - (e.at_.toNat + 1))) = (strs (s.vars.take e.at_.toNat)).map AV.p ++ (strs (s.vars.drop (e.at_.toNat + 1))).map AV.p := by
        intro C
        rw [← List.append_assoc]
        exact List.take_left' (by simp)
      have hle : min e.at_.toNat s.vars.length + (s.vars.length - (e.at_.toNat + 1)) ≤ min e.at_.toNat s.vars.length + (s.vars.length - (e.at_.toNat + 1) + 1) := by omega
      simp [fn60, hk, kf, c0, specClone, hl20, ks, kp, kd, htk, hle, applyV, rotM, hw1, hw2]
    · simp [fn60, hk, kf, c0, sys0]
  · have hv0 : isV s e.at_ = false := by simpa using hv
    have kf := first_stop (pp := ppS) ⟨330, 118, [], [.cptr (cWork s e)], isV s e.at_⟩ (tst_closed (by simp) (by simp) (by simp) (by simp) (var1_spec 118 s e (.inl rfl))) hv0 2 (by omega) [.int .i64 333, .func 120 [.agg (cWork s e)] []] rfl
    have hc : check s e = 330 := by simp [check, hk, hv0]
    rw [fun_60]
    unfold closedD bodyD apply
    simp [cTst, hk] at kf
    simp [fn60, hk, kf, hc, sys0]

/-! ### rename -/
theorem pstrs_st {l : List ByteArray} {n : Nat} {v : ByteArray} (h : n < l.length) : ((strs l).map AV.p).take n ++ AV.p (.str v) :: ((strs l).map AV.p).drop (n + 1) = (strs (l.set n v)).map AV.p := by
  rw [← pstrs_set h]; simp
set_option maxHeartbeats 4000000 in
theorem rename_spec (s : Sys) (h : TW s) (e : Edt) (hb : e.name.size < 2 ^ 30) (hk : e.kind = 3) :
    funD (cxT ppS) 61 [.agg (cWork s e)] = some (.tup [.agg (cSys (apply s e).1), .int .i64 (apply s e).2]) := by
  have b0 := h.sw.vars
  have kf := first_spec (pp := ppS) [⟨330, 122, [], [.cptr (cWork s e)], isV s e.at_⟩, ⟨331, 123, [], [.cptr (cWork s e)], nameOK e.name && (decide (index s e.name < 0) || decide (index s e.name = e.at_))⟩] (by simp) (by
    intro t ht
    simp only [List.mem_cons, List.not_mem_nil, or_false] at ht
    rcases ht with rfl | rfl
    · exact tst_closed (by simp) (by simp) (by simp) (by simp) (var1_spec 122 s e (.inr rfl))
    · exact tst_closed (by simp) (by simp) (by simp) (by simp) (ren2_spec s (by omega) e hb))
  have hc : check s e = firstE [⟨330, 122, [], [.cptr (cWork s e)], isV s e.at_⟩, ⟨331, 123, [], [.cptr (cWork s e)], nameOK e.name && (decide (index s e.name < 0) || decide (index s e.name = e.at_))⟩] := by
    unfold check
    cases c1 : isV s e.at_
    · simp [hk, firstE, findL]
    · cases c2 : nameOK e.name
      · simp [hk, firstE, findL]
      · by_cases c3 : index s e.name < 0
        · have c4 : ¬ 0 ≤ index s e.name := by omega
          simp [hk, firstE, findL, c3, c4]
        · have c4 : 0 ≤ index s e.name := by omega
          by_cases c5 : index s e.name = e.at_
          · have c6 : 0 ≤ e.at_ := by omega
            have c7 : ¬ e.at_ < 0 := by omega
            simp [hk, firstE, findL, c5, c6, c7]
          · simp [hk, firstE, findL, c3, c4, c5]
  rw [← hc] at kf
  rw [fun_61]
  unfold closedD bodyD apply
  simp [cTst, hk] at kf
  by_cases c0 : check s e = 0
  · have ca : 0 ≤ e.at_ ∧ e.at_ < s.vars.length := by
      simp [check, hk] at c0
      split at c0
      · simp at c0
      · rename_i h; simp [isV] at h; omega
    have hl20 : s.vars.length ≤ 1048576 := by omega
    have t2 : e.at_.toNat < s.vars.length := by omega
    have t3 : e.at_.toNat + 1 ≤ s.vars.length := by omega
    have hst := pstrs_st (v := e.name) t2
    have hmin : min e.at_.toNat s.vars.length = e.at_.toNat := by omega
    have hset := strs_set (v := e.name) t2
    have hq : e.at_.toNat + (s.vars.length - (e.at_.toNat + 1) + 1) = s.vars.length := by omega
    simp [fn61, hk, kf, c0, specClone, hl20, ca.1, ca.2, t2, t3, applyV, hmin, hset, hq]
  · simp [fn61, hk, kf, c0, sys0]

/-! ### swap -/
set_option maxHeartbeats 4000000 in
theorem swap_spec (s : Sys) (h : TW s) (e : Edt) (hk : e.kind = 4) :
    funD (cxT ppS) 62 [.agg (cWork s e)] = some (.tup [.agg (cSys (apply s e).1), .int .i64 (apply s e).2]) := by
  have b0 := h.sw.vars
  have k1 := variable_spec (pp := ppS) s e e.at_
  have k2 := variable_spec (pp := ppS) s e e.to
  rw [fun_62]
  unfold closedD bodyD apply
  simp [hk] at k1 k2
  cases c1 : isV s e.at_
  · have hc : check s e = 330 := by simp [check, hk, c1]
    simp [fn62, hk, k1, c1, hc, sys0]
  · cases c2 : isV s e.to
    · have hc : check s e = 330 := by simp [check, hk, c1, c2]
      simp [fn62, hk, k1, k2, c1, c2, hc, sys0]
    · have hc : check s e = 0 := by simp [check, hk, c1, c2]
      have ca := isV_iff.1 c1
      have cb := isV_iff.1 c2
      have ks := shift_spec (pp := ppS) 0 0 (by omega) (by omega)
      have kp := permuted_spec s h e ((s.vars.set e.at_.toNat (vAt s e.to)).set e.to.toNat (vAt s e.at_)) (swpM e.at_ e.to) (isPerm_swp (by omega) (by omega))
      have hsw := swp_set (a := e.at_) (b := e.to) (by omega) (by omega)
      have d1 := vAt_drop c1
      have d2 := vAt_drop c2
      have hl20 : s.vars.length ≤ 1048576 := by omega
      have t1 : e.at_.toNat < s.vars.length := by omega
      have t2 : e.to.toNat < s.vars.length := by omega
      have t1' : e.at_.toNat + 1 ≤ s.vars.length := by omega
      have t2' : e.to.toNat + 1 ≤ s.vars.length := by omega
      have u1 : e.at_ < 8 := by omega
      have u2 : e.to < 8 := by omega
      have u3 : e.at_.toNat + 1 ≤ 8 := by omega
      have u4 : e.to.toNat + 1 ≤ 8 := by omega
      have s1 := pstrs_set (v := vAt s e.to) t1
      have s2 := pstrs_set (l := s.vars.set e.at_.toNat (vAt s e.to)) (v := vAt s e.at_) (n := e.to.toNat) (by simpa using t2)
      have r1 := pints_set (l := rotL 0 0) (n := e.at_.toNat) (v := e.to) (by simp; omega)
      have r2 := pints_set (l := (rotL 0 0).set e.at_.toNat e.to) (n := e.to.toNat) (v := e.at_) (by simp; omega)
      rw [hsw] at r2
      simp [hk, swpM] at kp
      have hs8 : (swpL e.at_ e.to).take 8 = swpL e.at_ e.to := rfl
      simp [fn62, hk, k1, k2, c1, c2, hc, specClone, hl20, hs8, applyV, swpM, ks, kp, d1, d2, t1, t2, t1', t2', u1, u2, u3, u4, ca.1, ca.2, cb.1, cb.2, s1, s2, r1, r2]
end Go.Va
end
section
open Go.Proofs
namespace Go.Va

/-- What is asked of an edit. -/
structure EOK (e : Edt) : Prop where
  p : PW e.p
  l : e.p.length ≤ 4
  nm : e.name.size < 2 ^ 30
theorem check_other {s : Sys} {e : Edt} (h1 : ¬ e.kind = 1) (h2 : ¬ e.kind = 2) (h3 : ¬ e.kind = 3) (h4 : ¬ e.kind = 4) (h5 : ¬ e.kind = 5) (h6 : ¬ e.kind = 6) (h7 : ¬ e.kind = 7) (h8 : ¬ e.kind = 8) : check s e = 1 := by
  unfold check
  rw [if_neg h1, if_neg h2, if_neg h3, if_neg h4, if_neg h5, if_neg (by omega)]
set_option maxHeartbeats 4000000 in
theorem papply_spec (s : Sys) (h : GX s) (e : Edt) (he : EOK e) :
    funD (cxT ppS) 20 [.agg (cSys s), .agg (cEdt e)] = some (.tup [.agg (cSys (apply s e).1), .int .i64 (apply s e).2]) := by
  by_cases h1 : e.kind = 1
  · have k := addVar_spec s h.tw e he.nm h1
    rw [fun_20]
    unfold closedD bodyD
    simp [h1] at k
    simp [fn20, h1, k]
  by_cases h2 : e.kind = 2
  · have k := dropVar_spec s h.tw e h2
    rw [fun_20]
    unfold closedD bodyD
    simp [h2] at k
    simp [fn20, h2, k]
  by_cases h3 : e.kind = 3
  · have k := rename_spec s h.tw e he.nm h3
    rw [fun_20]
    unfold closedD bodyD
    simp [h3] at k
    simp [fn20, h3, k]
  by_cases h4 : e.kind = 4
  · have k := swap_spec s h.tw e h4
    rw [fun_20]
    unfold closedD bodyD
    simp [h4] at k
    simp [fn20, h4, k]
  by_cases hk : e.kind = 5 ∨ e.kind = 6 ∨ e.kind = 7 ∨ e.kind = 8
  · have k := wapply_spec (pp := ppS) s h.g.sw e he.p (h.g.two e.id) hk
    rw [equationsW_eq h.x.se h.x.sN] at k
    have hv : applyV s e = equations s e := by
      unfold applyV
      rw [if_neg h1, if_neg h2, if_neg h3, if_neg h4]
    rw [k]
    unfold apply
    by_cases c : check s e = 0
    · rw [if_pos c, if_pos c, hv]
    · rw [if_neg c, if_neg c]
  · simp only [not_or] at hk
    have hc := check_other (s := s) h1 h2 h3 h4 hk.1 hk.2.1 hk.2.2.1 hk.2.2.2
    have e1 : ¬ 1 = e.kind := fun h => h1 h.symm
    rw [fun_20]
    unfold closedD bodyD
    simp [fn20, h1, h2, h3, h4, hk, apply, hc, sys0]
end Go.Va
end
section
open Go.Proofs
namespace Go.Va
variable {pp : Option PrimFn}

/-! ### within, list -/
/-! ### Valid -/
def hit (x : Eqn) (l : List Eqn) : Bool := l.any fun y => decide (x.id = y.id)
/-! ### Both say the same -/
theorem nameOK_size {b : ByteArray} (h : nameOK b = true) : b.size ≤ 12 := by
  rw [nameOK_eq] at h
  simp only [Bool.and_eq_true, decide_eq_true_eq] at h
  exact h.1.1
theorem GX.vok {s : Sys} (h : GX s) : VOK s :=
  ⟨fun v hv => by have := nameOK_size (h.x.names v hv); omega, ⟨by have := h.g.leqs; omega, fun x hx => (h.g.pe x hx).1⟩, ⟨by have := h.g.lneqs; omega, fun x hx => (h.g.pn x hx).1⟩, by have := h.g.vars; omega⟩
end Go.Va
end
section
open Go.Proofs
namespace Go.Va

/-! ### odd -/
/-! ### EditValid -/
theorem apply_gx {s : Sys} (h : GX s) {e : Edt} (he : EOK e) (hz : (apply s e).2 = 0) : GX (apply s e).1 := by
  unfold apply at hz ⊢
  by_cases c : check s e = 0
  · rw [if_pos c]
    exact applyV_gx h he.p he.l c
  · rw [if_neg c] at hz
    exact absurd hz c
theorem apply_next {s : Sys} {e : Edt} (hz : (apply s e).2 = 0) : s.next ≤ (apply s e).1.next := by
  unfold apply at hz ⊢
  by_cases c : check s e = 0
  · rw [if_pos c]; exact applyV_next
  · rw [if_neg c] at hz
    exact absurd hz c
end Go.Va
end
section
open Go.Proofs
namespace Go.Va

/-! ### All, Do -/
def stepD (i : Nat) (s : Sys) (e : Edt) : Sys ⊕ (Nat × Int) := if (apply s e).2 = 0 then .inl (apply s e).1 else .inr (i, (apply s e).2)
/-- The system after edits, or the empty one; how many could be applied; the error. -/
def doF (s : Sys) (i : Nat) (l : List Edt) : Sys × Nat × Int := match runL stepD l i s with | .inl t => (t, i + l.length, 0) | .inr (j, z) => (sys0, j, z)
abbrev doS (s : Sys) (l : List Edt) : Sys × Nat × Int := doF s 0 l
@[simp] abbrev edts (l : List Edt) : PV := .frz .any l.length (l.flatMap cE)
set_option maxHeartbeats 4000000 in
theorem all_spec (s0 : Sys) (hg : GX s0) (l : List Edt) (hl : l.length < 2 ^ 30) (he : ∀ e ∈ l, EOK e) :
    funD (cxT ppS) 74 [.agg (cSys s0), edts l] = some (.tup [.agg (cSys (doS s0 l).1), .int .i64 (doS s0 l).2.1, .int .i64 (doS s0 l).2.2]) := by
  have loop := loop_run (cx := cxT ppS) (d := 0) (c := c74_0) l stepD
    (fun i s st => GX s ∧ st.env 11 = .p (edts l) ∧ st.env 1 = .p (edts l) ∧ st.env 12 = .p (.int .i64 l.length) ∧ st.env 13 = .p (.int .i64 i) ∧ st.env 2 = .ptr ⟨0, 2⟩ 1 0 ∧ st.h.get ⟨0, 2⟩ = ⟨1, false, some (.cells ((cSys s).map .p))⟩ ∧
      st.env 4 = .ptr ⟨0, 4⟩ 1 0 ∧ (∃ cs, cs.length = 4 ∧ st.h.get ⟨0, 4⟩ = ⟨1, false, some (.cells cs)⟩))
    (fun y r => r.1 = .ret ∧ r.2.env 4 = .ptr ⟨0, 4⟩ 1 0 ∧ r.2.h.get ⟨0, 4⟩ = ⟨1, false, some (.cells [.p (.frz .nil 0 []), .p (.frz .nil 0 []), .p (.frz .nil 0 []), .p (.int .i64 0)])⟩ ∧ r.2.env 5 = .p (.int .i64 y.1) ∧ r.2.env 6 = .p (.int .i64 y.2)) (.ex 0) (by simp)
    (by
      rintro i s ⟨env, h⟩ e rest hi hx hd ⟨hgs, h11, h1, h12, h13, h2, g2, h4, ⟨c4, l4, g4⟩⟩
      simp only at h11 h1 h12 h13 h2 g2 h4 g4
      have hw := inc_id hi (by omega)
      have hi2 : (i : Int) < l.length := by omega
      have hee := he e (mem_drop hd)
      have k := papply_spec s hgs e hee
      have hgx := fun hz => apply_gx hgs hee hz
      have hd4 : c4.drop 4 = [] := List.drop_eq_nil_of_le (by omega)
      unfold stepD
      simp at k
      by_cases c : (apply s e).2 = 0
      · have hgx := hgx c
        rw [c] at k
        generalize (apply s e).1 = t at *
        simp [-Prod.exists, c74_0, h11, h1, h12, h13, h2, g2, h4, g4, hi, hi2, hd, hw, cE, k, c, hgx, l4]
      · generalize (apply s e).1 = t at *
        generalize (apply s e).2 = z at *
        simp [-Prod.exists, c74_0, h11, h1, h12, h13, h2, g2, h4, g4, hi, hi2, hd, hw, cE, k, c, l4, hd4])
    (by
      rintro s ⟨env, h⟩ ⟨hgs, h11, h1, h12, h13, h2, g2, h4, ⟨c4, l4, g4⟩⟩
      simp only at h11 h1 h12 h13 h2 g2 h4 g4
      simp [-Prod.exists, c74_0, h11, h1, h12, h13, h2, g2, h4, g4, hgs, l4])
  rw [fun_74]
  unfold closedD bodyD doS doF
  simp [fn74]
  generalize hX : codeD (cxT ppS) 0 (ACode.loop c74_0) _ = X
  obtain ⟨e, env, h, rfl, q⟩ := at_code hX (loop s0 _ (by simp [hg]))
  revert q
  cases runL stepD l 0 s0 with
  | inl t =>
    rintro ⟨rfl, -, -, q1, -, -, q2, g2, q4, ⟨c4, l4, g4⟩⟩
    simp only at q1 q2 g2 q4 g4
    have hd4 : c4.drop 4 = [] := List.drop_eq_nil_of_le (by omega)
    simp [q1, q2, g2, q4, g4, l4, hd4]
  | inr y =>
    rintro ⟨rfl, q4, g4, q5, q6⟩
    simp only at q4 g4 q5 q6
    simp [q4, g4, q5, q6, sys0]
/-- The result of All. -/
@[simp] abbrev cDone (r : Sys × Nat × Int) : List PV := cSys r.1 ++ [.int .i64 r.2.1, .int .i64 r.2.2]
theorem done_spec (s : Sys) (hg : GX s) (l : List Edt) (hl : l.length < 2 ^ 30) (he : ∀ e ∈ l, EOK e) : funD (cxT ppS) 26 [.agg (cSys s), edts l] = some (.agg (cDone (doS s l))) := by
  have k := all_spec s hg l hl he
  simp at k
  rw [fun_26]
  unfold closedD bodyD
  simp [fn26, k]
/-! ### SameEdit, Alike -/
theorem alike_spec {pp : Option PrimFn} (a b : Sys) (va : a.vars.length < 2 ^ 30) (ha : EW a.eqs) (ha2 : EW a.neqs) (hb : EW b.eqs) (hb2 : EW b.neqs) : funD (cxT pp) 29 [.agg (cSys a), .agg (cSys b)] = some (.bool (decide ({ a with next := b.next } = b))) := by
  have k := same32_spec (pp := pp) { a with next := b.next } b va ha ha2 hb hb2
  simp at k
  rw [fun_29]
  unfold closedD bodyD
  simp [fn29, k]
end Go.Va
end
section
open Go.Proofs
namespace Go.Va

/-- Whether a system has no slices: what is marked behind a call is never asked here. -/
def nosl (v : List ByteArray) (e g : List Eqn) : Bool := PV.flatL [.frz .any v.length (strs v), .frz .any e.length (e.flatMap cEqn), .frz .any g.length (g.flatMap cEqn)]
@[simp ↓ high] theorem flat_sys {v : List ByteArray} {e g : List Eqn} {x : PV} {l : List PV} :
    PV.flat (.agg (.frz .any v.length (strs v) :: .frz .any e.length (e.flatMap cEqn) :: .frz .any g.length (g.flatMap cEqn) :: x :: l)) = (nosl v e g && PV.flatL (x :: l)) := by
  simp only [nosl, PV.flat, PV.flatL, Bool.and_assoc, Bool.and_true]
/-! ### Lists of edits, one after the other -/
theorem runL_app {σ τ α : Type} {step : Nat → σ → α → σ ⊕ τ} : ∀ (a b : List α) (i : Nat) (s : σ), runL step (a ++ b) i s = match runL step a i s with | .inl t => runL step b (i + a.length) t | .inr y => .inr y
  | [], b, i, s => by simp [runL]
  | x :: a, b, i, s => by
    show (match step i s x with | .inl t => runL step (a ++ b) (i + 1) t | .inr y => .inr y) = match (match step i s x with | .inl t => runL step a (i + 1) t | .inr y => .inr y) with | .inl t => runL step b (i + (a.length + 1)) t | .inr y => .inr y
    cases step i s x with
    | inr y => rfl
    | inl t =>
      simp only
      rw [runL_app a b (i + 1) t, show i + 1 + a.length = i + (a.length + 1) by omega]
theorem run_gx : ∀ {l : List Edt} {i : Nat} {s t : Sys}, GX s → (∀ e ∈ l, EOK e) → runL stepD l i s = .inl t → GX t ∧ s.next ≤ t.next
  | [], i, s, t, h, _, hr => by simp only [runL, Sum.inl.injEq] at hr; subst hr; exact ⟨h, Int.le_refl _⟩
  | e :: l, i, s, t, h, he, hr => by
    unfold runL stepD at hr
    by_cases c : (apply s e).2 = 0
    · rw [if_pos c] at hr
      obtain ⟨h1, h2⟩ := run_gx (apply_gx h (he e (by simp)) c) (fun x hx => he x (by simp [hx])) hr
      exact ⟨h1, Int.le_trans (apply_next c) h2⟩
    · rw [if_neg c] at hr; cases hr
theorem run_at : ∀ {l : List Edt} {i j : Nat} {s t : Sys}, runL stepD l i s = .inl t → runL stepD l j s = .inl t
  | [], i, j, s, t, hr => by simpa [runL] using hr
  | e :: l, i, j, s, t, hr => by
    unfold runL stepD at hr ⊢
    by_cases c : (apply s e).2 = 0
    · rw [if_pos c] at hr ⊢
      exact run_at hr
    · rw [if_neg c] at hr; cases hr
theorem doS_ok {s t : Sys} {l : List Edt} (h : runL stepD l 0 s = .inl t) : doS s l = (t, l.length, 0) := by
  unfold doS doF; rw [h]; simp
/-! ### EditAll -/
end Go.Va
end
section
open Go.Proofs
namespace Go.Va

def oldP (s : Sys) (id : Int) : Poly := if 0 ≤ find s.eqs id then (getE s.eqs id).p else if 0 ≤ find s.neqs id then (getE s.neqs id).p else []
/-- The edit that takes an edit back. -/
def invE (s : Sys) (e : Edt) : Edt :=
  if e.kind = 1 then ⟨2, ⟨#[]⟩, e.at_, 0, 0, [], false⟩
  else if e.kind = 2 then ⟨1, vAt s e.at_, e.at_, 0, 0, [], false⟩
  else if e.kind = 3 then ⟨3, vAt s e.at_, e.at_, 0, 0, [], false⟩
  else if e.kind = 4 then ⟨4, ⟨#[]⟩, e.at_, e.to, 0, [], false⟩
  else if e.kind = 5 then ⟨6, ⟨#[]⟩, 0, 0, if e.id = 0 then s.next else e.id, [], false⟩
  else if e.kind = 6 then ⟨5, ⟨#[]⟩, 0, 0, e.id, oldP s e.id, decide (0 ≤ find s.neqs e.id)⟩
  else if e.kind = 7 then ⟨7, ⟨#[]⟩, 0, 0, e.id, oldP s e.id, false⟩
  else ⟨8, ⟨#[]⟩, 0, 0, e.id, [], false⟩
theorem check_kind {s : Sys} {e : Edt} (h : check s e = 0) : e.kind = 1 ∨ e.kind = 2 ∨ e.kind = 3 ∨ e.kind = 4 ∨ e.kind = 5 ∨ e.kind = 6 ∨ e.kind = 7 ∨ e.kind = 8 := by
  false_or_by_contra
  rename_i hn
  simp only [not_or] at hn
  obtain ⟨h1, h2, h3, h4, h5, h6, h7, h8⟩ := hn
  have := check_other (s := s) h1 h2 h3 h4 h5 h6 h7 h8
  omega
end Go.Va
end
section
open Go.Proofs
namespace Go.Va
end Go.Va
end
section
open Go.Proofs
namespace Go.Va

theorem nil_pw : PW ([] : Poly) := ⟨by simp [Sm], by simp, by decide⟩
theorem gx_sw {s : Sys} (h : GX s) : s.vars.length < 2 ^ 30 ∧ EW s.eqs ∧ EW s.neqs := ⟨by have := h.g.sw.vars; omega, h.g.sw.eqs, h.g.sw.neqs⟩
end Go.Va
end
section
open Go.Proofs
namespace Go.Va

/-! ### Variables back in their places -/
theorem mono_get {a b : Mono} (h : ∀ j, j < 8 → a.l.getD j 0 = b.l.getD j 0) : a = b := by
  obtain ⟨a0, a1, a2, a3, a4, a5, a6, a7, ha⟩ := mono8 a
  obtain ⟨b0, b1, b2, b3, b4, b5, b6, b7, hb⟩ := mono8 b
  apply Mono.ext
  have h0 := h 0 (by omega)
  have h1 := h 1 (by omega)
  have h2 := h 2 (by omega)
  have h3 := h 3 (by omega)
  have h4 := h 4 (by omega)
  have h5 := h 5 (by omega)
  have h6 := h 6 (by omega)
  have h7 := h 7 (by omega)
  rw [ha, hb] at h0 h1 h2 h3 h4 h5 h6 h7
  simp at h0 h1 h2 h3 h4 h5 h6 h7
  rw [ha, hb, h0, h1, h2, h3, h4, h5, h6, h7]
theorem nat8_mem {j : Nat} (hj : j < 8) : j ∈ List.range 8 := List.mem_range.2 hj
theorem rot_back {a b : Int} (ha : 0 ≤ a ∧ a ≤ 4) (hb : 0 ≤ b ∧ b ≤ 4) (m : Mono) : permM (rotM b a) (permM (rotM a b) m) = m := by
  refine mono_get fun j hj => ?_
  have h1 := List.all_eq_true.1 (List.all_eq_true.1 (List.all_eq_true.1 rot_inv b (mem_nat4 hb.1 hb.2)) a (mem_nat4 ha.1 ha.2)) j (nat8_mem hj)
  simp only [Bool.and_eq_true, decide_eq_true_eq] at h1
  rw [rot_get hb ha _ hj, rot_get ha hb _ h1.2, h1.1]
  simp
theorem swp_back {a b : Int} (ha : 0 ≤ a ∧ a ≤ 4) (hb : 0 ≤ b ∧ b ≤ 4) (m : Mono) : permM (swpM a b) (permM (swpM a b) m) = m := by
  refine mono_get fun j hj => ?_
  have h1 := List.all_eq_true.1 (List.all_eq_true.1 (List.all_eq_true.1 swp_inv a (mem_nat4 ha.1 ha.2)) b (mem_nat4 hb.1 hb.2)) j (nat8_mem hj)
  simp only [Bool.and_eq_true, decide_eq_true_eq] at h1
  rw [swp_get ha hb _ hj, swp_get ha hb _ h1.2, h1.1]
  simp
theorem permute_back {pm pm' : Mono} (hp : IsPerm pm.l) (hp' : IsPerm pm'.l) (hb : ∀ m, permM pm' (permM pm m) = m) {p : Poly} (hd : Desc p) : permute pm' (permute pm p) = p := by
  have hn := desc_nodup hd
  have hd1 := permute_desc hp hn
  have hd2 := permute_desc hp' (desc_nodup hd1)
  refine desc_unique hd2 hd ?_
  refine (permute_perm hp' (desc_nodup hd1)).trans ?_
  refine ((permute_perm hp hn).map (pT pm')).trans ?_
  rw [List.map_map]
  have e : (pT pm' ∘ pT pm) = id := by
    funext t
    obtain ⟨c, m⟩ := t
    show (⟨c, permM pm' (permM pm m)⟩ : Term) = _
    rw [hb]; rfl
  rw [e, List.map_id]
theorem fits_desc {p : Poly} {n : Nat} (h : fits p n = true) : Desc p := by
  unfold fits at h
  simp only [Bool.and_eq_true] at h
  exact (pvalid_iff.1 h.1.1).1
theorem moved_back {pm pm' : Mono} (hp : IsPerm pm.l) (hp' : IsPerm pm'.l) (hb : ∀ m, permM pm' (permM pm m) = m) {n : Nat} {l : List Eqn} (h : ∀ x ∈ l, fits x.p n = true) : moved pm' (moved pm l) = l := by
  unfold moved
  rw [List.map_map]
  have : ∀ x ∈ l, (movedE pm' ∘ movedE pm) x = x := by
    intro x hx
    obtain ⟨id, p⟩ := x
    show (⟨id, permute pm' (permute pm p)⟩ : Eqn) = _
    rw [permute_back hp hp' hb (fits_desc (h _ hx))]
  rw [List.map_congr_left this]
  simp

/-! ### Lists by Id -/
theorem sorted_ext : ∀ {a b : List Eqn}, SortedE a → SortedE b → (∀ x, x ∈ a ↔ x ∈ b) → a = b
  | [], [], _, _, _ => rfl
  | [], y :: b, _, _, h => by have := (h y).2 (by simp); simp at this
  | x :: a, [], _, _, h => by have := (h x).1 (by simp); simp at this
  | x :: a, y :: b, ha, hb, h => by
    have ha' := List.pairwise_cons.1 ha
    have hb' := List.pairwise_cons.1 hb
    have e : x = y := by
      rcases List.mem_cons.1 ((h x).1 (by simp)) with e | h1
      · exact e
      · rcases List.mem_cons.1 ((h y).2 (by simp)) with e | h2
        · exact e.symm
        · have := hb'.1 x h1; have := ha'.1 y h2; omega
    subst e
    rw [sorted_ext ha'.2 hb'.2 fun z => ⟨fun hz => ?_, fun hz => ?_⟩]
    · rcases List.mem_cons.1 ((h z).1 (by simp [hz])) with rfl | h1
      · have := ha'.1 _ hz; omega
      · exact h1
    · rcases List.mem_cons.1 ((h z).2 (by simp [hz])) with rfl | h1
      · have := hb'.1 _ hz; omega
      · exact h1
theorem sorted_id {l : List Eqn} (h : SortedE l) {x y : Eqn} (hx : x ∈ l) (hy : y ∈ l) (e : x.id = y.id) : x = y := by
  obtain ⟨i, hi, rfl⟩ := List.getElem_of_mem hx
  obtain ⟨j, hj, rfl⟩ := List.getElem_of_mem hy
  have hp := List.pairwise_iff_getElem.1 h
  rcases Nat.lt_trichotomy i j with c | c | c
  · have := hp i j hi hj c; omega
  · subst c; rfl
  · have := hp j i hj hi c; omega
theorem mem_putE {l : List Eqn} (h : SortedE l) {x y : Eqn} : y ∈ put l x ↔ y = x ∨ (y ∈ l ∧ y.id ≠ x.id) := by
  rw [put_insE h, insE_mem, mem_dropE]
theorem drop_put {l : List Eqn} (h : SortedE l) {x : Eqn} (hn : ∀ y ∈ l, y.id ≠ x.id) : drop (put l x) x.id = l := by
  refine sorted_ext (drop_sorted (put_sorted h x) _) h fun y => ?_
  rw [mem_dropE, mem_putE h]
  constructor
  · rintro ⟨rfl | h1, h2⟩
    · exact absurd rfl h2
    · exact h1.1
  · intro hy
    exact ⟨.inr ⟨hy, hn y hy⟩, hn y hy⟩
theorem put_drop {l : List Eqn} (h : SortedE l) {x : Eqn} (hx : x ∈ l) : put (drop l x.id) x = l := by
  refine sorted_ext (put_sorted (drop_sorted h _) x) h fun y => ?_
  rw [mem_putE (drop_sorted h _), mem_dropE]
  constructor
  · rintro (rfl | h1)
    · exact hx
    · exact h1.1.1
  · intro hy
    by_cases c : y.id = x.id
    · exact .inl (sorted_id h hy hx c)
    · exact .inr ⟨⟨hy, c⟩, c⟩
theorem put_put {l : List Eqn} (h : SortedE l) {x y : Eqn} (hy : y ∈ l) (e : x.id = y.id) : put (put l x) y = l := by
  refine sorted_ext (put_sorted (put_sorted h x) y) h fun z => ?_
  rw [mem_putE (put_sorted h x), mem_putE h]
  constructor
  · rintro (rfl | ⟨rfl | h1, h2⟩)
    · exact hy
    · exact absurd e h2
    · exact h1.1
  · intro hz
    by_cases c : z.id = y.id
    · exact .inl (sorted_id h hz hy c)
    · exact .inr ⟨.inr ⟨hz, by rw [e]; exact c⟩, c⟩
theorem drop_less {l : List Eqn} {x : Eqn} (hx : x ∈ l) : (drop l x.id).length < l.length := by
  unfold drop
  rw [List.length_filter_lt_length_iff_exists]
  exact ⟨x, hx, by simp⟩
/-- Alike but for Next. -/
structure SameV (u s : Sys) : Prop where
  vars : u.vars = s.vars
  eqs : u.eqs = s.eqs
  neqs : u.neqs = s.neqs
theorem checkAdd_mk {s : Sys} {e : Edt} (h0 : 1 ≤ e.id) (h1 : e.id ≤ 999999) (h2 : has s e.id = false) (h3 : e.neq = false → s.eqs.length < 12) (h4 : e.neq = true → s.neqs.length < 12) (h5 : fits e.p s.vars.length = true) : checkAdd s e = 0 := by
  unfold checkAdd
  rw [if_neg (by rw [h2]; simp; omega), if_neg ?_, if_pos h5]
  rintro (⟨a, b⟩ | ⟨a, b⟩ | ⟨a, b⟩)
  · have := h3 a; omega
  · have := h4 a; omega
  · omega
theorem not_has {s : Sys} {id : Int} (h1 : ∀ x ∈ s.eqs, x.id ≠ id) (h2 : ∀ x ∈ s.neqs, x.id ≠ id) : has s id = false := by
  cases c : has s id
  · rfl
  · rcases has_or.1 c with c | c
    · obtain ⟨x, hx, e⟩ := find_pos.1 c; exact absurd e (h1 x hx)
    · obtain ⟨x, hx, e⟩ := find_pos.1 c; exact absurd e (h2 x hx)
theorem find_neg {l : List Eqn} {id : Int} (h : ∀ x ∈ l, x.id ≠ id) : ¬ 0 ≤ find l id := by
  rw [find_pos]
  rintro ⟨x, hx, e⟩
  exact h x hx e
theorem not_used {s : Sys} {i : Int} (h0 : 0 ≤ i) (h : ∀ x, x ∈ s.eqs ∨ x ∈ s.neqs → ∀ t ∈ x.p, ¬ 0 < t.m.l.getD i.toNat 0) : used s i = false := by
  have g : ∀ x, x ∈ s.eqs ∨ x ∈ s.neqs → usedP i x.p = false := by
    intro x hx
    cases c : usedP i x.p
    · rfl
    · obtain ⟨t, ht, h1⟩ := (usedP_iff h0).1 c
      exact absurd h1 (h x hx t ht)
  unfold used
  simp only [Bool.or_eq_false_iff, List.any_eq_false]
  exact ⟨fun x hx => by simp [g x (.inl hx)], fun x hx => by simp [g x (.inr hx)]⟩
end Go.Va
end
section
open Go.Proofs
namespace Go.Va

theorem back1 {s : Sys} (h : GX s) {e : Edt} (hk : e.kind = 1) (hc : check s e = 0) : check (applyV s e) (invE s e) = 0 ∧ SameV (applyV (applyV s e) (invE s e)) s := by
  have b1 : (s.vars.length < 4 ∧ 0 ≤ e.at_ ∧ e.at_ ≤ s.vars.length) := by
    unfold check at hc
    rw [if_pos hk] at hc
    split at hc
    · cases hc
    · split at hc
      · cases hc
      · split at hc
        · cases hc
        · rename_i g
          simp only [not_or] at g
          omega
  have hb : invE s e = ⟨2, ⟨#[]⟩, e.at_, 0, 0, [], false⟩ := by simp [invE, hk]
  have ht : applyV s e = ⟨s.vars.take e.at_.toNat ++ [e.name] ++ s.vars.drop e.at_.toNat, moved (rotM s.vars.length e.at_) s.eqs, moved (rotM s.vars.length e.at_) s.neqs, s.next⟩ := by simp [applyV, hk]
  have ha : (0 : Int) ≤ s.vars.length ∧ (s.vars.length : Int) ≤ 4 := by omega
  have hb4 : 0 ≤ e.at_ ∧ e.at_ ≤ 4 := by omega
  have hlen : (s.vars.take e.at_.toNat ++ [e.name] ++ s.vars.drop e.at_.toNat).length = s.vars.length + 1 := by simp; omega
  have hun : ∀ x, x ∈ moved (rotM s.vars.length e.at_) s.eqs ∨ x ∈ moved (rotM s.vars.length e.at_) s.neqs → ∀ t ∈ x.p, ¬ 0 < t.m.l.getD e.at_.toNat 0 := by
    have key : ∀ {l : List Eqn}, (∀ y ∈ l, fits y.p s.vars.length = true) → ∀ x ∈ moved (rotM s.vars.length e.at_) l, ∀ t ∈ x.p, ¬ 0 < t.m.l.getD e.at_.toNat 0 := by
      intro l hl x hx t ht
      obtain ⟨y, hy, rfl⟩ := List.mem_map.1 hx
      have hf := hl y hy
      have ht : t ∈ permute (rotM s.vars.length e.at_) y.p := ht
      rw [(permute_perm (isPerm_rot ha hb4) (desc_nodup (fits_desc hf))).mem_iff, List.mem_map] at ht
      obtain ⟨t', ht', rfl⟩ := ht
      show ¬ 0 < (permM (rotM s.vars.length e.at_) t'.m).l.getD e.at_.toNat 0
      have r := rot_at ha hb4
      rw [rot_get ha hb4 _ (by omega), r]
      exact fits_use hf t' ht' _ (by omega)
    rintro x (hx | hx)
    · exact key h.x.fe x hx
    · exact key h.x.fN x hx
  refine ⟨?_, ?_⟩
  · rw [hb, ht]
    have hv : isV ⟨s.vars.take e.at_.toNat ++ [e.name] ++ s.vars.drop e.at_.toNat, moved (rotM s.vars.length e.at_) s.eqs, moved (rotM s.vars.length e.at_) s.neqs, s.next⟩ e.at_ = true := isV_iff.2 ⟨b1.2.1, by simp only [hlen]; omega⟩
    have hu := not_used (s := ⟨s.vars.take e.at_.toNat ++ [e.name] ++ s.vars.drop e.at_.toNat, moved (rotM s.vars.length e.at_) s.eqs, moved (rotM s.vars.length e.at_) s.neqs, s.next⟩) (i := e.at_) b1.2.1 hun
    unfold check
    rw [if_neg (by simp), if_pos rfl, hv, hu]
    simp
  · rw [hb, ht]
    unfold applyV
    rw [if_neg (by simp), if_pos rfl]
    have e1 : (((s.vars.take e.at_.toNat ++ [e.name] ++ s.vars.drop e.at_.toNat).length : Int) - 1) = s.vars.length := by rw [hlen]; omega
    simp only [e1]
    refine ⟨?_, moved_back (isPerm_rot ha hb4) (isPerm_rot hb4 ha) (rot_back ha hb4) h.x.fe, moved_back (isPerm_rot ha hb4) (isPerm_rot hb4 ha) (rot_back ha hb4) h.x.fN⟩
    have hl1 : (s.vars.take e.at_.toNat).length = e.at_.toNat := by simp; omega
    show (s.vars.take e.at_.toNat ++ [e.name] ++ s.vars.drop e.at_.toNat).take e.at_.toNat ++ (s.vars.take e.at_.toNat ++ [e.name] ++ s.vars.drop e.at_.toNat).drop (e.at_.toNat + 1) = s.vars
    have hl2 : (s.vars.take e.at_.toNat ++ [e.name]).length = e.at_.toNat + 1 := by simp; omega
    rw [List.drop_left' hl2, List.append_assoc, List.take_left' hl1, List.take_append_drop]
theorem back2 {s : Sys} (h : GX s) {e : Edt} (hk : e.kind = 2) (hc : check s e = 0) : check (applyV s e) (invE s e) = 0 ∧ SameV (applyV (applyV s e) (invE s e)) s := by
  have b1 : isV s e.at_ = true := by
    unfold check at hc
    rw [if_neg (by omega), if_pos hk] at hc
    split at hc
    · cases hc
    · rename_i g1
      simpa using g1
  have hvl := h.g.vars
  have b2 := isV_iff.1 b1
  have hd := vAt_drop b1
  have hb : invE s e = ⟨1, vAt s e.at_, e.at_, 0, 0, [], false⟩ := by simp [invE, hk]
  have ht : applyV s e = ⟨s.vars.take e.at_.toNat ++ s.vars.drop (e.at_.toNat + 1), moved (rotM e.at_ (s.vars.length - 1)) s.eqs, moved (rotM e.at_ (s.vars.length - 1)) s.neqs, s.next⟩ := by simp [applyV, hk]
  have ha : 0 ≤ e.at_ ∧ e.at_ ≤ 4 := by omega
  have hb4 : 0 ≤ (s.vars.length : Int) - 1 ∧ (s.vars.length : Int) - 1 ≤ 4 := by omega
  have hsp : s.vars = s.vars.take e.at_.toNat ++ vAt s e.at_ :: s.vars.drop (e.at_.toNat + 1) := by
    rw [← hd, List.take_append_drop]
  have hmem : vAt s e.at_ ∈ s.vars := mem_drop hd
  have hnm := h.x.names _ hmem
  have hnd := h.x.nodup
  rw [hsp] at hnd
  have hnot := (mid_nodup hnd).2
  have hlen : (s.vars.take e.at_.toNat ++ s.vars.drop (e.at_.toNat + 1)).length = s.vars.length - 1 := by simp; omega
  have hlen' : ((s.vars.take e.at_.toNat ++ s.vars.drop (e.at_.toNat + 1)).length : Int) = (s.vars.length : Int) - 1 := by rw [hlen]; omega
  refine ⟨?_, ?_⟩
  · rw [hb, ht]
    unfold check
    have hix : ¬ 0 ≤ index (⟨s.vars.take e.at_.toNat ++ s.vars.drop (e.at_.toNat + 1), moved (rotM e.at_ (s.vars.length - 1)) s.eqs, moved (rotM e.at_ (s.vars.length - 1)) s.neqs, s.next⟩ : Sys) (vAt s e.at_) := fun q => hnot (indexF_pos.1.1 q)
    rw [if_pos rfl, if_neg (by simp only [hlen]; omega), if_neg (by simp only [hlen']; omega), if_neg (by simp only [hnm]; simp; omega)]
  · rw [hb, ht]
    unfold applyV
    rw [if_pos rfl]
    simp only [hlen']
    refine ⟨?_, moved_back (isPerm_rot ha hb4) (isPerm_rot hb4 ha) (rot_back ha hb4) h.x.fe, moved_back (isPerm_rot ha hb4) (isPerm_rot hb4 ha) (rot_back ha hb4) h.x.fN⟩
    have hl1 : (s.vars.take e.at_.toNat).length = e.at_.toNat := by simp; omega
    show (s.vars.take e.at_.toNat ++ s.vars.drop (e.at_.toNat + 1)).take e.at_.toNat ++ [vAt s e.at_] ++ (s.vars.take e.at_.toNat ++ s.vars.drop (e.at_.toNat + 1)).drop e.at_.toNat = s.vars
    rw [List.take_left' hl1, List.drop_left' hl1]
    conv => rhs; rw [hsp]
    simp
theorem back3 {s : Sys} (h : GX s) {e : Edt} (hk : e.kind = 3) (hc : check s e = 0) : check (applyV s e) (invE s e) = 0 ∧ SameV (applyV (applyV s e) (invE s e)) s := by
  have b1 : isV s e.at_ = true := by
    unfold check at hc
    rw [if_neg (by omega), if_neg (by omega), if_pos hk] at hc
    split at hc
    · cases hc
    · rename_i g1
      simpa using g1
  have b2 := isV_iff.1 b1
  have hd := vAt_drop b1
  have hmem : vAt s e.at_ ∈ s.vars := mem_drop hd
  have hnm := h.x.names _ hmem
  have hnd := h.x.nodup
  have hb : invE s e = ⟨3, vAt s e.at_, e.at_, 0, 0, [], false⟩ := by simp [invE, hk]
  have ht : applyV s e = { s with vars := s.vars.set e.at_.toNat e.name } := by simp [applyV, hk]
  have hat : e.at_.toNat < s.vars.length := by omega
  have hget : s.vars[e.at_.toNat]? = some (vAt s e.at_) := by
    have := congrArg (·[0]?) hd
    simpa using this
  refine ⟨?_, ?_⟩
  · rw [hb, ht]
    unfold check
    have hv : isV ({ s with vars := s.vars.set e.at_.toNat e.name } : Sys) e.at_ = true := isV_iff.2 ⟨b2.1, by simpa using b2.2⟩
    have hix : 0 ≤ index ({ s with vars := s.vars.set e.at_.toNat e.name } : Sys) (vAt s e.at_) → index ({ s with vars := s.vars.set e.at_.toNat e.name } : Sys) (vAt s e.at_) = e.at_ := by
      intro q
      have g := indexF_pos.2 q
      have q' : 0 ≤ index ({ s with vars := s.vars.set e.at_.toNat e.name } : Sys) (vAt s e.at_) := q
      have g' : (s.vars.set e.at_.toNat e.name)[(index ({ s with vars := s.vars.set e.at_.toNat e.name } : Sys) (vAt s e.at_)).toNat]? = some (vAt s e.at_) := g
      generalize index ({ s with vars := s.vars.set e.at_.toNat e.name } : Sys) (vAt s e.at_) = j at *
      by_cases c : e.at_.toNat = j.toNat
      · omega
      · rw [List.getElem?_set_ne c] at g'
        have := (List.getElem?_inj hat hnd).1 (hget.trans g'.symm)
        omega
    rw [if_neg (by simp), if_neg (by simp), if_pos rfl, hv, if_neg (by simp), if_neg]
    rintro (q | ⟨q1, q2⟩)
    · rw [hnm] at q; cases q
    · exact q2 (hix q1)
  · rw [hb, ht]
    unfold applyV
    rw [if_neg (by simp), if_neg (by simp), if_pos rfl]
    refine ⟨?_, rfl, rfl⟩
    show (s.vars.set e.at_.toNat e.name).set e.at_.toNat (vAt s e.at_) = s.vars
    rw [List.set_set]
    apply List.ext_getElem?
    intro j
    by_cases c : e.at_.toNat = j
    · subst c; rw [List.getElem?_set_self (by omega), hget]
    · rw [List.getElem?_set_ne c]
theorem back4 {s : Sys} (h : GX s) {e : Edt} (hk : e.kind = 4) (hc : check s e = 0) : check (applyV s e) (invE s e) = 0 ∧ SameV (applyV (applyV s e) (invE s e)) s := by
  have b1 : isV s e.at_ = true ∧ isV s e.to = true := by
    unfold check at hc
    rw [if_neg (by omega), if_neg (by omega), if_neg (by omega), if_pos hk] at hc
    split at hc
    · cases hc
    · rename_i g1
      simpa using g1
  have hvl := h.g.vars
  have b2 := isV_iff.1 b1.1
  have b3 := isV_iff.1 b1.2
  have g2 : s.vars[e.at_.toNat]? = some (vAt s e.at_) := by
    have := congrArg (·[0]?) (vAt_drop b1.1)
    simpa using this
  have g3 : s.vars[e.to.toNat]? = some (vAt s e.to) := by
    have := congrArg (·[0]?) (vAt_drop b1.2)
    simpa using this
  have hb : invE s e = ⟨4, ⟨#[]⟩, e.at_, e.to, 0, [], false⟩ := by simp [invE, hk]
  have ht : applyV s e = ⟨(s.vars.set e.at_.toNat (vAt s e.to)).set e.to.toNat (vAt s e.at_), moved (swpM e.at_ e.to) s.eqs, moved (swpM e.at_ e.to) s.neqs, s.next⟩ := by simp [applyV, hk]
  have ha : 0 ≤ e.at_ ∧ e.at_ ≤ 4 := by omega
  have hb4 : 0 ≤ e.to ∧ e.to ≤ 4 := by omega
  generalize ht' : (⟨(s.vars.set e.at_.toNat (vAt s e.to)).set e.to.toNat (vAt s e.at_), moved (swpM e.at_ e.to) s.eqs, moved (swpM e.at_ e.to) s.neqs, s.next⟩ : Sys) = t at *
  have hvars : t.vars = (s.vars.set e.at_.toNat (vAt s e.to)).set e.to.toNat (vAt s e.at_) := by rw [← ht']
  have hlen : t.vars.length = s.vars.length := by rw [hvars]; simp
  have hv1 : isV t e.at_ = true := isV_iff.2 ⟨b2.1, by rw [hlen]; exact b2.2⟩
  have hv2 : isV t e.to = true := isV_iff.2 ⟨b3.1, by rw [hlen]; exact b3.2⟩
  refine ⟨?_, ?_⟩
  · rw [hb, ht]
    unfold check
    rw [if_neg (by simp), if_neg (by simp), if_neg (by simp), if_pos rfl, hv1, hv2]
    simp
  · rw [hb, ht]
    have e1 : t.vars[e.at_.toNat]? = some (vAt s e.to) := by
      rw [hvars]
      by_cases c : e.to.toNat = e.at_.toNat
      · rw [c, List.getElem?_set_self (by simp; omega), ← g2, ← c, g3]
      · rw [List.getElem?_set_ne c, List.getElem?_set_self (by omega)]
    have e2 : t.vars[e.to.toNat]? = some (vAt s e.at_) := by
      rw [hvars, List.getElem?_set_self (by simp; omega)]
    have v1 : vAt t e.at_ = vAt s e.to := by
      unfold vAt at e1 ⊢; rw [List.getD_eq_getElem?_getD, e1]; rfl
    have v2 : vAt t e.to = vAt s e.at_ := by
      unfold vAt at e2 ⊢; rw [List.getD_eq_getElem?_getD, e2]; rfl
    unfold applyV
    rw [if_neg (by simp), if_neg (by simp), if_neg (by simp), if_pos rfl]
    refine ⟨?_, ?_, ?_⟩
    · show (t.vars.set e.at_.toNat (vAt t e.to)).set e.to.toNat (vAt t e.at_) = s.vars
      rw [v1, v2]
      apply List.ext_getElem?
      intro j
      by_cases c : e.to.toNat = j
      · subst c; rw [List.getElem?_set_self (by simp; omega), g3]
      · rw [List.getElem?_set_ne c]
        by_cases c2 : e.at_.toNat = j
        · subst c2; rw [List.getElem?_set_self (by omega), g2]
        · rw [List.getElem?_set_ne c2, hvars, List.getElem?_set_ne c, List.getElem?_set_ne c2]
    · show moved (swpM e.at_ e.to) t.eqs = s.eqs
      rw [← ht']
      exact moved_back (isPerm_swp ha hb4) (isPerm_swp ha hb4) (swp_back ha hb4) h.x.fe
    · show moved (swpM e.at_ e.to) t.neqs = s.neqs
      rw [← ht']
      exact moved_back (isPerm_swp ha hb4) (isPerm_swp ha hb4) (swp_back ha hb4) h.x.fN
end Go.Va
end
section
open Go.Proofs
namespace Go.Va

theorem eqn_eta {x : Eqn} {id : Int} (h : x.id = id) : (⟨id, x.p⟩ : Eqn) = x := by subst h; rfl
theorem checkId_mk {s : Sys} {e : Edt} (h1 : has s e.id = true) (h2 : e.kind = 7 → fits e.p s.vars.length = true) (h3 : e.kind = 8 → (0 ≤ find s.eqs e.id → s.neqs.length < 12) ∧ (¬ 0 ≤ find s.eqs e.id → s.eqs.length < 12)) : checkId s e = 0 := by
  unfold checkId
  rw [if_neg (by rw [h1]; decide), if_neg ?_, if_neg ?_]
  · rintro ⟨k, ⟨a, b⟩ | ⟨a, b⟩⟩
    · have := (h3 k).1 a; omega
    · have := (h3 k).2 a; omega
  · rintro ⟨k, a⟩
    rw [h2 k] at a; cases a
theorem check_id {s : Sys} {e : Edt} (hk : e.kind = 6 ∨ e.kind = 7 ∨ e.kind = 8) : check s e = checkId s e := by
  unfold check
  rw [if_neg (by omega), if_neg (by omega), if_neg (by omega), if_neg (by omega), if_neg (by omega), if_pos hk]
theorem check_add {s : Sys} {e : Edt} (hk : e.kind = 5) : check s e = checkAdd s e := by
  unfold check
  rw [if_neg (by omega), if_neg (by omega), if_neg (by omega), if_neg (by omega), if_pos hk]
theorem applyV_eqn {s : Sys} {e : Edt} (hk : e.kind = 5 ∨ e.kind = 6 ∨ e.kind = 7 ∨ e.kind = 8) : applyV s e = equations s e := by
  unfold applyV
  rw [if_neg (by omega), if_neg (by omega), if_neg (by omega), if_neg (by omega)]
theorem eqn6 {s : Sys} {e : Edt} (hk : e.kind = 6) : applyV s e = { s with eqs := drop s.eqs e.id, neqs := drop s.neqs e.id } := by
  rw [applyV_eqn (.inr (.inl hk))]; unfold equations; rw [if_neg (by omega), if_pos hk]
theorem eqn5 {s : Sys} {e : Edt} (hk : e.kind = 5) : applyV s e = eqnsAdd s e := by
  rw [applyV_eqn (.inl hk)]; unfold equations; rw [if_pos hk]
theorem eqn7 {s : Sys} {e : Edt} (hk : e.kind = 7) : applyV s e = eqnsSet s e := by
  rw [applyV_eqn (.inr (.inr (.inl hk)))]; unfold equations; rw [if_neg (by omega), if_neg (by omega), if_pos hk]
theorem eqn8 {s : Sys} {e : Edt} (hk : e.kind = 8) : applyV s e = eqnsFlip s e := by
  rw [applyV_eqn (.inr (.inr (.inr hk)))]; unfold equations; rw [if_neg (by omega), if_neg (by omega), if_neg (by omega)]
theorem back5 {s : Sys} (h : GX s) {e : Edt} (hk : e.kind = 5) (hc : check s e = 0) : check (applyV s e) (invE s e) = 0 ∧ SameV (applyV (applyV s e) (invE s e)) s := by
  rw [check_add hk] at hc
  obtain ⟨c1, c2, c3, -⟩ := checkAdd_ok hc
  have hb : invE s e = ⟨6, ⟨#[]⟩, 0, 0, if e.id = 0 then s.next else e.id, [], false⟩ := by simp [invE, hk]
  have hn : (∀ x ∈ s.eqs, x.id ≠ if e.id = 0 then s.next else e.id) ∧ (∀ x ∈ s.neqs, x.id ≠ if e.id = 0 then s.next else e.id) := by
    by_cases c : e.id = 0
    · rw [if_pos c]
      exact ⟨fun x hx => by have := (h.g.ie x hx).2; omega, fun x hx => by have := (h.g.iN x hx).2; omega⟩
    · rw [if_neg c]
      exact has_not (c3 (by omega))
  rw [hb, eqn5 hk]
  unfold eqnsAdd
  generalize (if e.id = 0 then s.next else e.id) = id at *
  cases c : e.neq
  · rw [if_neg (by decide)]
    refine ⟨?_, ?_⟩
    · rw [check_id (.inl rfl)]
      refine checkId_mk (has_or.2 (.inl (find_pos.2 ⟨_, (mem_putE h.x.se).2 (.inl rfl), rfl⟩))) (fun q => by simp at q) (fun q => by simp at q)
    · rw [eqn6 rfl]
      exact ⟨rfl, drop_put (x := ⟨id, e.p⟩) h.x.se hn.1, drop_none hn.2⟩
  · rw [if_pos rfl]
    refine ⟨?_, ?_⟩
    · rw [check_id (.inl rfl)]
      refine checkId_mk (has_or.2 (.inr (find_pos.2 ⟨_, (mem_putE h.x.sN).2 (.inl rfl), rfl⟩))) (fun q => by simp at q) (fun q => by simp at q)
    · rw [eqn6 rfl]
      exact ⟨rfl, drop_none hn.1, drop_put (x := ⟨id, e.p⟩) h.x.sN hn.2⟩
theorem no_two {s : Sys} (h : GX s) {id : Int} (c : 0 ≤ find s.eqs id) : ¬ 0 ≤ find s.neqs id := fun q => h.g.two id ⟨c, q⟩
theorem none_of {l : List Eqn} {id : Int} (h : ¬ 0 ≤ find l id) : ∀ x ∈ l, x.id ≠ id := fun x hx e => h (find_pos.2 ⟨x, hx, e⟩)
theorem back6 {s : Sys} (h : GX s) {e : Edt} (hk : e.kind = 6) (hc : check s e = 0) : check (applyV s e) (invE s e) = 0 ∧ SameV (applyV (applyV s e) (invE s e)) s := by
  rw [check_id (.inl hk)] at hc
  obtain ⟨c1, -⟩ := checkId_ok hc
  have hb : invE s e = ⟨5, ⟨#[]⟩, 0, 0, e.id, oldP s e.id, decide (0 ≤ find s.neqs e.id)⟩ := by simp [invE, hk]
  have hz : ∀ {x : Eqn}, (1 ≤ x.id ∧ x.id < s.next) → ¬ x.id = 0 := fun q => by omega
  have hhi := h.g.hi
  have hnn : ∀ {l : List Eqn}, ∀ x ∈ drop l e.id, x.id ≠ e.id := fun x hx => (mem_dropE.1 hx).2
  rw [hb, eqn6 hk]
  by_cases q1 : 0 ≤ find s.eqs e.id
  · have q2 := no_two h q1
    obtain ⟨m1, m2⟩ := getE_mem q1
    have hid := h.g.ie _ m1
    have ho : oldP s e.id = (getE s.eqs e.id).p := by unfold oldP; rw [if_pos q1]
    rw [ho, decide_eq_false q2]
    refine ⟨?_, ?_⟩
    · rw [check_add rfl]
      refine checkAdd_mk (by simp only; omega) (by simp only; omega) (not_has hnn hnn) (fun _ => ?_) (fun q => by simp at q) (h.x.fe _ m1)
      have := drop_less m1; rw [m2] at this
      have := h.g.leqs
      simp only; omega
    · rw [eqn5 rfl]
      unfold eqnsAdd
      rw [if_neg (by simp)]
      have hz : ¬ e.id = 0 := by omega
      simp only [if_neg hz]
      have e1 : (⟨e.id, (getE s.eqs e.id).p⟩ : Eqn) = getE s.eqs e.id := eqn_eta m2
      refine ⟨rfl, ?_, drop_none (none_of q2)⟩
      show put (drop s.eqs e.id) ⟨e.id, (getE s.eqs e.id).p⟩ = s.eqs
      have := put_drop h.x.se m1
      rw [e1]; rw [m2] at this; exact this
  · have q2 : 0 ≤ find s.neqs e.id := (has_or.1 c1).resolve_left q1
    obtain ⟨m1, m2⟩ := getE_mem q2
    have hid := h.g.iN _ m1
    have ho : oldP s e.id = (getE s.neqs e.id).p := by unfold oldP; rw [if_neg q1, if_pos q2]
    rw [ho, decide_eq_true q2]
    refine ⟨?_, ?_⟩
    · rw [check_add rfl]
      refine checkAdd_mk (by simp only; omega) (by simp only; omega) (not_has hnn hnn) (fun q => by simp at q) (fun _ => ?_) (h.x.fN _ m1)
      have := drop_less m1; rw [m2] at this
      have := h.g.lneqs
      simp only; omega
    · rw [eqn5 rfl]
      unfold eqnsAdd
      rw [if_pos rfl]
      have hz : ¬ e.id = 0 := by omega
      simp only [if_neg hz]
      have e1 : (⟨e.id, (getE s.neqs e.id).p⟩ : Eqn) = getE s.neqs e.id := eqn_eta m2
      refine ⟨rfl, drop_none (none_of q1), ?_⟩
      show put (drop s.neqs e.id) ⟨e.id, (getE s.neqs e.id).p⟩ = s.neqs
      have := put_drop h.x.sN m1
      rw [e1]; rw [m2] at this; exact this
theorem back7 {s : Sys} (h : GX s) {e : Edt} (hk : e.kind = 7) (hc : check s e = 0) : check (applyV s e) (invE s e) = 0 ∧ SameV (applyV (applyV s e) (invE s e)) s := by
  rw [check_id (.inr (.inl hk))] at hc
  obtain ⟨c1, -⟩ := checkId_ok hc
  have hb : invE s e = ⟨7, ⟨#[]⟩, 0, 0, e.id, oldP s e.id, false⟩ := by simp [invE, hk]
  rw [hb, eqn7 hk]
  unfold eqnsSet
  by_cases q1 : 0 ≤ find s.eqs e.id
  · obtain ⟨m1, m2⟩ := getE_mem q1
    have ho : oldP s e.id = (getE s.eqs e.id).p := by unfold oldP; rw [if_pos q1]
    have hf : 0 ≤ find (put s.eqs ⟨e.id, e.p⟩) e.id := find_pos.2 ⟨_, (mem_putE h.x.se).2 (.inl rfl), rfl⟩
    have e1 : (⟨e.id, (getE s.eqs e.id).p⟩ : Eqn) = getE s.eqs e.id := eqn_eta m2
    rw [ho, if_pos q1]
    refine ⟨?_, ?_⟩
    · rw [check_id (.inr (.inl rfl))]
      exact checkId_mk (has_or.2 (.inl hf)) (fun _ => h.x.fe _ m1) (fun q => by simp at q)
    · rw [eqn7 rfl]
      unfold eqnsSet
      rw [if_pos hf]
      refine ⟨rfl, ?_, rfl⟩
      show put (put s.eqs ⟨e.id, e.p⟩) ⟨e.id, (getE s.eqs e.id).p⟩ = s.eqs
      rw [e1]
      exact put_put h.x.se m1 m2.symm
  · have q2 : 0 ≤ find s.neqs e.id := (has_or.1 c1).resolve_left q1
    obtain ⟨m1, m2⟩ := getE_mem q2
    have ho : oldP s e.id = (getE s.neqs e.id).p := by unfold oldP; rw [if_neg q1, if_pos q2]
    have hf : 0 ≤ find (put s.neqs ⟨e.id, e.p⟩) e.id := find_pos.2 ⟨_, (mem_putE h.x.sN).2 (.inl rfl), rfl⟩
    have e1 : (⟨e.id, (getE s.neqs e.id).p⟩ : Eqn) = getE s.neqs e.id := eqn_eta m2
    rw [ho, if_neg q1]
    refine ⟨?_, ?_⟩
    · rw [check_id (.inr (.inl rfl))]
      exact checkId_mk (has_or.2 (.inr hf)) (fun _ => h.x.fN _ m1) (fun q => by simp at q)
    · rw [eqn7 rfl]
      unfold eqnsSet
      rw [if_neg q1]
      refine ⟨rfl, rfl, ?_⟩
      show put (put s.neqs ⟨e.id, e.p⟩) ⟨e.id, (getE s.neqs e.id).p⟩ = s.neqs
      rw [e1]
      exact put_put h.x.sN m1 m2.symm
theorem getE_put {l : List Eqn} (h : SortedE l) {x : Eqn} : getE (put l x) x.id = x := by
  have hf : 0 ≤ find (put l x) x.id := find_pos.2 ⟨_, (mem_putE h).2 (.inl rfl), rfl⟩
  obtain ⟨m1, m2⟩ := getE_mem hf
  exact sorted_id (put_sorted h x) m1 ((mem_putE h).2 (.inl rfl)) m2
theorem back8 {s : Sys} (h : GX s) {e : Edt} (hk : e.kind = 8) (hc : check s e = 0) : check (applyV s e) (invE s e) = 0 ∧ SameV (applyV (applyV s e) (invE s e)) s := by
  rw [check_id (.inr (.inr hk))] at hc
  obtain ⟨c1, -⟩ := checkId_ok hc
  have hb : invE s e = ⟨8, ⟨#[]⟩, 0, 0, e.id, [], false⟩ := by simp [invE, hk]
  rw [hb, eqn8 hk]
  unfold eqnsFlip
  have hle := h.g.leqs
  have hln := h.g.lneqs
  by_cases q1 : 0 ≤ find s.eqs e.id
  · have q2 := no_two h q1
    obtain ⟨m1, m2⟩ := getE_mem q1
    have hf : 0 ≤ find (put s.neqs (getE s.eqs e.id)) e.id := find_pos.2 ⟨_, (mem_putE h.x.sN).2 (.inl rfl), m2⟩
    have hnf : ¬ 0 ≤ find (drop s.eqs e.id) e.id := find_neg fun x hx => (mem_dropE.1 hx).2
    have hd := drop_less m1
    rw [m2] at hd
    rw [if_pos q1]
    refine ⟨?_, ?_⟩
    · rw [check_id (.inr (.inr rfl))]
      exact checkId_mk (has_or.2 (.inr hf)) (fun q => by simp at q) (fun _ => ⟨fun q => absurd q hnf, fun _ => by simp only; omega⟩)
    · rw [eqn8 rfl]
      unfold eqnsFlip
      rw [if_neg hnf]
      have hn : ∀ y ∈ s.neqs, y.id ≠ (getE s.eqs e.id).id := by rw [m2]; exact none_of q2
      have g1 := getE_put (x := getE s.eqs e.id) h.x.sN
      have g2 := drop_put h.x.sN hn
      have g3 := put_drop h.x.se m1
      rw [m2] at g1 g2 g3
      refine ⟨rfl, ?_, g2⟩
      show put (drop s.eqs e.id) (getE (put s.neqs (getE s.eqs e.id)) e.id) = s.eqs
      rw [g1]; exact g3
  · have q2 : 0 ≤ find s.neqs e.id := (has_or.1 c1).resolve_left q1
    obtain ⟨m1, m2⟩ := getE_mem q2
    have hf : 0 ≤ find (put s.eqs (getE s.neqs e.id)) e.id := find_pos.2 ⟨_, (mem_putE h.x.se).2 (.inl rfl), m2⟩
    have hd := drop_less m1
    rw [m2] at hd
    rw [if_neg q1]
    refine ⟨?_, ?_⟩
    · rw [check_id (.inr (.inr rfl))]
      exact checkId_mk (has_or.2 (.inl hf)) (fun q => by simp at q) (fun _ => ⟨fun _ => by simp only; omega, fun q => absurd hf q⟩)
    · rw [eqn8 rfl]
      unfold eqnsFlip
      rw [if_pos hf]
      have hn : ∀ y ∈ s.eqs, y.id ≠ (getE s.neqs e.id).id := by rw [m2]; exact none_of q1
      have g1 := getE_put (x := getE s.neqs e.id) h.x.se
      have g2 := drop_put h.x.se hn
      have g3 := put_drop h.x.sN m1
      rw [m2] at g1 g2 g3
      refine ⟨rfl, g2, ?_⟩
      show put (drop s.neqs e.id) (getE (put s.eqs (getE s.neqs e.id)) e.id) = s.neqs
      rw [g1]; exact g3
/-- An edit that can be applied is taken back by its inverse. -/
theorem back {s : Sys} (h : GX s) {e : Edt} (hc : check s e = 0) : check (applyV s e) (invE s e) = 0 ∧ SameV (applyV (applyV s e) (invE s e)) s := by
  rcases check_kind hc with k | k | k | k | k | k | k | k
  · exact back1 h k hc
  · exact back2 h k hc
  · exact back3 h k hc
  · exact back4 h k hc
  · exact back5 h k hc
  · exact back6 h k hc
  · exact back7 h k hc
  · exact back8 h k hc
end Go.Va
end
section
open Go.Proofs
namespace Go.Va

theorem apply_ok {s : Sys} {e : Edt} (h : check s e = 0) : apply s e = (applyV s e, 0) := by unfold apply; rw [if_pos h]
theorem alike_same {pp : Option PrimFn} {u s : Sys} (hu : GX u) (hs : GX s) (h : SameV u s) : funD (cxT pp) 29 [.agg (cSys u), .agg (cSys s)] = some (.bool true) := by
  have k := alike_spec (pp := pp) u s (gx_sw hu).1 (gx_sw hu).2.1 (gx_sw hu).2.2 (gx_sw hs).2.1 (gx_sw hs).2.2
  simpa [h.vars, h.eqs, h.neqs] using k
end Go.Va
end
section
open Go.Proofs
namespace Go.Va
variable {pp : Option PrimFn}

/-! ### Cmp, Same -/
def tcmp (a b : Term) : Int := if mcmp a.m b.m = 0 then sgn (a.c - b.c) else mcmp a.m b.m
theorem tcmp_spec (a b : Term) (ha : a.c.natAbs ≤ 12) (hb : b.c.natAbs ≤ 12) : funD (cxT pp) 185 [.agg (cTerm a), .agg (cTerm b)] = some (.int .i64 (tcmp a b)) := by
  have k1 := pcmp_spec (pp := pp) a.m b.m
  have k2 := qcmp (pp := pp) a.c b.c ha hb
  simp [cRat] at k2
  rw [fun_185]
  unfold closedD bodyD tcmp
  by_cases c : mcmp a.m b.m = 0
  · rw [c] at k1
    simp [fn185, cTerm, cRat, k1, k2, c]
  · generalize mcmp a.m b.m = z at *
    simp [fn185, cTerm, cRat, k1, k2, c]
theorem tcmp_zero {a b : Term} : tcmp a b = 0 ↔ a = b := by
  unfold tcmp
  constructor
  · intro h
    by_cases c : mcmp a.m b.m = 0
    · rw [if_pos c] at h
      have h1 := mcmp_eq c
      have h2 : a.c = b.c := by unfold sgn at h; split at h <;> (try split at h) <;> omega
      obtain ⟨x, m⟩ := a
      obtain ⟨y, n⟩ := b
      simp only at h1 h2
      rw [h1, h2]
    · rw [if_neg c] at h
      exact absurd h c
  · rintro rfl
    have : mcmp a.m a.m = 0 := by have := mcmp_anti a.m a.m; omega
    rw [if_pos this]
    simp [sgn]
def stepP (q : Poly) (i : Nat) (a : Term) : Option Int := match q.drop i with | [] => some 1 | b :: _ => if tcmp a b = 0 then none else some (tcmp a b)
def cmpP (p q : Poly) : Int := (findL (stepP q) p 0).getD (if p.length < q.length then -1 else 0)
theorem cmpP_go : ∀ (p q : Poly) (i : Nat), (findL (stepP q) p i = none ∧ ((q.drop i).take p.length = p)) ∨ ∃ z, findL (stepP q) p i = some z ∧ z ≠ 0 ∧ (q.drop i).take p.length ≠ p
  | [], q, i => .inl ⟨rfl, by simp⟩
  | a :: p, q, i => by
    unfold findL stepP
    cases hd : q.drop i with
    | nil => exact .inr ⟨1, rfl, by decide, by simp⟩
    | cons b r =>
      have hr : q.drop (i + 1) = r := by rw [← List.drop_drop, hd]; rfl
      by_cases c : tcmp a b = 0
      · simp only [if_pos c]
        have e := tcmp_zero.1 c
        subst e
        rcases cmpP_go p q (i + 1) with ⟨h1, h2⟩ | ⟨z, h1, h2, h3⟩
        · rw [hr] at h2
          exact .inl ⟨h1, by rw [List.length_cons, List.take_succ_cons, h2]⟩
        · rw [hr] at h3
          exact .inr ⟨z, h1, h2, by rw [List.length_cons, List.take_succ_cons]; intro e; exact h3 (List.cons.inj e).2⟩
      · simp only [if_neg c]
        exact .inr ⟨_, rfl, c, by rw [List.length_cons, List.take_succ_cons]; intro e; exact c (tcmp_zero.2 (List.cons.inj e).1.symm)⟩
theorem cmpP_zero {p q : Poly} : cmpP p q = 0 ↔ p = q := by
  unfold cmpP
  rcases cmpP_go p q 0 with ⟨h1, h2⟩ | ⟨z, h1, h2, h3⟩
  · rw [h1, Option.getD_none]
    rw [List.drop_zero] at h2
    constructor
    · intro h
      split at h
      · omega
      · rw [List.take_of_length_le (by omega)] at h2
        exact h2.symm
    · rintro rfl
      rw [if_neg (by omega)]
  · rw [h1, Option.getD_some]
    constructor
    · intro h; exact absurd h h2
    · rintro rfl
      exact absurd (by simp) h3
theorem sm_at {p : Poly} (h : Sm 12 p) {i : Nat} {x : Term} {r : Poly} (hd : p.drop i = x :: r) : x.c.natAbs ≤ 12 := h x (mem_drop hd)
set_option maxHeartbeats 4000000 in
theorem cmpF_spec (p q : Poly) (hp : Sm 12 p) (hq : Sm 12 q) (hl : p.length < 2 ^ 30) (hl2 : q.length < 2 ^ 30) : funD (cxT pp) 184 [poly p, poly q, .func 185 [] []] = some (.int .i64 (cmpP p q)) := by
  have loop := loop_find (cx := cxT pp) (d := 0) (c := c184_0) p (stepP q)
    (fun i s => s.env 0 = .p (poly p) ∧ s.env 1 = .p (poly q) ∧ s.env 2 = .p (.func 185 [] []) ∧ s.env 11 = .p (poly p) ∧ s.env 12 = .p (.int .i64 p.length) ∧ s.env 13 = .p (.int .i64 i))
    (fun z a => a.1 = .ret ∧ a.2.env 6 = .p (.int .i64 z)) (.ex 0) (by simp)
    (by
      rintro i ⟨env, h⟩ t rest hi hx hd ⟨h0, h1, h2, h11, h12, h13⟩
      simp only at h0 h1 h2 h11 h12 h13
      have hw := inc_id hi (by omega)
      have hi2 : (i : Int) < p.length := by omega
      unfold stepP
      cases hd2 : q.drop i with
      | nil =>
        have hg : (q.length : Int) ≤ i := by have := List.drop_eq_nil_iff.1 hd2; omega
        simp [c184_0, h0, h1, h2, h11, h12, h13, hi, hi2, hd, hg, cTerm, cRat]
      | cons b r =>
        have hl3 := drop_lt hd2
        have hg : ¬ (q.length : Int) ≤ i := by omega
        have k := tcmp_spec (pp := pp) t b (sm_at hp hd) (sm_at hq hd2)
        simp only [cTerm, cRat] at k
        by_cases c : tcmp t b = 0
        · rw [c] at k
          simp at k
          simp [c184_0, h0, h1, h2, h11, h12, h13, hi, hi2, hd, hg, hd2, hl3, cTerm, cRat, k, c, hw]
        · simp at k
          simp only [if_neg c]
          generalize tcmp t b = z at *
          simp [c184_0, h0, h1, h2, h11, h12, h13, hi, hi2, hd, hg, hd2, hl3, cTerm, cRat, k, c])
    (by
      rintro ⟨env, h⟩ ⟨h0, h1, h2, h11, h12, h13⟩
      simp only at h0 h1 h2 h11 h12 h13
      simp [c184_0, h0, h1, h2, h11, h12, h13])
  rw [fun_184]
  unfold closedD bodyD cmpP
  simp [fn184]
  generalize hx : codeD (cxT pp) 0 (ACode.loop c184_0) _ = X
  obtain ⟨e, env, h, rfl, q1⟩ := at_code hx (loop _ (by simp))
  simp only at q1
  revert q1
  cases findL (stepP q) p 0 with
  | none =>
    rintro ⟨rfl, h0, h1, -⟩
    by_cases c : p.length < q.length
    · have c' : (p.length : Int) < q.length := by omega
      simp [h0, h1, c, c']
    · have c' : ¬ (p.length : Int) < q.length := by omega
      simp [h0, h1, c, c']
  | some z =>
    rintro ⟨rfl, h6⟩
    simp [h6]
theorem psame_spec (p q : Poly) (hp : Sm 12 p) (hq : Sm 12 q) (hl : p.length < 2 ^ 30) (hl2 : q.length < 2 ^ 30) : funD (cxT pp) 84 [poly p, poly q] = some (.bool (decide (p = q))) := by
  have k := cmpF_spec (pp := pp) p q hp hq hl hl2
  have k2 : funD (cxT pp) 150 [poly p, poly q] = some (.int .i64 (cmpP p q)) := by
    rw [fun_150]
    unfold closedD bodyD
    simp at k
    simp [fn150, k]
  rw [fun_84]
  unfold closedD bodyD
  simp at k2
  by_cases c : p = q
  · have c2 := cmpP_zero.2 c
    rw [c2] at k2
    simp [fn84, k2, c]
    subst c
    simp [k2]
  · have c2 : ¬ cmpP p q = 0 := fun h => c (cmpP_zero.1 h)
    simp [fn84, k2, c, c2]
end Go.Va
end
section
open Go.Proofs
namespace Go.Va
variable {pp : Option PrimFn}

def stepN (b : List ByteArray) (i : Nat) (x : ByteArray) : Option Unit := match b.drop i with | [] => some () | y :: _ => if x = y then none else some ()
theorem stepN_go : ∀ (a b : List ByteArray) (i : Nat), a.length = (b.drop i).length → ((findL (stepN b) a i = none) ↔ a = b.drop i)
  | [], b, i, h => by
    have : b.drop i = [] := List.eq_nil_of_length_eq_zero (by simpa using h.symm)
    rw [this]; simp [findL]
  | x :: a, b, i, h => by
    unfold findL
    cases hd : b.drop i with
    | nil => rw [hd] at h; simp at h
    | cons y r =>
      have hr : b.drop (i + 1) = r := by rw [← List.drop_drop, hd]; rfl
      have hs : stepN b i x = if x = y then none else some () := by unfold stepN; rw [hd]
      rw [hs]
      by_cases c : x = y
      · subst c
        simp only [if_true]
        rw [stepN_go a b (i + 1) (by rw [hr]; rw [hd] at h; simpa using h), hr]
        simp
      · simp [if_neg c, c]
set_option maxHeartbeats 4000000 in
theorem sequal_spec (a b : List ByteArray) (ha : a.length < 2 ^ 30) : funD (cxT pp) 82 [names a, names b] = some (.bool (decide (a = b))) := by
  have loop := fun hl : a.length = b.length => loop_find (cx := cxT pp) (d := 0) (c := c82_0) a (stepN b)
    (fun i s => s.env 0 = .p (names a) ∧ s.env 1 = .p (names b) ∧ s.env 12 = .p (.int .i64 a.length) ∧ s.env 13 = .p (.int .i64 i))
    (fun z r => r.1 = .ret ∧ r.2.env 4 = .p (.bool false)) (.ex 0) (by simp)
    (by
      rintro i ⟨env, h⟩ t rest hi hx hd ⟨h0, h1, h12, h13⟩
      simp only at h0 h1 h12 h13
      have hw := inc_id hi (by omega)
      have hi2 : (i : Int) < a.length := by omega
      have hl3 : i < b.length := by omega
      unfold stepN
      cases hd2 : b.drop i with
      | nil => have := List.drop_eq_nil_iff.1 hd2; omega
      | cons y r =>
        by_cases c : t = y
        · simp [c82_0, h0, h1, h12, h13, hi, hi2, hd, hd2, hl3, c, hw]
        · simp [c82_0, h0, h1, h12, h13, hi, hi2, hd, hd2, hl3, c])
    (by
      rintro ⟨env, h⟩ ⟨h0, h1, h12, h13⟩
      simp only at h0 h1 h12 h13
      simp [c82_0, h0, h1, h12, h13])
  rw [fun_82]
  unfold closedD bodyD
  by_cases c : a.length = b.length
  · have c' : (a.length : Int) = b.length := by omega
    have hiff := stepN_go a b 0 (by simpa using c)
    rw [List.drop_zero] at hiff
    simp [fn82, c, c']
    generalize hx : codeD (cxT pp) 0 (ACode.loop c82_0) _ = X
    obtain ⟨e, env, h, rfl, q1⟩ := at_code hx (loop c _ (by simp [c]))
    simp only at q1
    revert q1 hiff
    cases findL (stepN b) a 0 with
    | none =>
      rintro hiff ⟨rfl, -⟩
      have e := hiff.1 rfl
      simp [e]
    | some z =>
      rintro hiff ⟨rfl, h4⟩
      have e : ¬ a = b := fun e => by cases hiff.2 e
      simp [h4, e]
  · have c' : ¬ (a.length : Int) = b.length := by omega
    have e : ¬ a = b := fun e => c (by rw [e])
    simp [fn82, c, c', e]
end Go.Va
end
section
open Go.Proofs
namespace Go.Va
variable {pp : Option PrimFn}

/-! ### stays -/
def stays (same : Bool) (x : Eqn) (l : List Eqn) : Bool := same && decide (0 ≤ find l x.id) && decide ((getE l x.id).p = x.p)
set_option maxHeartbeats 4000000 in
theorem stays_spec (same : Bool) (x : Eqn) (l : List Eqn) (hx : PW x.p) (hl : EW l) : funD (cxT pp) 83 [.agg (cEqn x), sl cEqn l, .cptr [.bool same]] = some (.bool (stays same x l)) := by
  have b1 := hl.1
  have k1 := byId_spec (pp := pp) l (by omega) x.id
  rw [fun_83]
  unfold closedD bodyD stays
  cases same
  · simp [fn83, k1]
  · by_cases c : 0 ≤ find l x.id
    · obtain ⟨r, hr⟩ := find_get c
      have hlt := drop_lt hr
      have hlt' : find l x.id < l.length := by omega
      have hp := hl.2 _ (mem_drop hr)
      have k2 := psame_spec (pp := pp) (getE l x.id).p x.p hp.1 hx.1 (by have := hp.2.2; omega) (by have := hx.2.2; omega)
      simp at k2
      simp [fn83, k1, c, hr, hlt, hlt', k2]
    · simp [fn83, k1, c]

/-! ### The edits so far -/
def OutK (k : Key) : Prop := k = ⟨1, 24⟩ ∨ k = ⟨0, 51⟩ ∨ k = ⟨0, 66⟩ ∨ k = ⟨1, 29⟩
def OutH (h : Hp) (L : List Edt) : Prop :=
  ∃ o, h.get ⟨0, 6⟩ = ⟨1, false, some (.cells [o])⟩ ∧ ((L = [] ∧ o = .p kE) ∨ ∃ (k : Key) (v : Nat) (cs : List PV), OutK k ∧ o = .ref k v 0 L.length 7 false ∧ h.get k = ⟨v, false, some (.cells (cs.map .p))⟩ ∧ cs.length = L.length * 7 ∧ PV.erL cs = L.flatMap cE)
theorem OutH.frame {h h' : Hp} {L : List Edt} (ho : OutH h L) (hf : ∀ k, (k = ⟨0, 6⟩ ∨ OutK k) → h'.get k = h.get k) : OutH h' L := by
  obtain ⟨o, g, q⟩ := ho
  refine ⟨o, by rw [hf _ (.inl rfl)]; exact g, ?_⟩
  rcases q with q | ⟨k, v, cs, q1, q2, q3, q4, q5⟩
  · exact .inl q
  · exact .inr ⟨k, v, cs, q1, q2, by rw [hf k (.inr q1)]; exact q3, q4, q5⟩
theorem OutH.mk2 {h : Hp} {L : List Edt} {k : Key} (hk : OutK k) (v n : Nat) (cs : List PV) (g6 : h.get ⟨0, 6⟩ = ⟨1, false, some (.cells [.ref k v 0 n 7 false])⟩) (hn : n = L.length) (gk : h.get k = ⟨v, false, some (.cells (cs.map .p))⟩)
    (hl : cs.length = L.length * 7) (he : PV.erL cs = L.flatMap cE) : OutH h L := by
  subst hn
  exact ⟨_, g6, .inr ⟨k, v, cs, hk, rfl, gk, hl, he⟩⟩
def dropE (id : Int) : Edt := ⟨6, ⟨#[]⟩, 0, 0, id, [], false⟩
def addE (x : Eqn) (neq : Bool) : Edt := ⟨5, ⟨#[]⟩, 0, 0, x.id, x.p, neq⟩
def stepLeave (same : Bool) (b : List Eqn) (L : List Edt) (x : Eqn) : List Edt := if stays same x b then L else L ++ [dropE x.id]
/-- What a closure finds. -/
def DiffH (h : Hp) (same : Bool) : Prop := h.get ⟨0, 8⟩ = ⟨1, false, some (.cells [.func 83 [] [.ptr ⟨0, 7⟩ 1 0]])⟩ ∧ h.get ⟨0, 7⟩ = ⟨1, false, some (.cells [.p (.bool same)])⟩
def KeepH (h0 h : Hp) : Prop := h.get ⟨0, 2⟩ = h0.get ⟨0, 2⟩ ∧ h.get ⟨0, 3⟩ = h0.get ⟨0, 3⟩
set_option maxHeartbeats 8000000 in
theorem leave_loop (same : Bool) (a b : List Eqn) (ha : EW a) (hb : EW b) (L0 : List Edt) (hL : L0.length < 2 ^ 20) (h0 : Hp) (st : St)
    (hst : st.env 8 = .p (sl cEqn a) ∧ st.env 9 = .p (.int .i64 a.length) ∧ st.env 10 = .p (.int .i64 (0 : Nat)) ∧ st.env 1 = .p (sl cEqn b) ∧ st.env 2 = .ptr ⟨0, 8⟩ 1 0 ∧ st.env 3 = .ptr ⟨0, 6⟩ 1 0 ∧ DiffH st.h same ∧ KeepH h0 st.h ∧ OutH st.h L0) :
    ∃ r, codeD (cxT pp) 1 (.loop c85_0) st = some r ∧ r.1 = .ex 0 ∧ DiffH r.2.h same ∧ KeepH h0 r.2.h ∧ OutH r.2.h (a.foldl (stepLeave same b) L0) := by
  have hal := ha.1
  have loop := loop_fold (cx := cxT pp) (d := 1) (c := c85_0) a (stepLeave same b)
    (fun i L st => L.length ≤ L0.length + i ∧ st.env 8 = .p (sl cEqn a) ∧ st.env 9 = .p (.int .i64 a.length) ∧ st.env 10 = .p (.int .i64 i) ∧ st.env 1 = .p (sl cEqn b) ∧ st.env 2 = .ptr ⟨0, 8⟩ 1 0 ∧ st.env 3 = .ptr ⟨0, 6⟩ 1 0 ∧ DiffH st.h same ∧ KeepH h0 st.h ∧ OutH st.h L) (.ex 0) (by simp)
    (by
      rintro i L ⟨env, h⟩ x rest hi hx hd ⟨hle, h8, h9, h10, h1, h2, h3, ⟨g8, g7⟩, ⟨e2, e3⟩, ⟨o, g6, ho⟩⟩
      simp only at h8 h9 h10 h1 h2 h3 g8 g7 e2 e3 g6
      have hw := inc_id hi (by omega)
      have hi2 : (i : Int) < a.length := by omega
      have k := stays_spec (pp := pp) same x b (ha.2 x (mem_drop hd)) hb
      have hr := @roomy_ok (L.length + 1) 80 (by omega) (by decide)
      have hr1 := @roomy_ok 1 80 (by omega) (by decide)
      simp at k
      cases c : stays same x b
      · rw [c] at k
        have hL1 : stepLeave same b L x = L ++ [dropE x.id] := by simp [stepLeave, c]
        rw [hL1]
        rcases ho with ⟨rfl, rfl⟩ | ⟨key, v, cs, hk, rfl, gk, hcl, hce⟩
        · simp [-Prod.exists, c85_0, h8, h9, h10, h1, h2, h3, g8, g7, e2, e3, g6, hi, hi2, hd, hw, cEqn, k, roomy, DiffH, KeepH, show Fl.nil.tight = true from rfl]
          refine ⟨by omega, .ref ⟨1, 24⟩ ((h.get ⟨1, 24⟩).ver + 1) 0 1 7 false, by simp, .inr ⟨⟨1, 24⟩, (h.get ⟨1, 24⟩).ver + 1, [.int .i64 6, .str ⟨#[]⟩, .int .i64 0, .int .i64 0, .int .i64 x.id, kE, .bool false], .inl rfl, rfl, by simp, rfl, by simp [cE, dropE]⟩⟩
        · have hk' := hk
          simp only at gk
          rcases hk with rfl | rfl | rfl | rfl
          all_goals
            simp [-Prod.exists, c85_0, h8, h9, h10, h1, h2, h3, g8, g7, e2, e3, g6, gk, hcl, hi, hi2, hd, hw, cEqn, k, hr, DiffH, KeepH]
            exact ⟨by omega, OutH.mk2 hk' (v + 1) (L.length + 1) (cs ++ [.int .i64 6, .str ⟨#[]⟩, .int .i64 0, .int .i64 0, .int .i64 x.id, kE, .bool false]) (by simp) (by simp) (by simp) (by simp [hcl]; omega) (by simp [hce, cE, dropE])⟩
      · rw [c] at k
        have hL1 : stepLeave same b L x = L := by simp [stepLeave, c]
        rw [hL1]
        simp [-Prod.exists, c85_0, h8, h9, h10, h1, h2, h3, g8, g7, e2, e3, g6, hi, hi2, hd, hw, cEqn, k, DiffH, KeepH]
        exact ⟨by omega, OutH.frame (h := h) ⟨o, g6, ho⟩ (by
          rintro k (rfl | rfl | rfl | rfl | rfl) <;> simp)⟩)
    (by
      rintro L ⟨env, h⟩ ⟨hle, h8, h9, h10, h1, h2, h3, ⟨g8, g7⟩, ⟨e2, e3⟩, ho⟩
      simp only at h8 h9 h10 h1 h2 h3 g8 g7 e2 e3
      simp [-Prod.exists, c85_0, h8, h9, h10, h1, h2, h3, g8, g7, e2, e3, DiffH, KeepH, hle]
      exact ho) L0 st ⟨by omega, hst⟩
  obtain ⟨r, q1, q2, -, -, -, -, -, -, -, q3, q4, q5⟩ := loop
  exact ⟨r, q1, q2, q3, q4, q5⟩
def stepCome (same neq : Bool) (a : List Eqn) (L : List Edt) (x : Eqn) : List Edt := if stays same x a then L else L ++ [addE x neq]
set_option maxHeartbeats 8000000 in
theorem come_loop (same neq : Bool) (b a : List Eqn) (ha : EW a) (hb : EW b) (L0 : List Edt) (hL : L0.length < 2 ^ 20) (h0 : Hp) (st : St)
    (hst : st.env 10 = .p (sl cEqn a) ∧ st.env 11 = .p (.int .i64 a.length) ∧ st.env 12 = .p (.int .i64 (0 : Nat)) ∧ st.env 0 = .p (sl cEqn b) ∧ st.env 2 = .p (.bool neq) ∧ st.env 3 = .ptr ⟨0, 8⟩ 1 0 ∧ st.env 4 = .ptr ⟨0, 6⟩ 1 0 ∧ DiffH st.h same ∧ KeepH h0 st.h ∧ OutH st.h L0) :
    ∃ r, codeD (cxT pp) 1 (.loop c86_0) st = some r ∧ r.1 = .ex 0 ∧ DiffH r.2.h same ∧ KeepH h0 r.2.h ∧ OutH r.2.h (a.foldl (stepCome same neq b) L0) := by
  have hal := ha.1
  have loop := loop_fold (cx := cxT pp) (d := 1) (c := c86_0) a (stepCome same neq b)
    (fun i L st => L.length ≤ L0.length + i ∧ st.env 10 = .p (sl cEqn a) ∧ st.env 11 = .p (.int .i64 a.length) ∧ st.env 12 = .p (.int .i64 i) ∧ st.env 0 = .p (sl cEqn b) ∧ st.env 2 = .p (.bool neq) ∧ st.env 3 = .ptr ⟨0, 8⟩ 1 0 ∧ st.env 4 = .ptr ⟨0, 6⟩ 1 0 ∧ DiffH st.h same ∧ KeepH h0 st.h ∧ OutH st.h L) (.ex 0) (by simp)
    (by
      rintro i L ⟨env, h⟩ x rest hi hx hd ⟨hle, h10, h11, h12, h0_, h2, h3, h4, ⟨g8, g7⟩, ⟨e2, e3⟩, ⟨o, g6, ho⟩⟩
      simp only at h10 h11 h12 h0_ h2 h3 h4 g8 g7 e2 e3 g6
      have hw := inc_id hi (by omega)
      have hi2 : (i : Int) < a.length := by omega
      have k := stays_spec (pp := pp) same x b (ha.2 x (mem_drop hd)) hb
      have hr := @roomy_ok (L.length + 1) 80 (by omega) (by decide)
      have hr1 := @roomy_ok 1 80 (by omega) (by decide)
      simp at k
      cases c : stays same x b
      · rw [c] at k
        have hL1 : stepCome same neq b L x = L ++ [addE x neq] := by simp [stepCome, c]
        rw [hL1]
        rcases ho with ⟨rfl, rfl⟩ | ⟨key, v, cs, hk, rfl, gk, hcl, hce⟩
        · simp [-Prod.exists, c86_0, h10, h11, h12, h0_, h2, h3, h4, g8, g7, e2, e3, g6, hi, hi2, hd, hw, cEqn, k, roomy, DiffH, KeepH, show Fl.nil.tight = true from rfl]
          refine ⟨by omega, .ref ⟨1, 29⟩ ((h.get ⟨1, 29⟩).ver + 1) 0 1 7 false, by simp, .inr ⟨⟨1, 29⟩, (h.get ⟨1, 29⟩).ver + 1, [.int .i64 5, .str ⟨#[]⟩, .int .i64 0, .int .i64 0, .int .i64 x.id, poly x.p, .bool neq], .inr (.inr (.inr rfl)), rfl, by simp, rfl, by simp [cE, addE]⟩⟩
        · have hk' := hk
          simp only at gk
          rcases hk with rfl | rfl | rfl | rfl
          all_goals
            simp [-Prod.exists, c86_0, h10, h11, h12, h0_, h2, h3, h4, g8, g7, e2, e3, g6, gk, hcl, hi, hi2, hd, hw, cEqn, k, hr, DiffH, KeepH]
            exact ⟨by omega, OutH.mk2 hk' (v + 1) (L.length + 1) (cs ++ [.int .i64 5, .str ⟨#[]⟩, .int .i64 0, .int .i64 0, .int .i64 x.id, poly x.p, .bool neq]) (by simp) (by simp) (by simp) (by simp [hcl]; omega) (by simp [hce, cE, addE])⟩
      · rw [c] at k
        have hL1 : stepCome same neq b L x = L := by simp [stepCome, c]
        rw [hL1]
        simp [-Prod.exists, c86_0, h10, h11, h12, h0_, h2, h3, h4, g8, g7, e2, e3, g6, hi, hi2, hd, hw, cEqn, k, DiffH, KeepH]
        exact ⟨by omega, OutH.frame (h := h) ⟨o, g6, ho⟩ (by
          rintro k (rfl | rfl | rfl | rfl | rfl) <;> simp)⟩)
    (by
      rintro L ⟨env, h⟩ ⟨hle, h10, h11, h12, h0_, h2, h3, h4, ⟨g8, g7⟩, ⟨e2, e3⟩, ho⟩
      simp only at h10 h11 h12 h0_ h2 h3 h4 g8 g7 e2 e3
      simp [-Prod.exists, c86_0, h10, h11, h12, h0_, h2, h3, h4, g8, g7, e2, e3, DiffH, KeepH, hle]
      exact ho) L0 st ⟨by omega, hst⟩
  obtain ⟨r, q1, q2, -, -, -, -, -, -, -, -, q3, q4, q5⟩ := loop
  exact ⟨r, q1, q2, q3, q4, q5⟩
end Go.Va
end
section
open Go.Proofs
namespace Go.Va
variable {pp : Option PrimFn}

theorem leave_body (same : Bool) (a b : List Eqn) (ha : EW a) (hb : EW b) (L0 : List Edt) (hL : L0.length < 2 ^ 20) (h : Hp) (hD : DiffH h same) (hO : OutH h L0) :
    ∃ h', bodyD (cxT pp) 1 fn85 [.p (sl cEqn a), .p (sl cEqn b), .ptr ⟨0, 8⟩ 1 0, .ptr ⟨0, 6⟩ 1 0] h = some (.p (.tup []), h') ∧ DiffH h' same ∧ KeepH h h' ∧ OutH h' (a.foldl (stepLeave same b) L0) := by
  unfold bodyD
  simp [fn85]
  generalize hX : codeD (cxT pp) 1 (ACode.loop c85_0) _ = X
  obtain ⟨e, env, h', rfl, q⟩ := at_code hX (leave_loop same a b ha hb L0 hL h _ (by simp [hD, hO, KeepH]))
  obtain ⟨rfl, q1, q2, q3⟩ := q
  simp [q1, q2, q3]
  done
theorem come_body (same neq : Bool) (b a : List Eqn) (ha : EW a) (hb : EW b) (L0 : List Edt) (hL : L0.length < 2 ^ 20) (h : Hp) (hD : DiffH h same) (hO : OutH h L0) :
    ∃ h', bodyD (cxT pp) 1 fn86 [.p (sl cEqn b), .p (sl cEqn a), .p (.bool neq), .ptr ⟨0, 8⟩ 1 0, .ptr ⟨0, 6⟩ 1 0] h = some (.p (.tup []), h') ∧ DiffH h' same ∧ KeepH h h' ∧ OutH h' (a.foldl (stepCome same neq b) L0) := by
  unfold bodyD
  simp [fn86]
  generalize hX : codeD (cxT pp) 1 (ACode.loop c86_0) _ = X
  obtain ⟨e, env, h', rfl, q⟩ := at_code hX (come_loop same neq b a ha hb L0 hL h _ (by simp [hD, hO, KeepH]))
  obtain ⟨rfl, q1, q2, q3⟩ := q
  simp [q1, q2, q3]
  done
def dropV : Edt := ⟨2, ⟨#[]⟩, 0, 0, 0, [], false⟩
def addV (i : Nat) (v : ByteArray) : Edt := ⟨1, v, i, 0, 0, [], false⟩
def DiffE (F : AV) (st : St) : Prop := st.env 2 = .ptr ⟨0, 2⟩ 1 0 ∧ st.env 3 = .ptr ⟨0, 3⟩ 1 0 ∧ st.env 6 = .ptr ⟨0, 6⟩ 1 0 ∧ st.env 7 = .ptr ⟨0, 7⟩ 1 0 ∧ st.env 10 = F
set_option maxHeartbeats 8000000 in
theorem dropv_loop (same : Bool) (F : AV) (l : List ByteArray) (hl : l.length < 2 ^ 20) (L0 : List Edt) (hL : L0.length < 2 ^ 20) (h0 : Hp) (st : St)
    (hst : st.env 45 = .p (.int .i64 l.length) ∧ st.env 46 = .p (.int .i64 (0 : Nat)) ∧ DiffE F st ∧ DiffH st.h same ∧ KeepH h0 st.h ∧ OutH st.h L0) :
    ∃ r, codeD (cxT pp) 0 (.loop c35_0) st = some r ∧ r.1 = .ex 0 ∧ DiffE F r.2 ∧ DiffH r.2.h same ∧ KeepH h0 r.2.h ∧ OutH r.2.h (l.foldl (fun L _ => L ++ [dropV]) L0) := by
  have loop := loop_fold (cx := cxT pp) (d := 0) (c := c35_0) l (fun L _ => L ++ [dropV])
    (fun i L st => L.length ≤ L0.length + i ∧ st.env 45 = .p (.int .i64 l.length) ∧ st.env 46 = .p (.int .i64 i) ∧ DiffE F st ∧ DiffH st.h same ∧ KeepH h0 st.h ∧ OutH st.h L) (.ex 0) (by simp)
    (by
      rintro i L ⟨env, h⟩ x rest hi hx hd ⟨hle, h45, h46, ⟨h2, h3, h6, h7, h10⟩, ⟨g8, g7⟩, ⟨e2, e3⟩, ⟨o, g6, ho⟩⟩
      simp only at h45 h46 h2 h3 h6 h7 h10 g8 g7 e2 e3 g6
      have hw := inc_id hi (by omega)
      have hi2 : (i : Int) < l.length := by omega
      have hr := @roomy_ok (L.length + 1) 80 (by omega) (by decide)
      rcases ho with ⟨rfl, rfl⟩ | ⟨key, v, cs, hk, rfl, gk, hcl, hce⟩
      · simp [-Prod.exists, c35_0, h45, h46, h2, h3, h6, h7, h10, g8, g7, e2, e3, g6, hi, hi2, hw, roomy, DiffH, KeepH, DiffE, show Fl.nil.tight = true from rfl]
        refine ⟨by omega, .ref ⟨0, 51⟩ ((h.get ⟨0, 51⟩).ver + 1) 0 1 7 false, by simp, .inr ⟨⟨0, 51⟩, (h.get ⟨0, 51⟩).ver + 1, [.int .i64 2, .str ⟨#[]⟩, .int .i64 0, .int .i64 0, .int .i64 0, kE, .bool false], .inr (.inl rfl), rfl, by simp, rfl, by simp [cE, dropV]⟩⟩
      · have hk' := hk
        simp only at gk
        rcases hk with rfl | rfl | rfl | rfl
        all_goals
          simp [-Prod.exists, c35_0, h45, h46, h2, h3, h6, h7, h10, g8, g7, e2, e3, g6, gk, hcl, hi, hi2, hw, hr, DiffH, KeepH, DiffE]
          exact ⟨by omega, OutH.mk2 hk' (v + 1) (L.length + 1) (cs ++ [.int .i64 2, .str ⟨#[]⟩, .int .i64 0, .int .i64 0, .int .i64 0, kE, .bool false]) (by simp) (by simp) (by simp) (by simp [hcl]; omega) (by simp [hce, cE, dropV])⟩)
    (by
      rintro L ⟨env, h⟩ ⟨hle, h45, h46, ⟨h2, h3, h6, h7, h10⟩, ⟨g8, g7⟩, ⟨e2, e3⟩, ho⟩
      simp only at h45 h46 h2 h3 h6 h7 h10 g8 g7 e2 e3
      simp [-Prod.exists, c35_0, h45, h46, h2, h3, h6, h7, h10, g8, g7, e2, e3, DiffH, KeepH, DiffE, hle]
      exact ho) L0 st ⟨by omega, hst⟩
  obtain ⟨r, q1, q2, -, -, -, q3, q4, q5, q6⟩ := loop
  exact ⟨r, q1, q2, q3, q4, q5, q6⟩
def stepV (p : List Edt × Nat) (v : ByteArray) : List Edt × Nat := (p.1 ++ [addV p.2 v], p.2 + 1)
set_option maxHeartbeats 8000000 in
theorem addv_loop (same : Bool) (F : AV) (l : List ByteArray) (hl : l.length < 2 ^ 20) (L0 : List Edt) (hL : L0.length < 2 ^ 20) (h0 : Hp) (st : St)
    (hst : st.env 54 = .p (names l) ∧ st.env 55 = .p (.int .i64 l.length) ∧ st.env 56 = .p (.int .i64 (0 : Nat)) ∧ DiffE F st ∧ DiffH st.h same ∧ KeepH h0 st.h ∧ OutH st.h L0) :
    ∃ r, codeD (cxT pp) 0 (.loop c35_1) st = some r ∧ r.1 = .ex 2 ∧ DiffE F r.2 ∧ DiffH r.2.h same ∧ KeepH h0 r.2.h ∧ OutH r.2.h ((l.foldl stepV (L0, 0)).1) := by
  have loop := loop_fold (cx := cxT pp) (d := 0) (c := c35_1) l stepV
    (fun i (p : List Edt × Nat) st => p.2 = i ∧ p.1.length ≤ L0.length + i ∧ st.env 54 = .p (names l) ∧ st.env 55 = .p (.int .i64 l.length) ∧ st.env 56 = .p (.int .i64 i) ∧ DiffE F st ∧ DiffH st.h same ∧ KeepH h0 st.h ∧ OutH st.h p.1) (.ex 2) (by simp)
    (by
      rintro i ⟨L, n⟩ ⟨env, h⟩ x rest hi hx hd ⟨rfl, hle, h54, h55, h56, ⟨h2, h3, h6, h7, h10⟩, ⟨g8, g7⟩, ⟨e2, e3⟩, ⟨o, g6, ho⟩⟩
      simp only at hi hx hd hle h54 h55 h56 h2 h3 h6 h7 h10 g8 g7 e2 e3 g6 ho
      have hst : stepV (L, n) x = (L ++ [addV n x], n + 1) := rfl
      have hw := inc_id hi (by omega)
      have hi2 : (n : Int) < l.length := by omega
      have hr := @roomy_ok (L.length + 1) 80 (by omega) (by decide)
      rcases ho with ⟨rfl, rfl⟩ | ⟨key, v, cs, hk, rfl, gk, hcl, hce⟩
      · simp [-Prod.exists, c35_1, h54, hd, hst, h55, h56, h2, h3, h6, h7, h10, g8, g7, e2, e3, g6, hi, hi2, hw, roomy, DiffH, KeepH, DiffE, show Fl.nil.tight = true from rfl]
        refine ⟨by omega, .ref ⟨0, 66⟩ ((h.get ⟨0, 66⟩).ver + 1) 0 1 7 false, by simp, .inr ⟨⟨0, 66⟩, (h.get ⟨0, 66⟩).ver + 1, [.int .i64 1, .str x, .int .i64 n, .int .i64 0, .int .i64 0, kE, .bool false], .inr (.inr (.inl rfl)), rfl, by simp, rfl, by simp [cE, addV]⟩⟩
      · have hk' := hk
        rcases hk with rfl | rfl | rfl | rfl
        all_goals
          simp [-Prod.exists, c35_1, h54, hd, hst, h55, h56, h2, h3, h6, h7, h10, g8, g7, e2, e3, g6, gk, hcl, hi, hi2, hw, hr, DiffH, KeepH, DiffE]
          exact ⟨by omega, OutH.mk2 hk' (v + 1) (L.length + 1) (cs ++ [.int .i64 1, .str x, .int .i64 n, .int .i64 0, .int .i64 0, kE, .bool false]) (by simp) (by simp) (by simp) (by simp [hcl]; omega) (by simp [hce, cE, addV])⟩)
    (by
      rintro ⟨L, n⟩ ⟨env, h⟩ ⟨hn, hle, h54, h55, h56, ⟨h2, h3, h6, h7, h10⟩, ⟨g8, g7⟩, ⟨e2, e3⟩, ho⟩
      simp only at hn hle h54 h55 h56 h2 h3 h6 h7 h10 g8 g7 e2 e3 ho
      simp [-Prod.exists, c35_1, h54, h55, h56, h2, h3, h6, h7, h10, g8, g7, e2, e3, DiffH, KeepH, DiffE, hle, hn]
      exact ho) (L0, 0) st ⟨rfl, by simp only; omega, hst⟩
  obtain ⟨r, q1, q2, -, -, -, -, -, q3, q4, q5, q6⟩ := loop
  exact ⟨r, q1, q2, q3, q4, q5, q6⟩

/-! ### Diff -/
def diffS (a b : Sys) : List Edt :=
  let same := decide (a.vars = b.vars)
  let l2 := a.neqs.foldl (stepLeave same b.neqs) (a.eqs.foldl (stepLeave same b.eqs) [])
  let l3 := if same then l2 else (b.vars.foldl stepV (a.vars.foldl (fun L _ => L ++ [dropV]) l2, 0)).1
  b.neqs.foldl (stepCome same true a.neqs) (b.eqs.foldl (stepCome same false a.eqs) l3)
theorem leave_len (same : Bool) (b : List Eqn) : ∀ (a : List Eqn) (L : List Edt), (a.foldl (stepLeave same b) L).length ≤ L.length + a.length
  | [], L => by simp
  | x :: a, L => by
    rw [List.foldl_cons]
    have := leave_len same b a (stepLeave same b L x)
    have h2 : (stepLeave same b L x).length ≤ L.length + 1 := by unfold stepLeave; split <;> simp
    simp only [List.length_cons]; omega
theorem come_len (same neq : Bool) (b : List Eqn) : ∀ (a : List Eqn) (L : List Edt), (a.foldl (stepCome same neq b) L).length ≤ L.length + a.length
  | [], L => by simp
  | x :: a, L => by
    rw [List.foldl_cons]
    have := come_len same neq b a (stepCome same neq b L x)
    have h2 : (stepCome same neq b L x).length ≤ L.length + 1 := by unfold stepCome; split <;> simp
    simp only [List.length_cons]; omega
theorem dropv_len : ∀ (l : List ByteArray) (L : List Edt), (l.foldl (fun L _ => L ++ [dropV]) L).length = L.length + l.length
  | [], L => by simp
  | x :: l, L => by rw [List.foldl_cons, dropv_len l]; simp; omega
theorem addv_len : ∀ (l : List ByteArray) (p : List Edt × Nat), (l.foldl stepV p).1.length = p.1.length + l.length
  | [], p => by simp
  | x :: l, p => by rw [List.foldl_cons, addv_len l]; simp [stepV]; omega
theorem OutH.end_ {h : Hp} {L : List Edt} (ho : OutH h L) : ∃ o, h.get ⟨0, 6⟩ = ⟨1, false, some (.cells [o])⟩ ∧ ((L = [] ∧ o = .p kE) ∨ ∃ (k : Key) (v : Nat) (cs : List PV), o = .ref k v 0 L.length 7 false ∧ h.get k = ⟨v, false, some (.cells (cs.map .p))⟩ ∧ cs.length = L.length * 7 ∧ PV.erL cs = L.flatMap cE) := by
  obtain ⟨o, g, q⟩ := ho
  refine ⟨o, g, ?_⟩
  rcases q with q | ⟨k, v, cs, -, q2⟩
  · exact .inl q
  · exact .inr ⟨k, v, cs, q2⟩
theorem at_body {cx : Cx} {fn : AFn} {args : List AV} {h : Hp} {X : Option (AV × Hp)} {r : AV} {P : Hp → Prop} {Q : Hp → Hp → Prop} (hX : bodyD cx 1 fn args h = X) (H : ∀ h, P h → ∃ h', bodyD cx 1 fn args h = some (r, h') ∧ Q h h') (hp : P h) : ∃ h', X = some (r, h') ∧ Q h h' := by
  subst hX; exact H h hp
set_option maxHeartbeats 16000000 in
theorem diff_spec (a b : Sys) (va : VOK a) (vb : VOK b) (ha : EW a.eqs) (ha2 : EW a.neqs) (hb : EW b.eqs) (hb2 : EW b.neqs) (hv : validS a = true) (hw : validS b = true) (hla : a.vars.length ≤ 4) (hlb : b.vars.length ≤ 4) :
    funD (cxT ppS) 35 [.agg (cSys a), .agg (cSys b)] = some (.tup [edts (diffS a b), .int .i64 0]) := by
  have k1 := sysvalid_spec (pp := ppS) a va
  have k2 := sysvalid_spec (pp := ppS) b vb
  have k3 := sequal_spec (pp := ppS) a.vars b.vars (by omega)
  rw [hv] at k1
  rw [hw] at k2
  have hsame : ∀ s, decide (a.vars = b.vars) = s → diffS a b = diffS a b := fun _ _ => rfl
  clear hsame
  have hdef : diffS a b = b.neqs.foldl (stepCome (decide (a.vars = b.vars)) true a.neqs) (b.eqs.foldl (stepCome (decide (a.vars = b.vars)) false a.eqs) (if decide (a.vars = b.vars) then a.neqs.foldl (stepLeave (decide (a.vars = b.vars)) b.neqs) (a.eqs.foldl (stepLeave (decide (a.vars = b.vars)) b.eqs) []) else (b.vars.foldl stepV (a.vars.foldl (fun L _ => L ++ [dropV]) (a.neqs.foldl (stepLeave (decide (a.vars = b.vars)) b.neqs) (a.eqs.foldl (stepLeave (decide (a.vars = b.vars)) b.eqs) [])), 0)).1)) := rfl
  generalize decide (a.vars = b.vars) = same at *
  have hal := ha.1
  have hal2 := ha2.1
  have hbl := hb.1
  have hbl2 := hb2.1
  have n1 := leave_len same b.eqs a.eqs []
  have n2 := leave_len same b.neqs a.neqs (a.eqs.foldl (stepLeave same b.eqs) [])
  simp only [List.length_nil, Nat.zero_add] at n1
  simp at k1 k2 k3
  rw [fun_35]
  unfold closedD bodyD
  simp [fn35, k1, k2, k3]
  generalize hX : bodyD (cxT ppS) 1 fn85 _ _ = X
  obtain ⟨h1, rfl, ⟨g8, g7⟩, K, O1⟩ := at_body (P := fun h => DiffH h same ∧ OutH h []) (Q := fun h h' => DiffH h' same ∧ KeepH h h' ∧ OutH h' _) hX (fun h hp => leave_body (pp := ppS) same a.eqs b.eqs ha hb [] (by simp) h hp.1 hp.2) ⟨by simp [DiffH], ⟨.p kE, by simp, .inl ⟨rfl, rfl⟩⟩⟩
  clear hX
  simp [KeepH] at K
  obtain ⟨K2, K3⟩ := K
  simp [g8, g7, K2, K3]
  generalize hX : bodyD (cxT ppS) 1 fn85 _ _ = X
  obtain ⟨h2, rfl, ⟨g8', g7'⟩, K, O2⟩ := at_body (P := fun h => DiffH h same ∧ OutH h _) (Q := fun h h' => DiffH h' same ∧ KeepH h h' ∧ OutH h' _) hX (fun h hp => leave_body (pp := ppS) same a.neqs b.neqs ha2 hb2 _ (by omega) h hp.1 hp.2) ⟨⟨g8, g7⟩, O1⟩
  clear hX O1 g8 g7
  simp [KeepH, K2, K3] at K
  clear K2 K3
  obtain ⟨K2, K3⟩ := K
  cases same
  · simp [g8', g7', K2, K3]
    generalize hX : codeD (cxT ppS) 0 (ACode.loop c35_0) _ = X
    obtain ⟨e, env, h3, rfl, q⟩ := at_code hX (dropv_loop (pp := ppS) false (AV.func 86 [] [AV.ptr ⟨0, 8⟩ 1 0, AV.ptr ⟨0, 6⟩ 1 0]) a.vars (by omega) _ (by omega) h2 _ ⟨by simp, by simp, by simp [DiffE], ⟨g8', g7'⟩, by simp [KeepH], O2⟩)
    clear hX O2 g8' g7'
    simp only at q
    obtain ⟨rfl, ⟨e2, e3, e6, e7, e10⟩, ⟨g8, g7⟩, K, O3⟩ := q
    simp only at e2 e3 e6 e7 e10
    simp [KeepH, K2, K3] at K
    clear K2 K3
    obtain ⟨K2, K3⟩ := K
    simp [e2, e3, e6, e7, e10, g8, g7, K2, K3]
    have hL3 : (a.vars.foldl (fun L _ => L ++ [dropV]) (a.neqs.foldl (stepLeave false b.neqs) (a.eqs.foldl (stepLeave false b.eqs) []))).length < 2 ^ 20 := by rw [dropv_len]; omega
    generalize hX : codeD (cxT ppS) 0 (ACode.loop c35_1) _ = X
    obtain ⟨e, env', h4, rfl, q⟩ := at_code hX (addv_loop (pp := ppS) false (AV.func 86 [] [AV.ptr ⟨0, 8⟩ 1 0, AV.ptr ⟨0, 6⟩ 1 0]) b.vars (by omega) _ hL3 h3 _ ⟨by simp, by simp, by simp, by simp [DiffE, e2, e3, e6, e7, e10], ⟨g8, g7⟩, by simp [KeepH], O3⟩)
    clear hX O3 g8 g7 e2 e3 e6 e7 e10
    simp only at q
    obtain ⟨rfl, ⟨e2, e3, e6, e7, e10⟩, ⟨g8', g7'⟩, K, O4⟩ := q
    simp only at e2 e3 e6 e7 e10
    simp [KeepH, K2, K3] at K
    clear K2 K3
    obtain ⟨K2, K3⟩ := K
    simp [e2, e3, e6, e7, e10, g8', g7', K2, K3]
    generalize hX : bodyD (cxT ppS) 1 fn86 _ _ = X
    obtain ⟨h5, rfl, ⟨g8, g7⟩, K, O5⟩ := at_body (P := fun h => DiffH h false ∧ OutH h _) (Q := fun h h' => DiffH h' false ∧ KeepH h h' ∧ OutH h' _) hX (fun h hp => come_body (pp := ppS) false false a.eqs b.eqs hb ha _ (by simp only [addv_len, dropv_len]; omega) h hp.1 hp.2) ⟨⟨g8', g7'⟩, O4⟩
    clear hX O4 g8' g7'
    simp [KeepH, K2, K3] at K
    clear K2 K3
    obtain ⟨K2, K3⟩ := K
    simp [e2, e3, e6, e7, e10, g8, g7, K2, K3]
    generalize hX : bodyD (cxT ppS) 1 fn86 _ _ = X
    obtain ⟨h6, rfl, -, -, O6⟩ := at_body (P := fun h => DiffH h false ∧ OutH h _) (Q := fun h h' => DiffH h' false ∧ KeepH h h' ∧ OutH h' _) hX (fun h hp => come_body (pp := ppS) false true a.neqs b.neqs hb2 ha2 _ (Nat.lt_of_le_of_lt (come_len _ _ _ _ _) (by simp only [addv_len, dropv_len]; omega)) h hp.1 hp.2) ⟨⟨g8, g7⟩, O5⟩
    clear hX O5 g8 g7 K2 K3
    simp only [if_true, Bool.false_eq_true, if_false] at hdef
    rw [← hdef] at O6
    obtain ⟨o, g6, ho⟩ := O6.end_
    generalize diffS a b = L at *
    rcases ho with ⟨rfl, rfl⟩ | ⟨k, v, cs, rfl, gk, hcl, hce⟩
    · simp [e2, e3, e6, e7, e10, g6]
    · have hall : (cs.map AV.p).take (L.length * 7) = cs.map AV.p := List.take_of_length_le (by simp [hcl])
      simp [e2, e3, e6, e7, e10, g6, gk, hall, hcl, hce]
  · simp [g8', g7', K2, K3]
    generalize hX : bodyD (cxT ppS) 1 fn86 _ _ = X
    obtain ⟨h5, rfl, ⟨g8, g7⟩, K, O5⟩ := at_body (P := fun h => DiffH h true ∧ OutH h _) (Q := fun h h' => DiffH h' true ∧ KeepH h h' ∧ OutH h' _) hX (fun h hp => come_body (pp := ppS) true false a.eqs b.eqs hb ha _ (by omega) h hp.1 hp.2) ⟨⟨g8', g7'⟩, O2⟩
    clear hX O2 g8' g7'
    simp [KeepH, K2, K3] at K
    clear K2 K3
    obtain ⟨K2, K3⟩ := K
    simp [g8, g7, K2, K3]
    generalize hX : bodyD (cxT ppS) 1 fn86 _ _ = X
    obtain ⟨h6, rfl, -, -, O6⟩ := at_body (P := fun h => DiffH h true ∧ OutH h _) (Q := fun h h' => DiffH h' true ∧ KeepH h h' ∧ OutH h' _) hX (fun h hp => come_body (pp := ppS) true true a.neqs b.neqs hb2 ha2 _ (Nat.lt_of_le_of_lt (come_len _ _ _ _ _) (by omega)) h hp.1 hp.2) ⟨⟨g8, g7⟩, O5⟩
    clear hX O5 g8 g7 K2 K3
    simp only [if_true, Bool.false_eq_true, if_false] at hdef
    rw [← hdef] at O6
    obtain ⟨o, g6, ho⟩ := O6.end_
    generalize diffS a b = L at *
    rcases ho with ⟨rfl, rfl⟩ | ⟨k, v, cs, rfl, gk, hcl, hce⟩
    · simp [g6]
    · have hall : (cs.map AV.p).take (L.length * 7) = cs.map AV.p := List.take_of_length_le (by simp [hcl])
      simp [g6, gk, hall, hcl, hce]
end Go.Va
end
section
open Go.Proofs
namespace Go.Va

/-! ### Valid for the program too -/
theorem nmsF_mk : ∀ {l seen : List ByteArray}, (∀ v ∈ l, nameOK v = true) → l.Nodup → (∀ v ∈ l, v ∉ seen) → nmsF seen l = true
  | [], seen, _, _, _ => rfl
  | v :: l, seen, h1, h2, h3 => by
    have h2' := List.nodup_cons.1 h2
    unfold nmsF
    rw [h1 v (by simp), isIn_not.2 (h3 v (by simp)), nmsF_mk (fun w hw => h1 w (by simp [hw])) h2'.2 (fun w hw => ?_)]
    · rfl
    · simp only [List.mem_append, List.mem_singleton, not_or]
      exact ⟨h3 w (by simp [hw]), fun e => h2'.1 (e ▸ hw)⟩
theorem eqsF_mk {n : Nat} {next : Int} : ∀ {l : List Eqn} {o : Option Int} {seen : List Int}, (∀ x ∈ l, 1 ≤ x.id ∧ x.id < next) → (∀ x ∈ l, fits x.p n = true) → SortedE l → (∀ p, o = some p → ∀ x ∈ l, p ≤ x.id) → (∀ x ∈ l, x.id ∉ seen) → eqsF n next o seen l = true
  | [], _, _, _, _, _, _, _ => rfl
  | q :: l, o, seen, h1, h2, h3, h4, h5 => by
    have h3' := List.pairwise_cons.1 h3
    have ho : eqOK n next o seen q = true := by
      have a := h1 q (by simp)
      have b := h2 q (by simp)
      have c := h5 q (by simp)
      unfold eqOK
      cases o with
      | none => simp [a, b, c]
      | some p => have d := h4 p rfl q (by simp); simp [a, b, c, d]
    unfold eqsF
    rw [ho, eqsF_mk (fun x hx => h1 x (by simp [hx])) (fun x hx => h2 x (by simp [hx])) h3'.2 (fun p hp x hx => by cases hp; have := h3'.1 x hx; omega) (fun x hx => ?_)]
    · rfl
    · simp only [List.mem_append, List.mem_singleton, not_or]
      exact ⟨h5 x (by simp [hx]), fun e => by have := h3'.1 x hx; omega⟩
theorem GX.sys {s : Sys} (h : GX s) : validS s = true := by
  unfold validS
  simp only [Bool.and_eq_true, decide_eq_true_eq]
  refine ⟨⟨⟨⟨⟨⟨⟨h.g.vars, h.g.lo⟩, h.g.hi⟩, nmsF_mk h.x.names h.x.nodup (by simp)⟩, h.g.leqs⟩, eqsF_mk h.g.ie h.x.fe h.x.se (by simp) (by simp)⟩, h.g.lneqs⟩, eqsF_mk h.g.iN h.x.fN h.x.sN (by simp) ?_⟩
  intro x hx hm
  obtain ⟨y, hy, e⟩ := List.mem_map.1 hm
  exact h.g.dis y hy x hx e

/-! ### Runs -/
def Runs (s : Sys) (l : List Edt) (t : Sys) : Prop := runL stepD l 0 s = .inl t
theorem Runs.nil (s : Sys) : Runs s [] s := rfl
theorem Runs.app {s t u : Sys} {l m : List Edt} (h : Runs s l t) (g : Runs t m u) : Runs s (l ++ m) u := by
  unfold Runs at *
  rw [runL_app, h]
  exact run_at g
theorem Runs.one {s : Sys} {e : Edt} (h : check s e = 0) : Runs s [e] (applyV s e) := by
  unfold Runs
  simp [runL, stepD, apply_ok h]
theorem Runs.cons {s t : Sys} {e : Edt} {l : List Edt} (h : check s e = 0) (g : Runs (applyV s e) l t) : Runs s (e :: l) t := by
  have := (Runs.one h).app g
  simpa using this
/-! ### What goes -/
theorem leave_eq (same : Bool) (b : List Eqn) : ∀ (a : List Eqn) (L : List Edt), a.foldl (stepLeave same b) L = L ++ (a.filter fun x => !stays same x b).map fun x => dropE x.id
  | [], L => by simp
  | x :: a, L => by
    rw [List.foldl_cons, leave_eq same b a, List.filter_cons]
    unfold stepLeave
    cases stays same x b <;> simp
theorem come_eq (same neq : Bool) (b : List Eqn) : ∀ (a : List Eqn) (L : List Edt), a.foldl (stepCome same neq b) L = L ++ (a.filter fun x => !stays same x b).map fun x => addE x neq
  | [], L => by simp
  | x :: a, L => by
    rw [List.foldl_cons, come_eq same neq b a, List.filter_cons]
    unfold stepCome
    cases stays same x b <;> simp
theorem dropv_eq : ∀ (l : List ByteArray) (L : List Edt), l.foldl (fun L _ => L ++ [dropV]) L = L ++ l.map fun _ => dropV
  | [], L => by simp
  | x :: l, L => by rw [List.foldl_cons, dropv_eq l]; simp
theorem drop_mid {A B : List Eqn} {x : Eqn} (h : ((A ++ x :: B).map (·.id)).Nodup) : drop (A ++ x :: B) x.id = A ++ B := by
  simp only [List.map_append, List.map_cons] at h
  have h1 : ∀ y ∈ A, y.id ≠ x.id := fun y hy e => (List.nodup_append.1 h).2.2 _ (List.mem_map_of_mem (f := (·.id)) hy) _ (List.mem_cons_self ..) e
  have h2 : ∀ y ∈ B, y.id ≠ x.id := fun y hy e => (List.nodup_cons.1 (List.nodup_append.1 h).2.1).1 (e ▸ List.mem_map_of_mem (f := (·.id)) hy)
  unfold drop
  rw [List.filter_append, List.filter_cons]
  simp only [decide_true, Bool.not_true, Bool.false_eq_true, if_false]
  have e1 : A.filter (fun y => !decide (y.id = x.id)) = A := by rw [List.filter_eq_self]; intro y hy; simp [h1 y hy]
  have e2 : B.filter (fun y => !decide (y.id = x.id)) = B := by rw [List.filter_eq_self]; intro y hy; simp [h2 y hy]
  rw [e1, e2]
theorem drop_check {s : Sys} {id : Int} (h : has s id = true) : check s (dropE id) = 0 := by
  rw [check_id (.inl rfl)]
  exact checkId_mk h (fun q => by simp [dropE] at q) (fun q => by simp [dropE] at q)
theorem leaveE_run (f : Eqn → Bool) : ∀ (R P : List Eqn) (s : Sys), s.eqs = P ++ R → ((P ++ R).map (·.id)).Nodup → (∀ x ∈ R, ∀ y ∈ s.neqs, y.id ≠ x.id) → Runs s ((R.filter fun x => !f x).map fun x => dropE x.id) { s with eqs := P ++ R.filter f }
  | [], P, s, h, _, _ => by
    have : ({ s with eqs := P ++ [].filter f } : Sys) = s := by
      obtain ⟨a, b, c, d⟩ := s
      simp only at h
      simp [h]
    rw [this]; exact Runs.nil s
  | x :: R, P, s, h, hn, hd => by
    by_cases c : f x = true
    · rw [List.filter_cons_of_neg (by simp [c]), List.filter_cons_of_pos c]
      have := leaveE_run f R (P ++ [x]) s (by simpa using h) (by simpa using hn) (fun y hy => hd y (by simp [hy]))
      simpa using this
    · rw [List.filter_cons_of_pos (by simp [c]), List.filter_cons_of_neg c, List.map_cons]
      have hm : x ∈ s.eqs := by rw [h]; simp
      refine Runs.cons (drop_check (has_or.2 (.inl (find_pos.2 ⟨x, hm, rfl⟩)))) ?_
      have e : applyV s (dropE x.id) = { s with eqs := P ++ R } := by
        rw [eqn6 rfl]
        show ({ s with eqs := drop s.eqs x.id, neqs := drop s.neqs x.id } : Sys) = _
        rw [h, drop_mid hn, drop_none (fun y hy => hd x (by simp) y hy)]
      rw [e]
      have hn' : ((P ++ R).map (·.id)).Nodup := by
        simp only [List.map_append, List.map_cons] at hn ⊢
        exact (mid_nodup hn).1
      exact leaveE_run f R P { s with eqs := P ++ R } rfl hn' (fun y hy => hd y (by simp [hy]))
theorem leaveN_run (f : Eqn → Bool) : ∀ (R P : List Eqn) (s : Sys), s.neqs = P ++ R → ((P ++ R).map (·.id)).Nodup → (∀ x ∈ R, ∀ y ∈ s.eqs, y.id ≠ x.id) → Runs s ((R.filter fun x => !f x).map fun x => dropE x.id) { s with neqs := P ++ R.filter f }
  | [], P, s, h, _, _ => by
    have : ({ s with neqs := P ++ [].filter f } : Sys) = s := by
      obtain ⟨a, b, c, d⟩ := s
      simp only at h
      simp [h]
    rw [this]; exact Runs.nil s
  | x :: R, P, s, h, hn, hd => by
    by_cases c : f x = true
    · rw [List.filter_cons_of_neg (by simp [c]), List.filter_cons_of_pos c]
      have := leaveN_run f R (P ++ [x]) s (by simpa using h) (by simpa using hn) (fun y hy => hd y (by simp [hy]))
      simpa using this
    · rw [List.filter_cons_of_pos (by simp [c]), List.filter_cons_of_neg c, List.map_cons]
      have hm : x ∈ s.neqs := by rw [h]; simp
      refine Runs.cons (drop_check (has_or.2 (.inr (find_pos.2 ⟨x, hm, rfl⟩)))) ?_
      have e : applyV s (dropE x.id) = { s with neqs := P ++ R } := by
        rw [eqn6 rfl]
        show ({ s with eqs := drop s.eqs x.id, neqs := drop s.neqs x.id } : Sys) = _
        rw [h, drop_mid hn, drop_none (fun y hy => hd x (by simp) y hy)]
      rw [e]
      have hn' : ((P ++ R).map (·.id)).Nodup := by
        simp only [List.map_append, List.map_cons] at hn ⊢
        exact (mid_nodup hn).1
      exact leaveN_run f R P { s with neqs := P ++ R } rfl hn' (fun y hy => hd y (by simp [hy]))
theorem sorted_nodup {l : List Eqn} (h : SortedE l) : (l.map (·.id)).Nodup := by
  unfold List.Nodup
  rw [List.pairwise_map]
  exact h.imp (fun h => by omega)
/-! ### Variables -/
theorem dropv_run : ∀ (v : List ByteArray) (n : Int), Runs ⟨v, [], [], n⟩ (v.map fun _ => dropV) ⟨[], [], [], n⟩
  | [], n => Runs.nil _
  | x :: v, n => by
    rw [List.map_cons]
    refine Runs.cons ?_ ?_
    · unfold check
      have h1 : isV (⟨x :: v, [], [], n⟩ : Sys) 0 = true := isV_iff.2 ⟨by omega, by simp⟩
      have h2 : used (⟨x :: v, [], [], n⟩ : Sys) 0 = false := by simp [used]
      rw [if_neg (by simp [dropV]), if_pos (show dropV.kind = 2 from rfl)]
      simp [dropV, h1, h2]
    · have e : applyV (⟨x :: v, [], [], n⟩ : Sys) dropV = ⟨v, [], [], n⟩ := by
        unfold applyV
        rw [if_neg (by simp [dropV]), if_pos (show dropV.kind = 2 from rfl)]
        simp [dropV, moved]
      rw [e]
      exact dropv_run v n
theorem addv_run {n : Int} : ∀ (R P : List ByteArray), (P ++ R).length ≤ 4 → (∀ v ∈ P ++ R, nameOK v = true) → (P ++ R).Nodup → ∀ L : List Edt, ∃ M, R.foldl stepV (L, P.length) = (L ++ M, (P ++ R).length) ∧ Runs ⟨P, [], [], n⟩ M ⟨P ++ R, [], [], n⟩ ∧ ∀ e ∈ M, EOK e
  | [], P, _, _, _, L => ⟨[], by simp, by simpa using Runs.nil _, by simp⟩
  | x :: R, P, hl, hn, hd, L => by
    obtain ⟨M, h1, h2, h3⟩ := addv_run (n := n) R (P ++ [x]) (by simpa using hl) (by simpa using hn) (by simpa using hd) (L ++ [addV P.length x])
    have hx := hn x (by simp)
    have hx2 : x ∉ P := fun hm => (List.nodup_append.1 hd).2.2 x hm x (by simp) rfl
    refine ⟨addV P.length x :: M, ?_, ?_, ?_⟩
    · rw [List.foldl_cons]
      have : stepV (L, P.length) x = (L ++ [addV P.length x], (P ++ [x]).length) := by simp [stepV]
      rw [this, h1]; simp
    · refine Runs.cons ?_ ?_
      · have hix : ¬ 0 ≤ index (⟨P, [], [], n⟩ : Sys) x := fun q => hx2 (indexF_pos.1.1 q)
        have hl' : P.length + (R.length + 1) ≤ 4 := by simpa using hl
        unfold check
        rw [if_pos (show (addV P.length x).kind = 1 from rfl), if_neg (by simp only; omega), if_neg (by simp [addV]), if_neg (by simp [addV, hx]; omega)]
      · have e : applyV (⟨P, [], [], n⟩ : Sys) (addV P.length x) = ⟨P ++ [x], [], [], n⟩ := by
          unfold applyV
          rw [if_pos (show (addV P.length x).kind = 1 from rfl)]
          simp [addV, moved]
        rw [e]
        simpa using h2
    · intro e he
      rcases List.mem_cons.1 he with rfl | he
      · exact ⟨nil_pw, by simp [addV], by have := nameOK_size hx; show x.size < 2 ^ 30; omega⟩
      · exact h3 e he
/-! ### What comes -/
theorem nodup_len {α : Type} : ∀ {l m : List α}, l.Nodup → (∀ x ∈ l, x ∈ m) → l.length ≤ m.length
  | [], m, _, _ => by simp
  | x :: l, m, h, hs => by
    have h' := List.nodup_cons.1 h
    obtain ⟨A, B, rfl⟩ := List.append_of_mem (hs x (by simp))
    have : l.length ≤ (A ++ B).length := nodup_len h'.2 (fun y hy => by
      have := hs y (by simp [hy])
      simp only [List.mem_append, List.mem_cons] at this ⊢
      rcases this with h1 | rfl | h1
      · exact .inl h1
      · exact absurd hy h'.1
      · exact .inr h1)
    simp only [List.length_append, List.length_cons] at this ⊢
    omega
structure Part (b c : Sys) : Prop where
  vars : c.vars = b.vars
  se : SortedE c.eqs
  sN : SortedE c.neqs
  me : ∀ y ∈ c.eqs, y ∈ b.eqs
  mn : ∀ y ∈ c.neqs, y ∈ b.neqs
theorem sorted_nd {l : List Eqn} (h : SortedE l) : l.Nodup := h.imp (fun h e => by subst e; omega)
theorem comeE_run {b : Sys} (hb : GX b) : ∀ (R : List Eqn) (c : Sys), Part b c → (∀ x ∈ R, x ∈ b.eqs) → R.Nodup → (∀ x ∈ R, x ∉ c.eqs) → ∃ c', Runs c (R.map fun x => addE x false) c' ∧ Part b c' ∧ c'.neqs = c.neqs ∧ ∀ y, y ∈ c'.eqs ↔ y ∈ c.eqs ∨ y ∈ R
  | [], c, hc, _, _, _ => ⟨c, Runs.nil c, hc, rfl, by simp⟩
  | x :: R, c, hc, hm, hn, hnot => by
    have hn' := List.nodup_cons.1 hn
    have hx := hm x (by simp)
    have hxn := hnot x (by simp)
    have hid := hb.g.ie x hx
    have hhi := hb.g.hi
    have n1 : ∀ y ∈ c.eqs, y.id ≠ x.id := fun y hy e => hxn (sorted_id hb.x.se (hc.me y hy) hx e ▸ hy)
    have n2 : ∀ y ∈ c.neqs, y.id ≠ x.id := fun y hy e => hb.g.dis x hx y (hc.mn y hy) e.symm
    have hlen : c.eqs.length < 12 := by
      have := nodup_len (l := x :: c.eqs) (m := b.eqs) (List.nodup_cons.2 ⟨hxn, sorted_nd hc.se⟩) (fun y hy => by
        rcases List.mem_cons.1 hy with rfl | hy
        · exact hx
        · exact hc.me y hy)
      have := hb.g.leqs
      simp only [List.length_cons] at *
      omega
    have hz : ¬ x.id = 0 := by omega
    have e : applyV c (addE x false) = { c with eqs := put c.eqs x, next := max c.next (x.id + 1) } := by
      rw [eqn5 rfl]; unfold eqnsAdd
      rw [if_neg (by simp [addE])]
      simp [addE, hz]
    obtain ⟨c', h1, h2, h3, h4⟩ := comeE_run hb R { c with eqs := put c.eqs x, next := max c.next (x.id + 1) } ⟨hc.vars, put_sorted hc.se x, hc.sN, fun y hy => by
        rcases (mem_putE hc.se).1 hy with rfl | hy
        · exact hx
        · exact hc.me y hy.1, hc.mn⟩ (fun y hy => hm y (by simp [hy])) hn'.2 (fun y hy hy2 => by
        rcases (mem_putE hc.se).1 hy2 with rfl | hy2
        · exact hn'.1 hy
        · exact hnot y (by simp [hy]) hy2.1)
    refine ⟨c', ?_, h2, h3, fun y => ?_⟩
    · rw [List.map_cons]
      refine Runs.cons ?_ (by rw [e]; exact h1)
      rw [check_add rfl]
      exact checkAdd_mk hid.1 (by show x.id ≤ 999999; omega) (not_has n1 n2) (fun _ => hlen) (fun q => by simp [addE] at q) (by rw [hc.vars]; exact hb.x.fe x hx)
    · rw [h4]
      show y ∈ put c.eqs x ∨ y ∈ R ↔ _
      rw [mem_putE hc.se, List.mem_cons]
      constructor
      · rintro ((rfl | h) | h)
        · exact .inr (.inl rfl)
        · exact .inl h.1
        · exact .inr (.inr h)
      · rintro (h | rfl | h)
        · exact .inl (.inr ⟨h, n1 y h⟩)
        · exact .inl (.inl rfl)
        · exact .inr h
theorem comeN_run {b : Sys} (hb : GX b) : ∀ (R : List Eqn) (c : Sys), Part b c → (∀ x ∈ R, x ∈ b.neqs) → R.Nodup → (∀ x ∈ R, x ∉ c.neqs) → ∃ c', Runs c (R.map fun x => addE x true) c' ∧ Part b c' ∧ c'.eqs = c.eqs ∧ ∀ y, y ∈ c'.neqs ↔ y ∈ c.neqs ∨ y ∈ R
  | [], c, hc, _, _, _ => ⟨c, Runs.nil c, hc, rfl, by simp⟩
  | x :: R, c, hc, hm, hn, hnot => by
    have hn' := List.nodup_cons.1 hn
    have hx := hm x (by simp)
    have hxn := hnot x (by simp)
    have hid := hb.g.iN x hx
    have hhi := hb.g.hi
    have n1 : ∀ y ∈ c.neqs, y.id ≠ x.id := fun y hy e => hxn (sorted_id hb.x.sN (hc.mn y hy) hx e ▸ hy)
    have n2 : ∀ y ∈ c.eqs, y.id ≠ x.id := fun y hy e => hb.g.dis y (hc.me y hy) x hx e
    have hlen : c.neqs.length < 12 := by
      have := nodup_len (l := x :: c.neqs) (m := b.neqs) (List.nodup_cons.2 ⟨hxn, sorted_nd hc.sN⟩) (fun y hy => by
        rcases List.mem_cons.1 hy with rfl | hy
        · exact hx
        · exact hc.mn y hy)
      have := hb.g.lneqs
      simp only [List.length_cons] at *
      omega
    have hz : ¬ x.id = 0 := by omega
    have e : applyV c (addE x true) = { c with neqs := put c.neqs x, next := max c.next (x.id + 1) } := by
      rw [eqn5 rfl]; unfold eqnsAdd
      rw [if_pos (show (addE x true).neq = true from rfl)]
      simp [addE, hz]
    obtain ⟨c', h1, h2, h3, h4⟩ := comeN_run hb R { c with neqs := put c.neqs x, next := max c.next (x.id + 1) } ⟨hc.vars, hc.se, put_sorted hc.sN x, hc.me, fun y hy => by
        rcases (mem_putE hc.sN).1 hy with rfl | hy
        · exact hx
        · exact hc.mn y hy.1⟩ (fun y hy => hm y (by simp [hy])) hn'.2 (fun y hy hy2 => by
        rcases (mem_putE hc.sN).1 hy2 with rfl | hy2
        · exact hn'.1 hy
        · exact hnot y (by simp [hy]) hy2.1)
    refine ⟨c', ?_, h2, h3, fun y => ?_⟩
    · rw [List.map_cons]
      refine Runs.cons ?_ (by rw [e]; exact h1)
      rw [check_add rfl]
      exact checkAdd_mk hid.1 (by show x.id ≤ 999999; omega) (not_has n2 n1) (fun q => by simp [addE] at q) (fun _ => hlen) (by rw [hc.vars]; exact hb.x.fN x hx)
    · rw [h4]
      show y ∈ put c.neqs x ∨ y ∈ R ↔ _
      rw [mem_putE hc.sN, List.mem_cons]
      constructor
      · rintro ((rfl | h) | h)
        · exact .inr (.inl rfl)
        · exact .inl h.1
        · exact .inr (.inr h)
      · rintro (h | rfl | h)
        · exact .inl (.inr ⟨h, n1 y h⟩)
        · exact .inl (.inl rfl)
        · exact .inr h
end Go.Va
end
section
open Go.Proofs
namespace Go.Va

theorem stays_iff {same : Bool} {x : Eqn} {l : List Eqn} (hl : SortedE l) : stays same x l = true ↔ same = true ∧ x ∈ l := by
  unfold stays
  simp only [Bool.and_eq_true, decide_eq_true_eq, and_assoc]
  refine and_congr_right fun _ => ⟨fun ⟨h1, h2⟩ => ?_, fun h => ?_⟩
  · obtain ⟨m1, m2⟩ := getE_mem h1
    have : getE l x.id = x := by
      rw [← eqn_eta m2]; rw [h2]
    rw [← this]; exact m1
  · have hf : 0 ≤ find l x.id := find_pos.2 ⟨x, h, rfl⟩
    obtain ⟨m1, m2⟩ := getE_mem hf
    refine ⟨hf, ?_⟩
    rw [sorted_id hl m1 h m2]
theorem filter_sorted {l : List Eqn} (h : SortedE l) (f : Eqn → Bool) : SortedE (l.filter f) := List.Pairwise.filter _ h
theorem diff_runs {a b : Sys} (ha : GX a) (hb : GX b) : ∃ t, Runs a (diffS a b) t ∧ SameV t b ∧ ∀ e ∈ diffS a b, EOK e := by
  have hdrop : ∀ id, EOK (dropE id) := fun id => ⟨nil_pw, by simp [dropE], by show (0 : Nat) < 2 ^ 30; decide⟩
  have hadd : ∀ x neq, x ∈ b.eqs ∨ x ∈ b.neqs → EOK (addE x neq) := fun x neq h => by
    refine ⟨?_, ?_, by show (0 : Nat) < 2 ^ 30; decide⟩
    · rcases h with h | h
      · exact (hb.g.pe x h).1
      · exact (hb.g.pn x h).1
    · rcases h with h | h
      · exact hb.le x h
      · exact hb.ln x h
  -- what goes
  have hsame : ∃ same, decide (a.vars = b.vars) = same := ⟨_, rfl⟩
  obtain ⟨same, hsm⟩ := hsame
  have r1 := leaveE_run (fun x => stays same x b.eqs) a.eqs [] a rfl (by simpa using sorted_nodup ha.x.se) (fun x hx y hy e => ha.g.dis x hx y hy e.symm)
  rw [List.nil_append] at r1
  have r2 := leaveN_run (fun x => stays same x b.neqs) a.neqs [] { a with eqs := a.eqs.filter fun x => stays same x b.eqs } rfl (by simpa using sorted_nodup ha.x.sN)
    (fun x hx y hy e => ha.g.dis y ((List.mem_filter.1 hy).1) x hx e)
  rw [List.nil_append] at r2
  have r12 := r1.app r2
  -- in between
  have hmid : ∃ M E0 N0, (if same then (a.neqs.foldl (stepLeave same b.neqs) (a.eqs.foldl (stepLeave same b.eqs) [])) else (b.vars.foldl stepV (a.vars.foldl (fun L _ => L ++ [dropV]) (a.neqs.foldl (stepLeave same b.neqs) (a.eqs.foldl (stepLeave same b.eqs) [])), 0)).1) = M ∧ Runs a M ⟨b.vars, E0, N0, a.next⟩ ∧ (∀ e ∈ M, EOK e) ∧
      E0 = (a.eqs.filter fun x => stays same x b.eqs) ∧ N0 = (a.neqs.filter fun x => stays same x b.neqs) := by
    have hL : a.neqs.foldl (stepLeave same b.neqs) (a.eqs.foldl (stepLeave same b.eqs) []) = ((a.eqs.filter fun x => !stays same x b.eqs).map fun x => dropE x.id) ++ (a.neqs.filter fun x => !stays same x b.neqs).map fun x => dropE x.id := by
      rw [leave_eq, leave_eq]; simp
    have heok : ∀ e ∈ ((a.eqs.filter fun x => !stays same x b.eqs).map fun x => dropE x.id) ++ (a.neqs.filter fun x => !stays same x b.neqs).map fun x => dropE x.id, EOK e := by
      intro e he
      simp only [List.mem_append, List.mem_map] at he
      rcases he with ⟨x, -, rfl⟩ | ⟨x, -, rfl⟩
      · exact hdrop _
      · exact hdrop _
    rw [hL]
    cases same
    · have e1 : (a.eqs.filter fun x => stays false x b.eqs) = [] := by rw [List.filter_eq_nil_iff]; intro x _; simp [stays]
      have e2 : (a.neqs.filter fun x => stays false x b.neqs) = [] := by rw [List.filter_eq_nil_iff]; intro x _; simp [stays]
      simp only [e1, e2] at r12
      have r3 := dropv_run a.vars a.next
      obtain ⟨M, q1, q2, q3⟩ := addv_run (n := a.next) b.vars [] (by simpa using hb.g.vars) (by simpa using hb.x.names) (by simpa using hb.x.nodup) (((((a.eqs.filter fun x => !stays false x b.eqs).map fun x => dropE x.id) ++ (a.neqs.filter fun x => !stays false x b.neqs).map fun x => dropE x.id)) ++ a.vars.map fun _ => dropV)
      rw [dropv_eq]
      simp only [Bool.false_eq_true, if_false]
      have q1' := congrArg Prod.fst q1
      simp only [List.length_nil] at q1'
      refine ⟨_, [], [], q1', (r12.app r3).app (by simpa using q2), ?_, e1.symm, e2.symm⟩
      intro e he
      rcases List.mem_append.1 he with he | he
      · rcases List.mem_append.1 he with he | he
        · exact heok e he
        · obtain ⟨x, -, rfl⟩ := List.mem_map.1 he
          exact ⟨nil_pw, by decide, by decide⟩
      · exact q3 e he
    · have hv : a.vars = b.vars := of_decide_eq_true hsm
      refine ⟨_, _, _, rfl, ?_, heok, rfl, rfl⟩
      rw [← hv]
      exact r12
  obtain ⟨M, E0, N0, hM, rM, eM, hE, hN⟩ := hmid
  -- what comes
  have memE : ∀ y ∈ E0, y ∈ b.eqs := by
    intro y hy; rw [hE] at hy
    exact ((stays_iff hb.x.se).1 (List.mem_filter.1 hy).2).2
  have memN : ∀ y ∈ N0, y ∈ b.neqs := by
    intro y hy; rw [hN] at hy
    exact ((stays_iff hb.x.sN).1 (List.mem_filter.1 hy).2).2
  have hp : Part b ⟨b.vars, E0, N0, a.next⟩ := ⟨rfl, by rw [hE]; exact filter_sorted ha.x.se _, by rw [hN]; exact filter_sorted ha.x.sN _, memE, memN⟩
  obtain ⟨c1, s1, p1, n1, m1⟩ := comeE_run hb (b.eqs.filter fun x => !stays same x a.eqs) _ hp (fun x hx => (List.mem_filter.1 hx).1) (sorted_nd (filter_sorted hb.x.se _)) (fun x hx hx2 => by
    have h1 := (List.mem_filter.1 hx).2
    have hx2 : x ∈ E0 := hx2
    rw [hE] at hx2
    have h2 := List.mem_filter.1 hx2
    have h3 := (stays_iff hb.x.se).1 h2.2
    rw [(stays_iff ha.x.se).2 ⟨h3.1, h2.1⟩] at h1
    cases h1)
  obtain ⟨c2, s2, p2, n2, m2⟩ := comeN_run hb (b.neqs.filter fun x => !stays same x a.neqs) c1 p1 (fun x hx => (List.mem_filter.1 hx).1) (sorted_nd (filter_sorted hb.x.sN _)) (fun x hx hx2 => by
    have h1 := (List.mem_filter.1 hx).2
    rw [n1] at hx2
    have hx2 : x ∈ N0 := hx2
    rw [hN] at hx2
    have h2 := List.mem_filter.1 hx2
    have h3 := (stays_iff hb.x.sN).1 h2.2
    rw [(stays_iff ha.x.sN).2 ⟨h3.1, h2.1⟩] at h1
    cases h1)
  have hD : diffS a b = M ++ ((b.eqs.filter fun x => !stays same x a.eqs).map fun x => addE x false) ++ (b.neqs.filter fun x => !stays same x a.neqs).map fun x => addE x true := by
    unfold diffS
    rw [hsm]
    simp only [come_eq]
    rw [hM]
  refine ⟨c2, by rw [hD]; exact (rM.app s1).app s2, ⟨p2.vars, ?_, ?_⟩, ?_⟩
  · refine sorted_ext p2.se hb.x.se fun y => ?_
    rw [n2, m1]
    constructor
    · rintro (h | h)
      · exact memE y h
      · exact (List.mem_filter.1 h).1
    · intro h
      by_cases c : stays same y a.eqs = true
      · left
        show y ∈ E0
        have h2 := (stays_iff ha.x.se).1 c
        rw [hE]
        exact List.mem_filter.2 ⟨h2.2, (stays_iff hb.x.se).2 ⟨h2.1, h⟩⟩
      · right
        exact List.mem_filter.2 ⟨h, by simpa using c⟩
  · refine sorted_ext p2.sN hb.x.sN fun y => ?_
    rw [m2, n1]
    constructor
    · rintro (h | h)
      · exact memN y h
      · exact (List.mem_filter.1 h).1
    · intro h
      by_cases c : stays same y a.neqs = true
      · left
        show y ∈ N0
        have h2 := (stays_iff ha.x.sN).1 c
        rw [hN]
        exact List.mem_filter.2 ⟨h2.2, (stays_iff hb.x.sN).2 ⟨h2.1, h⟩⟩
      · right
        exact List.mem_filter.2 ⟨h, by simpa using c⟩
  · intro e he
    rw [hD] at he
    rcases List.mem_append.1 he with he | he
    · rcases List.mem_append.1 he with he | he
      · exact eM e he
      · obtain ⟨x, hx, rfl⟩ := List.mem_map.1 he
        exact hadd x _ (.inl ((List.mem_filter.1 hx).1))
    · obtain ⟨x, hx, rfl⟩ := List.mem_map.1 he
      exact hadd x _ (.inr ((List.mem_filter.1 hx).1))
theorem diff_len {a b : Sys} (ha : GX a) (hb : GX b) : (diffS a b).length < 2 ^ 20 := by
  have h1 := ha.g.leqs
  have h2 := ha.g.lneqs
  have h3 := hb.g.leqs
  have h4 := hb.g.lneqs
  have h5 := ha.g.vars
  have h6 := hb.g.vars
  unfold diffS
  simp only
  generalize decide (a.vars = b.vars) = same
  refine Nat.lt_of_le_of_lt (come_len _ _ _ _ _) ?_
  have k1 := leave_len same b.eqs a.eqs []
  have k2 := leave_len same b.neqs a.neqs (a.eqs.foldl (stepLeave same b.eqs) [])
  simp only [List.length_nil] at k1
  cases same
  · simp only [Bool.false_eq_true, if_false]
    have := come_len false false a.eqs b.eqs (b.vars.foldl stepV (a.vars.foldl (fun L _ => L ++ [dropV]) (a.neqs.foldl (stepLeave false b.neqs) (a.eqs.foldl (stepLeave false b.eqs) [])), 0)).1
    simp only [addv_len, dropv_len] at this
    omega
  · simp only [if_true]
    have := come_len true false a.eqs b.eqs (a.neqs.foldl (stepLeave true b.neqs) (a.eqs.foldl (stepLeave true b.eqs) []))
    omega
/-- Nothing between a system and itself, with another Next. -/
theorem diff_self {a : Sys} (ha : GX a) (n : Int) : diffS a { a with next := n } = [] := by
  have hs : ∀ {l : List Eqn}, SortedE l → (l.filter fun x => !stays true x l) = [] := by
    intro l hl
    rw [List.filter_eq_nil_iff]
    intro x hx
    simp [(stays_iff hl).2 ⟨rfl, hx⟩]
  unfold diffS
  simp only [decide_true, if_true, come_eq, leave_eq, hs ha.x.se, hs ha.x.sN]
  rfl
theorem gx_next {a : Sys} (h : GX a) {n : Int} (h1 : a.next ≤ n) (h2 : n ≤ 1000000) : GX { a with next := n } := by
  obtain ⟨⟨g1, g2, g3, g4, g5, g6, g7, g8, g9, g10⟩, ⟨x1, x2, x3, x4, x5, x6⟩, l1, l2⟩ := h
  exact ⟨⟨g1, g2, g3, g4, g5, fun x hx => ⟨(g6 x hx).1, by have := (g6 x hx).2; show x.id < n; omega⟩, fun x hx => ⟨(g7 x hx).1, by have := (g7 x hx).2; show x.id < n; omega⟩, g8, by show 1 ≤ n; omega, h2⟩, ⟨x1, x2, x3, x4, x5, x6⟩, l1, l2⟩
theorem step_next {s : Sys} (h : GX s) (x : Raw33) (hx : R33OK x) : (stepS s x).next ≤ s.next + 1 := by
  unfold stepS
  by_cases c : (apply s (editOf s x)).2 = 0
  · rw [if_pos c]
    unfold apply at c ⊢
    by_cases c2 : check s (editOf s x) = 0
    · rw [if_pos c2]
      have hlo := h.g.lo
      have hid : (editOf s x).id ≤ s.next := by
        show (if editKind x = 5 ∧ 0 < x.n.tmod 4 then 0 else x.n.tmod (s.next + 1)) ≤ s.next
        have := (tm x.n (s.next + 1) hx.n.1 (by omega)).2
        split <;> omega
      unfold applyV equations eqnsAdd eqnsSet eqnsFlip
      repeat' split
      all_goals simp only
      all_goals omega
    · rw [if_neg c2] at c; exact absurd c c2
  · rw [if_neg c]; omega
theorem fold_next : ∀ (l : List Raw33) (s : Sys), GX s → (∀ x ∈ l, R33OK x) → (l.foldl stepS s).next ≤ s.next + l.length
  | [], s, _, _ => by simp
  | x :: l, s, h, hl => by
    rw [List.foldl_cons]
    have h1 := fold_next l (stepS s x) (step_gx h x) (fun y hy => hl y (by simp [hy]))
    have h2 := step_next h x (hl x (by simp))
    simp only [List.length_cons]; omega
theorem made_next {l : List Raw33} (hl : ∀ x ∈ l, R33OK x) (most : Nat) : (madeS l most).next ≤ 1 + most := by
  have := fold_next (l.take most) sys1 gx_one (fun x hx => hl x (List.mem_of_mem_take hx))
  have h2 : (l.take most).length ≤ most := by simp; omega
  unfold madeS
  have h3 : sys1.next = 1 := rfl
  omega
end Go.Va
end
section
open Go.Proofs
namespace Go.Va

theorem sys0_vok : VOK sys0 := ⟨by simp [sys0], ⟨by decide, by simp [sys0]⟩, ⟨by decide, by simp [sys0]⟩, by decide⟩
theorem sys0_not : validS sys0 = false := by simp [validS, sys0]
theorem diff_bad1 (a : Sys) (va : VOK a) (hv : validS a = true) : funD (cxT ppS) 35 [.agg (cSys a), .agg (cSys sys0)] = some (.tup [.frz .any 0 [], .int .i64 320]) := by
  have k1 := sysvalid_spec (pp := ppS) a va
  have k2 := sysvalid_spec (pp := ppS) sys0 sys0_vok
  rw [hv] at k1
  rw [sys0_not] at k2
  simp [sys0] at k1 k2
  rw [fun_35]
  unfold closedD bodyD
  simp [fn35, k1, k2, sys0]
theorem diff_bad2 (b : Sys) : funD (cxT ppS) 35 [.agg (cSys sys0), .agg (cSys b)] = some (.tup [.frz .any 0 [], .int .i64 320]) := by
  have k2 := sysvalid_spec (pp := ppS) sys0 sys0_vok
  rw [sys0_not] at k2
  simp [sys0] at k2
  rw [fun_35]
  unfold closedD bodyD
  simp [fn35, k2, sys0]
theorem gx_diff {a b : Sys} (ha : GX a) (hb : GX b) : funD (cxT ppS) 35 [.agg (cSys a), .agg (cSys b)] = some (.tup [edts (diffS a b), .int .i64 0]) :=
  diff_spec a b ha.vok hb.vok ha.g.sw.eqs ha.g.sw.neqs hb.g.sw.eqs hb.g.sw.neqs ha.sys hb.sys ha.g.vars hb.g.vars
set_option maxHeartbeats 8000000 in
theorem editDiffs (l m : List Raw33) (hl : ∀ r ∈ l, R33OK r) (hlen : l.length < 2 ^ 63) (hm : ∀ r ∈ m, R33OK r) (hmlen : m.length < 2 ^ 63) : funD (cxT ppS) 9 [sl cRaw l, sl cRaw m] = some (.bool true) := by
  obtain ⟨ka, ha⟩ := made33_spec (keepsX ppS) l hl hlen 12
  obtain ⟨kb, hb⟩ := made33_spec (keepsX ppS) m hm hmlen 12
  have hn := made_next hl 12
  have k0 := sanity_spec (pp := ppS)
  simp at ka kb
  generalize madeS l 12 = a at *
  generalize madeS m 12 = b at *
  have hlo := ha.g.lo
  have hw : IntKind.i64.wrap (a.next + 7) = a.next + 7 := by rw [i64_id] <;> omega
  have hl2 : GX { a with next := a.next + 7 } := gx_next ha (by omega) (by omega)
  have d1 := gx_diff ha hb
  have d2 := gx_diff ha hl2
  rw [diff_self ha] at d2
  have d3 := diff_bad1 a ha.vok ha.sys
  have d4 := diff_bad2 b
  obtain ⟨t, r, hs, he⟩ := diff_runs ha hb
  have kd := done_spec a ha (diffS a b) (by have := diff_len ha hb; omega) he
  rw [doS_ok r] at kd
  have hgt := (run_gx ha he r).1
  have kl := alike_same (pp := ppS) hgt hb hs
  generalize diffS a b = L at *
  clear hs hgt he r hl2
  simp [sys0] at d1 d2 d3 d4 kd kl
  rw [fun_9]
  unfold closedD bodyD
  simp [fn9, k0, ka, kb, d1, d2, d3, d4, kd, kl, hw]
end Go.Va
end
section
open Go Go.ChangeShapes Go.WideShapes
namespace Go.Va
section
variable {H : Type} {enc : TypeId × Value → H} {P : Program} {w : World} {base : Nat} {spare : Nat → Bool} {held : Bool}

def noM : Nat → Prop := fun _ => False
theorem VL.app {M : Nat → Prop} : ∀ {xs ys : List PV} {us vs : List Value}, VL w M xs us → VL w M ys vs → VL w M (xs ++ ys) (us ++ vs)
  | [], _, [], _, _, h => h
  | _ :: _, _, _ :: _, _, .cons h1 h2, h => .cons h1 (VL.app h2 h)
theorem VC.app {M : Nat → Prop} {b : Nat} : ∀ {o : Nat} {xs ys : List PV}, VC w M b o xs → VC w M b (o + xs.length) ys → VC w M b o (xs ++ ys)
  | _, [], _, _, h => by simpa using h
  | o, x :: xs, ys, .cons h1 h2 h3 h4, h => by
    rw [List.cons_append]
    exact .cons h1 h2 h3 (VC.app h4 (by rw [List.length_cons] at h; rwa [show o + 1 + xs.length = o + (xs.length + 1) by omega]))
/-- What the data of a type are: their cells are the cells of an α. -/
def IsData {α : Type} (enc : TypeId × Value → H) (P : Program) (w : World) (base : Nat) (spare : Nat → Bool) (held : Bool) (t : TypeId) (c : α → List PV) (ok : α → Prop) : Prop :=
  ∀ (fuel : Nat) (cs : List Value) (x : DataW H × List MemPlace), DataW.trod enc P w base spare held fuel t cs = some x → ∃ r : α, ok r ∧ VL w noM (c r) cs ∧ ∀ p ∈ c r, p.one = true

theorem choose_list {α : Type} {Q : Nat → α → Prop} : ∀ (n : Nat), (∀ i, i < n → ∃ r, Q i r) → ∃ l : List α, l.length = n ∧ ∀ i r, l[i]? = some r → Q i r
  | 0, _ => ⟨[], rfl, by simp⟩
  | n + 1, h => by
    obtain ⟨l, hl, hq⟩ := choose_list n (fun i hi => h i (by omega))
    obtain ⟨r, hr⟩ := h n (by omega)
    refine ⟨l ++ [r], by simp [hl], fun i r' hi => ?_⟩
    rw [List.getElem?_append] at hi
    split at hi
    · exact hq i r' hi
    · rename_i hlt
      have : i = l.length := by
        rw [List.getElem?_eq_some_iff] at hi
        obtain ⟨h1, -⟩ := hi
        simp at h1; omega
      subst this
      simp at hi
      subst hi
      rw [hl]; exact hr
theorem rows_VC {α : Type} {c : α → List PV} {sz : Nat} (hc : ∀ r, (c r).length = sz) {b : Nat} : ∀ (l : List α) (o : Nat), (∀ i r, l[i]? = some r → VC w noM b (o + i * sz) (c r)) → VC w noM b o (l.flatMap c)
  | [], o, _ => .nil b o
  | r :: l, o, h => by
    rw [List.flatMap_cons]
    refine VC.app (by simpa using h 0 r rfl) ?_
    refine rows_VC hc l _ fun i r' hi => ?_
    have := h (i + 1) r' (by simpa using hi)
    rw [hc]
    rwa [Nat.add_mul, Nat.one_mul, show o + (i * sz + sz) = o + sz + i * sz by omega] at this
theorem data_slice {α : Type} {t e : TypeId} {c : α → List PV} {ok : α → Prop} {sz : Nat} (ht : P.underlying t = some (.slice e)) (hz : P.cellsOf e = sz) (hsz : 0 < sz) (hc : ∀ r, (c r).length = sz) (he : IsData enc P w base spare held e c ok) :
    IsData enc P w base spare held t (fun (l : List α) => [.frz .any l.length (l.flatMap c)]) (fun l => l.length ≤ maxLen ∧ ∀ r ∈ l, ok r) := by
  intro fuel cs x h
  rcases DataW.trod_slice ht h with ⟨rfl, -⟩ | ⟨a, len, cap, elems, rest, n, -, rfl, -, hb, hl, hm, hlen, hel, -, -⟩
  · exact ⟨[], by simp, .cons (.frz0 .any 0 none 0 (Nat.le_refl _) trivial) .nil, by simp [PV.one]⟩
  · have hq : ∀ i, i < len → ∃ r : α, ok r ∧ (∀ p ∈ c r, p.one = true) ∧ ∃ vs, w.cells? base (a.add (i * sz)) sz = some vs ∧ VL w noM (c r) vs := by
      intro i hi
      have g := hel i hi
      rw [List.getElem?_eq_getElem (by omega), hz] at g
      cases hcs : w.cells? base (a.add (i * sz)) sz with
      | none => rw [hcs] at g; simp at g
      | some vs =>
        rw [hcs] at g
        obtain ⟨r, h1, h2, h3⟩ := he n vs _ g
        exact ⟨r, h1, h3, vs, rfl, h2⟩
    obtain ⟨l, hll, hlq⟩ := choose_list len hq
    refine ⟨l, ⟨by omega, fun r hr => ?_⟩, .cons ?_ .nil, by simp [PV.one]⟩
    · obtain ⟨i, hi⟩ := List.getElem?_of_mem hr
      exact (hlq i r hi).1
    · rw [← hll]
      cases hl0 : l with
      | nil => exact .frz0 .any 0 (some a) cap (Nat.zero_le _) trivial
      | cons r0 l0 =>
        have hsome : a = ⟨a.block, a.off, none⟩ := by
          have h0 := hlq 0 r0 (by rw [hl0]; rfl)
          obtain ⟨-, -, vs, hcs, hv⟩ := h0
          have h1 := (World.cells?_some hcs).2.2 0 hsz
          have hvl : 0 < vs.length := by rw [(World.cells?_some hcs).2.1]; exact hsz
          rw [List.getElem?_eq_getElem hvl] at h1
          obtain ⟨ab, ao, asp⟩ := a
          cases asp with
          | none => rfl
          | some q => simp [Addr.add, World.cell?] at h1; split at h1 <;> simp at h1
        rw [hsome, ← hl0]
        refine .frz .any l.length _ a.block a.off cap (by omega) trivial (fun h => h) (rows_VC hc l a.off fun i r hi => ?_)
        obtain ⟨-, h2, vs, hcs, hv⟩ := hlq i r hi
        refine VC.of_VL hv (fun j v hj => ?_) h2
        have hjl : j < sz := by
          have := (World.cells?_some hcs).2.1
          rw [← this]; exact (List.getElem?_eq_some_iff.1 hj).1
        have h1 := (World.cells?_some hcs).2.2 j hjl
        rw [hj, hsome, Addr.add_lit, Addr.add_lit] at h1
        rw [Addr.add_lit]
        exact h1
end
end Go.Va
end
section
open Go Go.ChangeShapes Go.WideShapes Go.Proofs
namespace Go.Va
section
variable {H : Type} {enc : TypeId × Value → H} {w : World} {base : Nat} {spare : Nat → Bool} {held : Bool}

theorem wf_u8 {n : Int} (h : (Lit.int .u8 n).wf = true) : U8 n := by
  simp [Lit.wf, IntKind.min, IntKind.max, IntKind.bits, IntKind.signed] at h
  unfold U8; omega
theorem wf_i8 {n : Int} (h : (Lit.int .i8 n).wf = true) : I8 n := by
  simp [Lit.wf, IntKind.min, IntKind.max, IntKind.bits, IntKind.signed] at h
  unfold I8; omega
theorem c23 : Tryz.prog.cellsOf 23 = 1 := by kernel_rfl
theorem c5 : Tryz.prog.cellsOf 5 = 1 := by kernel_rfl
theorem c24 : Tryz.prog.cellsOf 24 = 1 := by kernel_rfl
theorem c26 : Tryz.prog.cellsOf 26 = 1 := by kernel_rfl
theorem c162 : Tryz.prog.cellsOf 162 = 5 := by kernel_rfl
theorem c87 : Tryz.prog.cellsOf 87 = 5 := by kernel_rfl
def R5OK (r : R5) : Prop := I8 r.c ∧ ∀ e ∈ r.es, I8 e
set_option maxRecDepth 100000 in
theorem data162 : IsData enc Tryz.prog w base spare held 162 cR5 R5OK := by
  intro fuel cs x h
  obtain ⟨xs, m, -, -, hl, hxl, hx⟩ := DataW.trod_array Tryz.underlying162 h
  rw [c162] at hl
  rw [c23] at hx
  have g : ∀ i, i < 5 → ∃ n, (cs.drop i).take 1 = [.int .i8 n] ∧ I8 n := by
    intro i hi
    have e := hx i hi
    rw [List.getElem?_eq_getElem (by omega), Nat.mul_one] at e
    obtain ⟨n, h1, -, h2⟩ := DataW.trod_int Tryz.underlying23 e
    exact ⟨n, h1, wf_i8 h2⟩
  match cs, hl with
  | [v0, v1, v2, v3, v4], _ =>
    obtain ⟨n0, e0, b0⟩ := g 0 (by omega)
    obtain ⟨n1, e1, b1⟩ := g 1 (by omega)
    obtain ⟨n2, e2, b2⟩ := g 2 (by omega)
    obtain ⟨n3, e3, b3⟩ := g 3 (by omega)
    obtain ⟨n4, e4, b4⟩ := g 4 (by omega)
    simp at e0 e1 e2 e3 e4
    subst e0; subst e1; subst e2; subst e3; subst e4
    refine ⟨⟨n0, [n1, n2, n3, n4], rfl⟩, ⟨b0, by simp [b1, b2, b3, b4]⟩, ?_, by simp [cR5, int8s, PV.one]⟩
    exact .cons (.int ..) (.cons (.int ..) (.cons (.int ..) (.cons (.int ..) (.cons (.int ..) .nil))))
set_option maxRecDepth 100000 in
theorem data24 : IsData enc Tryz.prog w base spare held 24 (fun (l : List R5) => [.frz .any l.length (l.flatMap cR5)]) (fun l => l.length ≤ maxLen ∧ ∀ r ∈ l, R5OK r) :=
  data_slice Tryz.underlying24 c162 (by decide) cR5_len data162
set_option maxRecDepth 100000 in
theorem data26 : IsData enc Tryz.prog w base spare held 26 (fun (l : List R5) => [.frz .any l.length (l.flatMap cR5)]) (fun l => l.length ≤ maxLen ∧ ∀ r ∈ l, R5OK r) := by
  intro fuel cs x h
  obtain ⟨y, n, -, hl, hy⟩ := trod_struct1 Tryz.underlying26 h
  rw [c26] at hl
  simp only [c24, List.drop_zero] at hy
  rw [List.take_of_length_le (by omega)] at hy
  exact data24 n cs _ hy
set_option maxRecDepth 100000 in
theorem data87 : IsData enc Tryz.prog w base spare held 87 cRaw R33OK := by
  intro fuel cs x h
  obtain ⟨xs, m, -, -, hl, hxl, hx⟩ := DataW.trod_struct Tryz.underlying87 h
  rw [c87] at hl
  match cs, hl with
  | [v0, v1, v2, v3, v4], _ =>
    have hxl' : xs.length = 5 := hxl
    have g : ∀ (i : Nat) (t o : Nat) (f : Field), i < 5 → (#[{ name := "Kind", type := 5, offset := 0, embedded := false, tag := "", pkgPath := "", byteOffset := 0 },
        { name := "A", type := 5, offset := 1, embedded := false, tag := "", pkgPath := "", byteOffset := 1 },
        { name := "B", type := 5, offset := 2, embedded := false, tag := "", pkgPath := "", byteOffset := 2 },
        { name := "N", type := 5, offset := 3, embedded := false, tag := "", pkgPath := "", byteOffset := 3 },
        { name := "P", type := 26, offset := 4, embedded := false, tag := "", pkgPath := "", byteOffset := 8 }] : Array Field)[i]? = some f → f.type = t → f.offset = o → Tryz.prog.cellsOf t = 1 →
        ∃ y, DataW.trod enc Tryz.prog w base spare held m t (([v0, v1, v2, v3, v4].drop o).take 1) = some y := by
      rintro i t o f hi hf rfl rfl hc
      have e := hx i f hf
      rw [hc, List.getElem?_eq_getElem (by omega)] at e
      exact ⟨_, e⟩
    obtain ⟨y0, e0⟩ := g 0 5 0 _ (by omega) rfl rfl rfl c5
    obtain ⟨y1, e1⟩ := g 1 5 1 _ (by omega) rfl rfl rfl c5
    obtain ⟨y2, e2⟩ := g 2 5 2 _ (by omega) rfl rfl rfl c5
    obtain ⟨y3, e3⟩ := g 3 5 3 _ (by omega) rfl rfl rfl c5
    obtain ⟨y4, e4⟩ := g 4 26 4 _ (by omega) rfl rfl rfl c26
    simp only [List.drop_zero, List.drop_succ_cons, List.take_succ_cons, List.take_zero] at e0 e1 e2 e3 e4
    obtain ⟨n0, a0, -, b0⟩ := DataW.trod_int Tryz.underlying5 e0
    obtain ⟨n1, a1, -, b1⟩ := DataW.trod_int Tryz.underlying5 e1
    obtain ⟨n2, a2, -, b2⟩ := DataW.trod_int Tryz.underlying5 e2
    obtain ⟨n3, a3, -, b3⟩ := DataW.trod_int Tryz.underlying5 e3
    obtain ⟨l, ⟨b4, b5⟩, b6, -⟩ := data26 m _ _ e4
    simp only [List.cons.injEq, and_true] at a0 a1 a2 a3
    subst a0; subst a1; subst a2; subst a3
    refine ⟨⟨n0, n1, n2, n3, l⟩, ⟨wf_u8 b0, wf_u8 b1, wf_u8 b2, wf_u8 b3, fun r hr => b5 r hr, by unfold maxLen at b4; simp only; omega⟩, ?_, by simp [cRaw, PV.one]⟩
    exact .cons (.int ..) (.cons (.int ..) (.cons (.int ..) (.cons (.int ..) b6)))
set_option maxRecDepth 100000 in
theorem data22 : IsData enc Tryz.prog w base spare held 22 (fun (l : List Raw33) => [.frz .any l.length (l.flatMap cRaw)]) (fun l => l.length ≤ maxLen ∧ ∀ r ∈ l, R33OK r) :=
  data_slice Tryz.underlying22 c87 (by decide) cRaw_len data87
end
end Go.Va
end
section
open Go Go.Proofs Go.RowKit Go.Lib
namespace Go.Va

theorem copy_put {P : Program} {w : World} {dT sT elem : TypeId} {s g o dLen sLen : Nat} {A : Addr} {vs0 : Array Value} {T : TypeId} {us : List Value} (hu : P.underlying dT = some (.slice elem)) (hs : szOf P elem = some s)
    (hg : w.heap[g]? = some (.cells vs0 T (0, 0))) (hn : us.length = min sLen dLen * s) (hsrc : ∀ j v, us[j]? = some v → w.cell? (A.add j) = some v) (hfit : o + us.length ≤ vs0.size) (h1 : ∀ v ∈ us, v.oneCell' = true) :
    ∃ w', PutAt w w' g (setR vs0.toList o us).toArray ∧ ∀ ty dCap sCap, (Builtin.copy_ #[dT, sT] ty #[.slice (some ⟨g, o, none⟩) dLen dCap, .slice (some A) sLen sCap]).run P w = .ok (goInt (min sLen dLen : Nat)) w' := by
  obtain ⟨w', h2, h3⟩ := run_storeCells (P := P) us w g o 0 vs0 T hg h1 (by simpa using hfit)
  refine ⟨w', by simpa using h3, fun ty dCap sCap => ?_⟩
  have hf := run_firstCells_some (P := P) w s (min sLen dLen) A sLen sCap us hn hsrc
  simp [Builtin.copy_, r_und hu, Builtin.lenOf, r_size hs, hf, h2]
end Go.Va
end
section
open Go Go.Proofs Go.RowKit Go.Lib
namespace Go.Va

set_option maxHeartbeats 4000000 in
set_option maxRecDepth 100000 in
theorem ins_room_115 (b n c i vb voff m vc : Nat) (w : World) (hi : i < n) (hm : 0 < m) (hroom : n + m ≤ c) (hsm : n + m ≤ 1048576)
    (hov : ∀ lb cb, (callFunc 157 #[.slice (some ⟨vb, voff, none⟩) m vc, .slice (some ⟨b, i + m, none⟩) lb cb]).run Tryz.prog w = .ok (.value (.bool false)) w)
    (W1 W2 : World)
    (hcp1 : ∀ ty dc sc, (Builtin.copy_ #[30, 30] ty #[.slice (some ⟨b, i + m, none⟩) (n + m - (i + m)) dc, .slice (some ⟨b, i, none⟩) (n + m - i) sc]).run Tryz.prog w.drew = .ok (goInt (n - i : Nat)) W1)
    (hcp2 : ∀ ty dc, (Builtin.copy_ #[30, 30] ty #[.slice (some ⟨b, i, none⟩) (n + m - i) dc, .slice (some ⟨vb, voff, none⟩) m vc]).run Tryz.prog W1 = .ok (goInt m) W2) :
    Calls Tryz.prog 115 #[.slice (some ⟨b, 0, none⟩) n c, .int .i64 i, .slice (some ⟨vb, voff, none⟩) m vc] w fun e w' =>
      e = .returned (.slice (some ⟨b, 0, none⟩) (n + m) c) ∧ w' = W2 := by
  have hz1 : ¬ ((m : Int) = 0) := by omega
  have hz2 : ¬ ((i : Int) = (n : Int)) := by omega
  have hw1 : IntKind.i64.wrap ((i : Int) + (m : Int)) = (i : Int) + (m : Int) := by rw [IntKind.wrap_i64]; omega
  have hb1 : (0 : Int) ≤ (i : Int) + (m : Int) := by omega
  have hin : i ≤ n := by omega
  have htn : ((i : Int) + (m : Int)).toNat = i + m := by omega
  have hb2 : ¬ (c = i + m) := by omega
  have hb3 : (i : Int) ≤ (n : Int) + (m : Int) := by omega
  have hb4 : ¬ (c = i) := by omega
  have mixed : Tryz.prog.follows .mixedOrders = true := by kernel_rfl
  go_enter Tryz.func115, Tryz.ntmps115
  go_wp2_with (simp only [hov])
  go_region_law_o (refine step_copy_runI rfl _ _ 30 30 rfl _ _ (by simp [Act.eval, Act.put]) (by simp [Act.eval, Act.put]) (hcp1 _ _ _) ?_)
  go_wp2_with (at_builtin; refine wpList_copy_runI _ rfl _ _ 30 30 rfl _ _ rfl rfl (hcp2 _ _) ?_)
  go_ret
  exact ⟨rfl, rfl⟩

set_option maxHeartbeats 4000000 in
set_option maxRecDepth 100000 in
theorem ins_room_159 (b n c i vb voff m vc : Nat) (w : World) (hi : i < n) (hm : 0 < m) (hroom : n + m ≤ c) (hsm : n + m ≤ 1048576)
    (hov : ∀ lb cb, (callFunc 192 #[.slice (some ⟨vb, voff, none⟩) m vc, .slice (some ⟨b, i + m, none⟩) lb cb]).run Tryz.prog w = .ok (.value (.bool false)) w)
    (W1 W2 : World)
    (hcp1 : ∀ ty dc sc, (Builtin.copy_ #[195, 195] ty #[.slice (some ⟨b, i + m, none⟩) (n + m - (i + m)) dc, .slice (some ⟨b, i, none⟩) (n + m - i) sc]).run Tryz.prog w.drew = .ok (goInt (n - i : Nat)) W1)
    (hcp2 : ∀ ty dc, (Builtin.copy_ #[195, 195] ty #[.slice (some ⟨b, i, none⟩) (n + m - i) dc, .slice (some ⟨vb, voff, none⟩) m vc]).run Tryz.prog W1 = .ok (goInt m) W2) :
    Calls Tryz.prog 159 #[.slice (some ⟨b, 0, none⟩) n c, .int .i64 i, .slice (some ⟨vb, voff, none⟩) m vc] w fun e w' =>
      e = .returned (.slice (some ⟨b, 0, none⟩) (n + m) c) ∧ w' = W2 := by
  have hz1 : ¬ ((m : Int) = 0) := by omega
  have hz2 : ¬ ((i : Int) = (n : Int)) := by omega
  have hw1 : IntKind.i64.wrap ((i : Int) + (m : Int)) = (i : Int) + (m : Int) := by rw [IntKind.wrap_i64]; omega
  have hb1 : (0 : Int) ≤ (i : Int) + (m : Int) := by omega
  have hin : i ≤ n := by omega
  have htn : ((i : Int) + (m : Int)).toNat = i + m := by omega
  have hb2 : ¬ (c = i + m) := by omega
  have hb3 : (i : Int) ≤ (n : Int) + (m : Int) := by omega
  have hb4 : ¬ (c = i) := by omega
  have mixed : Tryz.prog.follows .mixedOrders = true := by kernel_rfl
  go_enter Tryz.func159, Tryz.ntmps159
  go_wp2_with (simp only [hov])
  go_region_law_o (refine step_copy_runI rfl _ _ 195 195 rfl _ _ (by simp [Act.eval, Act.put]) (by simp [Act.eval, Act.put]) (hcp1 _ _ _) ?_)
  go_wp2_with (at_builtin; refine wpList_copy_runI _ rfl _ _ 195 195 rfl _ _ rfl rfl (hcp2 _ _) ?_)
  go_ret
  exact ⟨rfl, rfl⟩

set_option maxHeartbeats 4000000 in
set_option maxRecDepth 100000 in
theorem ins_room_168 (b n c i vb voff m vc : Nat) (w : World) (hi : i < n) (hm : 0 < m) (hroom : n + m ≤ c) (hsm : n + m ≤ 1048576)
    (hov : ∀ lb cb, (callFunc 200 #[.slice (some ⟨vb, voff, none⟩) m vc, .slice (some ⟨b, (i + m) * 2, none⟩) lb cb]).run Tryz.prog w = .ok (.value (.bool false)) w)
    (W1 W2 : World)
    (hcp1 : ∀ ty dc sc, (Builtin.copy_ #[31, 31] ty #[.slice (some ⟨b, (i + m) * 2, none⟩) (n + m - (i + m)) dc, .slice (some ⟨b, i * 2, none⟩) (n + m - i) sc]).run Tryz.prog w.drew = .ok (goInt (n - i : Nat)) W1)
    (hcp2 : ∀ ty dc, (Builtin.copy_ #[31, 31] ty #[.slice (some ⟨b, i * 2, none⟩) (n + m - i) dc, .slice (some ⟨vb, voff, none⟩) m vc]).run Tryz.prog W1 = .ok (goInt m) W2) :
    Calls Tryz.prog 168 #[.slice (some ⟨b, 0, none⟩) n c, .int .i64 i, .slice (some ⟨vb, voff, none⟩) m vc] w fun e w' =>
      e = .returned (.slice (some ⟨b, 0, none⟩) (n + m) c) ∧ w' = W2 := by
  have hz1 : ¬ ((m : Int) = 0) := by omega
  have hz2 : ¬ ((i : Int) = (n : Int)) := by omega
  have hw1 : IntKind.i64.wrap ((i : Int) + (m : Int)) = (i : Int) + (m : Int) := by rw [IntKind.wrap_i64]; omega
  have hb1 : (0 : Int) ≤ (i : Int) + (m : Int) := by omega
  have hin : i ≤ n := by omega
  have htn : ((i : Int) + (m : Int)).toNat = i + m := by omega
  have hb2 : ¬ (c = i + m) := by omega
  have hb3 : (i : Int) ≤ (n : Int) + (m : Int) := by omega
  have hb4 : ¬ (c = i) := by omega
  have mixed : Tryz.prog.follows .mixedOrders = true := by kernel_rfl
  go_enter Tryz.func168, Tryz.ntmps168
  go_wp2_with (simp only [hov])
  go_region_law_o (refine step_copy_runI rfl _ _ 31 31 rfl _ _ (by simp [Act.eval, Act.put]) (by simp [Act.eval, Act.put]) (hcp1 _ _ _) ?_)
  go_wp2_with (at_builtin; refine wpList_copy_runI _ rfl _ _ 31 31 rfl _ _ rfl rfl (hcp2 _ _) ?_)
  go_ret
  exact ⟨rfl, rfl⟩
end Go.Va
end
section
open Go Go.Proofs Go.RowKit Go.Lib
namespace Go.Va

set_option maxHeartbeats 4000000 in
set_option maxRecDepth 100000 in
theorem ins_grow_115 (b n c i vb voff m vc G : Nat) (w : World) (hi : i < n) (hm : 0 < m) (hnc : n ≤ c) (hroom : c < n + m) (hb63 : n + m ≤ 9223372036854775807) (hGn : n + m ≤ G) (hG63 : G ≤ 9223372036854775807)
    (N : Nat) (W0 W1 W2 : World)
    (hrz : ∀ ty, (Builtin.append_ #[30, 3] ty #[.slice (some ⟨b, 0, none⟩) i c, .int .i64 ((n : Int) + (m : Int) - (i : Int))]).run Tryz.prog w = .ok (.slice (some ⟨N, 0, none⟩) (n + m) G) W0)
    (hcpA : ∀ ty dc, (Builtin.copy_ #[30, 30] ty #[.slice (some ⟨N, i, none⟩) (n + m - i) dc, .slice (some ⟨vb, voff, none⟩) m vc]).run Tryz.prog W0 = .ok (goInt m) W1)
    (hcpB : ∀ ty dc sc, (Builtin.copy_ #[30, 30] ty #[.slice (some ⟨N, i + m, none⟩) (n + m - (i + m)) dc, .slice (some ⟨b, i, none⟩) (n - i) sc]).run Tryz.prog W1.drew = .ok (goInt (n - i : Nat)) W2) :
    Calls Tryz.prog 115 #[.slice (some ⟨b, 0, none⟩) n c, .int .i64 i, .slice (some ⟨vb, voff, none⟩) m vc] w fun e w' =>
      e = .returned (.slice (some ⟨N, 0, none⟩) (n + m) G) ∧ w' = W2 := by
  have hz1 : ¬ ((m : Int) = 0) := by omega
  have hz2 : ¬ ((i : Int) = (n : Int)) := by omega
  have hz3 : (c : Int) < (n : Int) + (m : Int) := by omega
  have hw1 : IntKind.i64.wrap ((i : Int) + (m : Int)) = (i : Int) + (m : Int) := by rw [IntKind.wrap_i64]; omega
  have hb1 : (0 : Int) ≤ (i : Int) + (m : Int) := by omega
  have hin : i ≤ n := by omega
  have htn : ((i : Int) + (m : Int)).toNat = i + m := by omega
  have hb3 : (i : Int) ≤ (n : Int) := by omega
  have hGi : ¬ (G = i) := by omega
  have hGim : ¬ (G = i + m) := by omega
  have hci : ¬ (c = i) := by omega
  have mixed : Tryz.prog.follows .mixedOrders = true := by kernel_rfl
  go_enter Tryz.func115, Tryz.ntmps115
  go_wp2_with (first
    | (at_builtin; refine Lib.wpList_append_run _ rfl _ _ _ _ rfl _ _ rfl rfl _ _ (hrz _) ?_)
    | (at_builtin; refine wpList_copy_runI _ rfl _ _ 30 30 rfl _ _ rfl rfl (hcpA _ _) ?_))
  go_region_law_o (refine step_copy_runI rfl _ _ 30 30 rfl (.slice (some ⟨N, i + m, none⟩) (n + m - (i + m)) (G - (i + m))) (.slice (some ⟨b, i, none⟩) (n - i) (c - i)) (by simp [Act.eval, Act.put]) (by simp [Act.eval, Act.put]) (hcpB 3 (G - (i + m)) (c - i)) ?_)
  go_wp2
  go_ret
  exact ⟨rfl, rfl⟩

set_option maxHeartbeats 4000000 in
set_option maxRecDepth 100000 in
theorem ins_grow_159 (b n c i vb voff m vc G : Nat) (w : World) (hi : i < n) (hm : 0 < m) (hnc : n ≤ c) (hroom : c < n + m) (hb63 : n + m ≤ 9223372036854775807) (hGn : n + m ≤ G) (hG63 : G ≤ 9223372036854775807)
    (N : Nat) (W0 W1 W2 : World)
    (hrz : ∀ ty, (Builtin.append_ #[195, 3] ty #[.slice (some ⟨b, 0, none⟩) i c, .int .i64 ((n : Int) + (m : Int) - (i : Int))]).run Tryz.prog w = .ok (.slice (some ⟨N, 0, none⟩) (n + m) G) W0)
    (hcpA : ∀ ty dc, (Builtin.copy_ #[195, 195] ty #[.slice (some ⟨N, i, none⟩) (n + m - i) dc, .slice (some ⟨vb, voff, none⟩) m vc]).run Tryz.prog W0 = .ok (goInt m) W1)
    (hcpB : ∀ ty dc sc, (Builtin.copy_ #[195, 195] ty #[.slice (some ⟨N, i + m, none⟩) (n + m - (i + m)) dc, .slice (some ⟨b, i, none⟩) (n - i) sc]).run Tryz.prog W1.drew = .ok (goInt (n - i : Nat)) W2) :
    Calls Tryz.prog 159 #[.slice (some ⟨b, 0, none⟩) n c, .int .i64 i, .slice (some ⟨vb, voff, none⟩) m vc] w fun e w' =>
      e = .returned (.slice (some ⟨N, 0, none⟩) (n + m) G) ∧ w' = W2 := by
  have hz1 : ¬ ((m : Int) = 0) := by omega
  have hz2 : ¬ ((i : Int) = (n : Int)) := by omega
  have hz3 : (c : Int) < (n : Int) + (m : Int) := by omega
  have hw1 : IntKind.i64.wrap ((i : Int) + (m : Int)) = (i : Int) + (m : Int) := by rw [IntKind.wrap_i64]; omega
  have hb1 : (0 : Int) ≤ (i : Int) + (m : Int) := by omega
  have hin : i ≤ n := by omega
  have htn : ((i : Int) + (m : Int)).toNat = i + m := by omega
  have hb3 : (i : Int) ≤ (n : Int) := by omega
  have hGi : ¬ (G = i) := by omega
  have hGim : ¬ (G = i + m) := by omega
  have hci : ¬ (c = i) := by omega
  have mixed : Tryz.prog.follows .mixedOrders = true := by kernel_rfl
  go_enter Tryz.func159, Tryz.ntmps159
  go_wp2_with (first
    | (at_builtin; refine Lib.wpList_append_run _ rfl _ _ _ _ rfl _ _ rfl rfl _ _ (hrz _) ?_)
    | (at_builtin; refine wpList_copy_runI _ rfl _ _ 195 195 rfl _ _ rfl rfl (hcpA _ _) ?_))
  go_region_law_o (refine step_copy_runI rfl _ _ 195 195 rfl (.slice (some ⟨N, i + m, none⟩) (n + m - (i + m)) (G - (i + m))) (.slice (some ⟨b, i, none⟩) (n - i) (c - i)) (by simp [Act.eval, Act.put]) (by simp [Act.eval, Act.put]) (hcpB 3 (G - (i + m)) (c - i)) ?_)
  go_wp2
  go_ret
  exact ⟨rfl, rfl⟩

set_option maxHeartbeats 4000000 in
set_option maxRecDepth 100000 in
theorem ins_grow_168 (b n c i vb voff m vc G : Nat) (w : World) (hi : i < n) (hm : 0 < m) (hnc : n ≤ c) (hroom : c < n + m) (hb63 : n + m ≤ 9223372036854775807) (hGn : n + m ≤ G) (hG63 : G ≤ 9223372036854775807)
    (N : Nat) (W0 W1 W2 : World)
    (hrz : ∀ ty, (Builtin.append_ #[31, 3] ty #[.slice (some ⟨b, 0, none⟩) i c, .int .i64 ((n : Int) + (m : Int) - (i : Int))]).run Tryz.prog w = .ok (.slice (some ⟨N, 0, none⟩) (n + m) G) W0)
    (hcpA : ∀ ty dc, (Builtin.copy_ #[31, 31] ty #[.slice (some ⟨N, i * 2, none⟩) (n + m - i) dc, .slice (some ⟨vb, voff, none⟩) m vc]).run Tryz.prog W0 = .ok (goInt m) W1)
    (hcpB : ∀ ty dc sc, (Builtin.copy_ #[31, 31] ty #[.slice (some ⟨N, (i + m) * 2, none⟩) (n + m - (i + m)) dc, .slice (some ⟨b, i * 2, none⟩) (n - i) sc]).run Tryz.prog W1.drew = .ok (goInt (n - i : Nat)) W2) :
    Calls Tryz.prog 168 #[.slice (some ⟨b, 0, none⟩) n c, .int .i64 i, .slice (some ⟨vb, voff, none⟩) m vc] w fun e w' =>
      e = .returned (.slice (some ⟨N, 0, none⟩) (n + m) G) ∧ w' = W2 := by
  have hz1 : ¬ ((m : Int) = 0) := by omega
  have hz2 : ¬ ((i : Int) = (n : Int)) := by omega
  have hz3 : (c : Int) < (n : Int) + (m : Int) := by omega
  have hw1 : IntKind.i64.wrap ((i : Int) + (m : Int)) = (i : Int) + (m : Int) := by rw [IntKind.wrap_i64]; omega
  have hb1 : (0 : Int) ≤ (i : Int) + (m : Int) := by omega
  have hin : i ≤ n := by omega
  have htn : ((i : Int) + (m : Int)).toNat = i + m := by omega
  have hb3 : (i : Int) ≤ (n : Int) := by omega
  have hGi : ¬ (G = i) := by omega
  have hGim : ¬ (G = i + m) := by omega
  have hci : ¬ (c = i) := by omega
  have mixed : Tryz.prog.follows .mixedOrders = true := by kernel_rfl
  go_enter Tryz.func168, Tryz.ntmps168
  go_wp2_with (first
    | (at_builtin; refine Lib.wpList_append_run _ rfl _ _ _ _ rfl _ _ rfl rfl _ _ (hrz _) ?_)
    | (at_builtin; refine wpList_copy_runI _ rfl _ _ 31 31 rfl _ _ rfl rfl (hcpA _ _) ?_))
  go_region_law_o (refine step_copy_runI rfl _ _ 31 31 rfl (.slice (some ⟨N, (i + m) * 2, none⟩) (n + m - (i + m)) (G - (i + m))) (.slice (some ⟨b, i * 2, none⟩) (n - i) (c - i)) (by simp [Act.eval, Act.put]) (by simp [Act.eval, Act.put]) (hcpB 3 (G - (i + m)) (c - i)) ?_)
  go_wp2
  go_ret
  exact ⟨rfl, rfl⟩
end Go.Va
end
section
open Go Go.Proofs Go.RowKit Go.Lib
namespace Go.Va

set_option maxHeartbeats 4000000 in
set_option maxRecDepth 100000 in
theorem ins_end_115 (A : Option Addr) (n c vb voff m vc : Nat) (w W1 : World) (r : Value) (hm : 0 < m) (hnc : n ≤ c) (hnil : A = none → n = 0 ∧ c = 0)
    (hap : (Builtin.append_ #[30, 30] 30 #[.slice A n c, .slice (some ⟨vb, voff, none⟩) m vc]).run Tryz.prog w = .ok r W1) :
    Calls Tryz.prog 115 #[.slice A n c, .int .i64 n, .slice (some ⟨vb, voff, none⟩) m vc] w fun e w' => e = .returned r ∧ w' = W1 := by
  have hz1 : ¬ ((m : Int) = 0) := by omega
  have mixed : Tryz.prog.follows .mixedOrders = true := by kernel_rfl
  go_enter Tryz.func115, Tryz.ntmps115
  cases A with
  | none =>
    obtain ⟨rfl, rfl⟩ := hnil rfl
    go_wp2_with (at_builtin; refine Lib.wpList_append_run _ rfl _ _ _ _ rfl _ _ rfl rfl _ _ hap ?_)
    go_ret
    exact ⟨rfl, rfl⟩
  | some a =>
    obtain ⟨ab, ao, asp⟩ := a
    go_wp2_with (at_builtin; refine Lib.wpList_append_run _ rfl _ _ _ _ rfl _ _ rfl rfl _ _ hap ?_)
    all_goals (go_ret; exact ⟨rfl, rfl⟩)

set_option maxHeartbeats 4000000 in
set_option maxRecDepth 100000 in
theorem ins_end_159 (A : Option Addr) (n c vb voff m vc : Nat) (w W1 : World) (r : Value) (hm : 0 < m) (hnc : n ≤ c) (hnil : A = none → n = 0 ∧ c = 0)
    (hap : (Builtin.append_ #[195, 195] 195 #[.slice A n c, .slice (some ⟨vb, voff, none⟩) m vc]).run Tryz.prog w = .ok r W1) :
    Calls Tryz.prog 159 #[.slice A n c, .int .i64 n, .slice (some ⟨vb, voff, none⟩) m vc] w fun e w' => e = .returned r ∧ w' = W1 := by
  have hz1 : ¬ ((m : Int) = 0) := by omega
  have mixed : Tryz.prog.follows .mixedOrders = true := by kernel_rfl
  go_enter Tryz.func159, Tryz.ntmps159
  cases A with
  | none =>
    obtain ⟨rfl, rfl⟩ := hnil rfl
    go_wp2_with (at_builtin; refine Lib.wpList_append_run _ rfl _ _ _ _ rfl _ _ rfl rfl _ _ hap ?_)
    go_ret
    exact ⟨rfl, rfl⟩
  | some a =>
    obtain ⟨ab, ao, asp⟩ := a
    go_wp2_with (at_builtin; refine Lib.wpList_append_run _ rfl _ _ _ _ rfl _ _ rfl rfl _ _ hap ?_)
    all_goals (go_ret; exact ⟨rfl, rfl⟩)

set_option maxHeartbeats 4000000 in
set_option maxRecDepth 100000 in
theorem ins_end_168 (A : Option Addr) (n c vb voff m vc : Nat) (w W1 : World) (r : Value) (hm : 0 < m) (hnc : n ≤ c) (hnil : A = none → n = 0 ∧ c = 0)
    (hap : (Builtin.append_ #[31, 31] 31 #[.slice A n c, .slice (some ⟨vb, voff, none⟩) m vc]).run Tryz.prog w = .ok r W1) :
    Calls Tryz.prog 168 #[.slice A n c, .int .i64 n, .slice (some ⟨vb, voff, none⟩) m vc] w fun e w' => e = .returned r ∧ w' = W1 := by
  have hz1 : ¬ ((m : Int) = 0) := by omega
  have mixed : Tryz.prog.follows .mixedOrders = true := by kernel_rfl
  go_enter Tryz.func168, Tryz.ntmps168
  cases A with
  | none =>
    obtain ⟨rfl, rfl⟩ := hnil rfl
    go_wp2_with (at_builtin; refine Lib.wpList_append_run _ rfl _ _ _ _ rfl _ _ rfl rfl _ _ hap ?_)
    go_ret
    exact ⟨rfl, rfl⟩
  | some a =>
    obtain ⟨ab, ao, asp⟩ := a
    go_wp2_with (at_builtin; refine Lib.wpList_append_run _ rfl _ _ _ _ rfl _ _ rfl rfl _ _ hap ?_)
    all_goals (go_ret; exact ⟨rfl, rfl⟩)
end Go.Va
end
section
open Go Go.Proofs Go.Lib
namespace Go.Va



/-- slices.Insert of a row of ours into another row of ours, of which all cells are known. -/
def specInsertX (s : Nat) : PrimFn := fun _ args h _ =>
  match args with
  | [.ref k ver off n s' clip, .p (.int .i64 i), .ref k2 ver2 off2 m s2 clip2] =>
    (srcCells h s (.ref k2 ver2 off2 m s2 clip2)).bind fun (_, new) => (h.wcells k ver).bind fun cs =>
      if off = 0 ∧ cs.length = n * s ∧ s' = s ∧ 0 < s ∧ 0 ≤ i ∧ i.toNat ≤ n ∧ k2 ≠ k ∧ 0 < m ∧ n + m ≤ 2 ^ 20 then
        some (.ref k (ver + 1) 0 (n + m) s false, h.set k ⟨ver + 1, false, some (.cells (cs.take (i.toNat * s) ++ new ++ cs.drop (i.toNat * s)))⟩) else none
  | _ => none

section
variable {P : Program} {κ : Kap} {h : Hp} {w : World} {M M0 : Nat → Prop}

theorem PutAt.comp {w1 w2 : World} {b : Nat} {x y : Array Value} (p : PutAt w w1 b x) (q : PutAt w1 w2 b y) : PutAt w w2 b y := by
  obtain ⟨vs, T, a1, a2, a3⟩ := p.row
  obtain ⟨vs', T', b1, b2, b3⟩ := q.row
  rw [a2] at b1; cases b1
  exact ⟨q.size.trans p.size, ⟨vs, T, a1, b2, b3.trans a3⟩, fun c hc => (q.old c hc).trans (p.old c hc), q.os.trans p.os, q.tape.trans p.tape, q.output.trans p.output⟩
theorem PutAt.of_drew {w1 : World} {b : Nat} {x : Array Value} (p : PutAt w.drew w1 b x) : PutAt w w1 b x := ⟨p.size, p.row, p.old, p.os, p.tape, p.output⟩
theorem Grew.put {w1 w2 : World} {x y : Array Value} {T : TypeId} (g : Grew w w1 (.cells x T (0, 0))) (q : PutAt w1 w2 w.heap.size y) : Grew w w2 (.cells y T (0, 0)) := by
  obtain ⟨vs', T', b1, b2, b3⟩ := q.row
  rw [g.new] at b1; cases b1
  exact ⟨q.size.trans g.size, b2, fun c hc => (q.old c (by omega)).trans (g.old c hc), q.os.trans g.os, q.tape.trans g.tape, q.output.trans g.output⟩
theorem cells_pre {cs : List AV} {us rest : List Value} (hv : Vs κ h w M cs us) (ho : ∀ c ∈ cs, c.one = true) : CellsRel κ h w M cs (us ++ rest).toArray := by
  intro j c hj
  obtain ⟨v, q1, q2⟩ := hv.get hj
  refine ⟨ho c (List.mem_of_getElem? hj), v, ?_, q2⟩
  have : j < us.length := (List.getElem?_eq_some_iff.1 q1).1
  simp [List.getElem?_append_left this, q1]
theorem Vs.drop {cs : List AV} {us : List Value} (hv : Vs κ h w M cs us) (n : Nat) : Vs κ h w M (cs.drop n) (us.drop n) := by
  apply Vs.of_get
  · simp [hv.length]
  · intro i c v h1 h2
    rw [List.getElem?_drop] at h1 h2
    obtain ⟨u, q1, q2⟩ := hv.get h1
    rw [h2] at q1; cases q1; exact q2
/-- Two writes, the second ahead of the first (in place). -/
theorem two_room {V U X : List Value} {p x N : Nat} (hU : U = V.take N) (hp : p ≤ N) (hN : N ≤ V.length) (hx : X.length = x) (hfit : N + x ≤ V.length) :
    ∃ rest, setR (setR V (p + x) (U.drop p)) p X = (U.take p ++ X ++ U.drop p) ++ rest := by
  have hUl : U.length = N := by rw [hU, List.length_take]; omega
  refine ⟨V.drop (N + x), ?_⟩
  have h1 : setR V (p + x) (U.drop p) = V.take (p + x) ++ U.drop p ++ V.drop (N + x) := by
    unfold setR
    rw [List.length_drop, hUl, show p + x + (N - p) = N + x by omega]
  rw [h1]
  unfold setR
  rw [hx]
  have e1 : (V.take (p + x) ++ U.drop p ++ V.drop (N + x)).take p = U.take p := by
    rw [List.append_assoc, List.take_append_of_le_length (by simp; omega), List.take_take, hU, List.take_take]
    congr 1; omega
  have e2 : (V.take (p + x) ++ U.drop p ++ V.drop (N + x)).drop (p + x) = U.drop p ++ V.drop (N + x) := by
    rw [List.append_assoc, List.drop_append_of_le_length (by simp; omega), List.drop_eq_nil_of_le (by simp; omega), List.nil_append]
  rw [e1, e2]
  simp
/-- Two writes, the second behind the first (a new row). -/
theorem two_grow {V U X : List Value} {p x N : Nat} (hV : V.take p = U.take p) (hU : U.length = N) (hp : p ≤ N) (hx : X.length = x) (hfit : N + x ≤ V.length) :
    ∃ rest, setR (setR V p X) (p + x) (U.drop p) = (U.take p ++ X ++ U.drop p) ++ rest := by
  refine ⟨(setR V p X).drop (N + x), ?_⟩
  have h1 : setR V p X = U.take p ++ X ++ V.drop (p + x) := by unfold setR; rw [hV, hx]
  have e1 : (setR V p X).take (p + x) = U.take p ++ X := by
    rw [h1, List.take_append_of_le_length (by simp; omega), List.take_of_length_le (by simp; omega)]
  rw [setR, e1, List.length_drop, hU, show p + x + (N - p) = N + x by omega]
end
end Go.Va
end
section
open Go Go.Proofs Go.Lib
namespace Go.Va
section
variable {κ : Kap} {h : Hp} {w : World} {M0 : Nat → Prop}

/-- What is asked of an instance of slices.Insert. -/
structure InsOK (P : Program) (f : FuncId) (T e ov s : Nat) (i : TypeInfo) (z : Value) : Prop where
  enter : ∀ (vals : Array Value) (w : World), (callFunc f vals).run P w = .ok (.enter f vals) w
  und : P.underlying T = some (.slice e)
  und3 : P.underlying 3 = some (.int .i64)
  info : P.info? e = some i
  zero : i.zero = some z
  size : i.size = s
  zs : z.cells.size = i.size
  bytes : i.bytes ≤ 64
  over : ∀ (x y : Value) (w : World), (callFunc ov #[x, y]).run P w = ((Extern.SlicesOverlaps.overlaps #[T, T] #[4] #[x, y]).run P w).andThen fun v w' => .ok (.value v) w'
  room : ∀ (b n c i vb voff m vc : Nat) (w : World), i < n → 0 < m → n + m ≤ c → n + m ≤ 1048576 →
    (∀ lb cb, (callFunc ov #[.slice (some ⟨vb, voff, none⟩) m vc, .slice (some ⟨b, (i + m) * s, none⟩) lb cb]).run P w = .ok (.value (.bool false)) w) → ∀ (W1 W2 : World),
    (∀ ty dc sc, (Builtin.copy_ #[T, T] ty #[.slice (some ⟨b, (i + m) * s, none⟩) (n + m - (i + m)) dc, .slice (some ⟨b, i * s, none⟩) (n + m - i) sc]).run P w.drew = .ok (goInt (n - i : Nat)) W1) →
    (∀ ty dc, (Builtin.copy_ #[T, T] ty #[.slice (some ⟨b, i * s, none⟩) (n + m - i) dc, .slice (some ⟨vb, voff, none⟩) m vc]).run P W1 = .ok (goInt m) W2) →
    Calls P f #[.slice (some ⟨b, 0, none⟩) n c, .int .i64 i, .slice (some ⟨vb, voff, none⟩) m vc] w fun e w' => e = .returned (.slice (some ⟨b, 0, none⟩) (n + m) c) ∧ w' = W2
  grow : ∀ (b n c i vb voff m vc G : Nat) (w : World), i < n → 0 < m → n ≤ c → c < n + m → n + m ≤ 9223372036854775807 → n + m ≤ G → G ≤ 9223372036854775807 → ∀ (N : Nat) (W0 W1 W2 : World),
    (∀ ty, (Builtin.append_ #[T, 3] ty #[.slice (some ⟨b, 0, none⟩) i c, .int .i64 ((n : Int) + (m : Int) - (i : Int))]).run P w = .ok (.slice (some ⟨N, 0, none⟩) (n + m) G) W0) →
    (∀ ty dc, (Builtin.copy_ #[T, T] ty #[.slice (some ⟨N, i * s, none⟩) (n + m - i) dc, .slice (some ⟨vb, voff, none⟩) m vc]).run P W0 = .ok (goInt m) W1) →
    (∀ ty dc sc, (Builtin.copy_ #[T, T] ty #[.slice (some ⟨N, (i + m) * s, none⟩) (n + m - (i + m)) dc, .slice (some ⟨b, i * s, none⟩) (n - i) sc]).run P W1.drew = .ok (goInt (n - i : Nat)) W2) →
    Calls P f #[.slice (some ⟨b, 0, none⟩) n c, .int .i64 i, .slice (some ⟨vb, voff, none⟩) m vc] w fun e w' => e = .returned (.slice (some ⟨N, 0, none⟩) (n + m) G) ∧ w' = W2
  atEnd : ∀ (A : Option Addr) (n c vb voff m vc : Nat) (w W1 : World) (r : Value), 0 < m → n ≤ c → (A = none → n = 0 ∧ c = 0) →
    ((Builtin.append_ #[T, T] T #[.slice A n c, .slice (some ⟨vb, voff, none⟩) m vc]).run P w = .ok r W1) →
    Calls P f #[.slice A n c, .int .i64 n, .slice (some ⟨vb, voff, none⟩) m vc] w fun e w' => e = .returned r ∧ w' = W1

theorem szOf_of {P : Program} {e : Nat} {i : TypeInfo} (h : P.info? e = some i) : szOf P e = some i.size := by simp [szOf, h]

theorem insert_okX {P : Program} {f : FuncId} {T e ov s : Nat} {i0 : TypeInfo} {z : Value} (F : InsOK P f T e ov s i0 z) : CallOK1 P f (specInsertX s) := by
  intro d args h key r h' hspec κ w M0 vals hr hv
  unfold specInsertX at hspec
  split at hspec
  · rename_i k ver off n s' clip i k2 ver2 off2 m s2 clip2
    simp only [Option.bind_eq_some_iff] at hspec
    obtain ⟨⟨m', new⟩, hsrc, cs, hca, hspec⟩ := hspec
    simp only at hspec
    split at hspec
    · rename_i hh
      obtain ⟨rfl, hlen, rfl, hs0, hi0, hin, hne, hm, hbig⟩ := hh
      cases hspec
      obtain ⟨j, rfl⟩ := Int.eq_ofNat_of_zero_le hi0
      simp only [Int.ofNat_eq_natCast, Int.toNat_natCast] at *
      have hcc := (wcells_some hca).2
      have hro := (wcells_some hca).1
      have hlive := cellsAt_lives hcc
      have hsz := F.size
      have hby := F.bytes
      have hge := F.info
      generalize hvl : vals.toList = vl at hv
      cases hv with | cons hx hv => ?_
      cases hv with | cons hi hv => ?_
      cases hv with | cons hy hv => ?_
      cases hv
      rename_i sv iv vv
      have hvals : vals = #[sv, iv, vv] := by rw [← Array.toList_inj, hvl]
      subst hvals
      have hiv : iv = .int .i64 (j : Int) := by
        cases hi with | p hp => cases hp; rfl
      subst hiv
      refine ⟨F.enter _ _, ?_⟩
      -- the second row
      unfold srcCells at hsrc
      simp only [Option.bind_eq_some_iff] at hsrc
      obtain ⟨cs2, hc2, hsrc⟩ := hsrc
      split at hsrc
      · rename_i hh2
        obtain ⟨rfl, hle2⟩ := hh2
        simp at hsrc
        obtain ⟨rfl, rfl⟩ := hsrc
        have hl2 := cellsAt_lives hc2
        obtain ⟨b2, cap2, rfl, t1, t2, hk2, vs2, T2, hb2, -, -⟩ := zero_none (by omega) hy hl2
        have haX := ((At.of_row hr hc2 hk2).drop off2).take (m * s2)
        rw [Nat.zero_add] at haX
        obtain ⟨X, x1, x2, x3⟩ := haX.values
        have x4 := one_cells x3 haX.ones
        have x5 := haX.ones
        have hXl : X.length = m * s2 := by rw [x1, List.length_take, List.length_drop]; omega
        generalize hnew : (cs2.drop off2).take (m * s2) = new at *
        have hm0 : m ≠ 0 := by omega
        by_cases hjn : j = n
        · subst hjn
          have hop : opApp key h i0.size i0.bytes (.ref k ver 0 j s2 clip) (.ref k2 ver2 off2 m s2 clip2) = some (.ref k (ver + 1) 0 (j + m) s2 false, h.set k ⟨ver + 1, false, some (.cells (cs.take (j * s2) ++ new))⟩) := by
            have hr1 : roomy (j + m) i0.bytes = true := by
              simp only [roomy, Bool.and_eq_true, decide_eq_true_eq]
              have := Nat.mul_le_mul hbig hby
              omega
            have hsr : srcCells h i0.size (.ref k2 ver2 off2 m s2 clip2) = some (m, new) := by
              unfold srcCells
              simp only [hc2, Option.bind_some]
              rw [if_pos ⟨hsz.symm, by rw [hsz]; exact hle2⟩, hsz, hnew]
            unfold opApp
            simp only [hsr, Option.bind_some, hca]
            rw [if_pos ⟨hsz.symm, by rw [hsz]; exact hs0, by rw [hsz, hlen]; omega, hr1⟩, if_pos ⟨trivial, .inr (by rw [hsz, hlen])⟩, if_neg hm0, hsz]
          obtain ⟨v, w', κ', q1, q2, q3, q4⟩ := app_run (P := P) (ty := T) hr F.und F.und hge F.zero F.zs hx hy hop
          have he : cs.take (j * s2) ++ new ++ cs.drop (j * s2) = cs.take (j * s2) ++ new := by
            rw [List.drop_eq_nil_of_le (by omega), List.append_nil]
          rw [he]
          have fin : ∀ (A : Option Addr) (c : Nat), sv = .slice A j c → j ≤ c → (A = none → j = 0 ∧ c = 0) → Calls P f #[sv, .int .i64 (j : Int), .slice (some ⟨b2, off2, none⟩) m cap2] w fun e w' =>
              ∃ v, e = .returned v ∧ ∃ κ', RelH κ' (h.set k ⟨ver + 1, false, some (.cells (cs.take (j * s2) ++ new))⟩) w' M0 ∧ Trans κ h w κ' (h.set k ⟨ver + 1, false, some (.cells (cs.take (j * s2) ++ new))⟩) w' ∧
                V κ' (h.set k ⟨ver + 1, false, some (.cells (cs.take (j * s2) ++ new))⟩) w' (Mx κ' (h.set k ⟨ver + 1, false, some (.cells (cs.take (j * s2) ++ new))⟩) M0) (.ref k (ver + 1) 0 (j + m) s2 false) v := by
            intro A c e1 e2 e3
            subst e1
            refine Calls.mono (F.atEnd A j c b2 off2 m cap2 w w' v hm e2 e3 q1) ?_
            rintro e w1 ⟨rfl, rfl⟩
            exact ⟨v, rfl, κ', q2, q3, q4⟩
          cases hx with
          | ref _ _ _ _ _ _ b cap p1 p2 p3 p4 => exact fin _ cap rfl p2 (by simp)
          | ref0 _ _ _ _ _ A p1 p2 => exact fin A 0 rfl (Nat.le_refl _) (fun _ => ⟨rfl, rfl⟩)
        · have hjn' : j < n := by omega
          obtain ⟨b, cap, rfl, p2, p3, hk, vs, T1, hb, r1, r2⟩ := zero_none (by omega) hx hlive
          have hbb : b2 ≠ b := fun e => hne (hr.inj k2 k b hl2.2 hlive.2 (e ▸ hk2) hk)
          have haU := At.of_row hr hcc hk
          obtain ⟨U, u1, u2, u3⟩ := haU.values
          have u4 := one_cells u3 haU.ones
          have u5 := haU.ones
          have hUl : U.length = n * s2 := by rw [u1, hlen]
          have mul1 : (j + m) * s2 = j * s2 + m * s2 := Nat.add_mul ..
          have mul2 : (n + m) * s2 = n * s2 + m * s2 := Nat.add_mul ..
          have mul3 : (n - j) * s2 = n * s2 - j * s2 := Nat.sub_mul ..
          have mul4 : j * s2 ≤ n * s2 := Nat.mul_le_mul_right _ hin
          have mul5 : n * s2 ≤ cap * s2 := Nat.mul_le_mul_right _ p2
          simp only [Nat.zero_add] at r1 r2
          have hnp : 0 < n * s2 := Nat.mul_pos (by omega) hs0
          have hUv : U = vs.toList.take (n * s2) := by
            apply List.ext_getElem?
            intro q
            rw [List.getElem?_take]
            by_cases hq : q < n * s2
            · rw [if_pos hq]
              have hq' : q < U.length := by omega
              have g := u2 q U[q] (List.getElem?_eq_getElem hq')
              rw [Addr.add_lit, Nat.zero_add, cell_row hb] at g
              rw [List.getElem?_eq_getElem hq', ← g]
              simp
            · rw [if_neg hq]
              exact List.getElem?_eq_none (by omega)
          have hdl : (U.drop (j * s2)).length = (n - j) * s2 := by rw [List.length_drop, hUl, mul3]
          have hU1 : ∀ v ∈ U.drop (j * s2), v.oneCell' = true := fun v hv => u4 v (List.mem_of_mem_drop hv)
          have hU2 : ∀ q v, (U.drop (j * s2))[q]? = some v → w.cell? ((⟨b, j * s2, none⟩ : Addr).add q) = some v := by
            intro q v hq
            rw [List.getElem?_drop] at hq
            have := u2 _ v hq
            rw [Addr.add_lit, Nat.zero_add] at this
            rw [Addr.add_lit]; exact this
          have hC : Vs κ h w (Mx κ h M0) (cs.take (j * s2) ++ new ++ cs.drop (j * s2)) (U.take (j * s2) ++ X ++ U.drop (j * s2)) := ((u3.take _).append x3).append (u3.drop _)
          have hO : ∀ c ∈ cs.take (j * s2) ++ new ++ cs.drop (j * s2), c.one = true := by
            intro c hc
            simp only [List.mem_append] at hc
            rcases hc with (hc | hc) | hc
            · exact u5 c (List.mem_of_mem_take hc)
            · exact x5 c hc
            · exact u5 c (List.mem_of_mem_drop hc)
          generalize hCC : cs.take (j * s2) ++ new ++ cs.drop (j * s2) = C at *
          have hver : (h.get k).ver < ver + 1 := by rw [hlive.1]; omega
          have hse := szOf_of hge
          rw [hsz] at hse
          by_cases hfit : n + m ≤ cap
          · -- in place
            have hcl : clip = false := by
              cases clip with
              | false => rfl
              | true => have := p3 rfl; omega
            have hvs := r2 hcl
            have mul6 : (n + m) * s2 ≤ cap * s2 := Nat.mul_le_mul_right _ hfit
            obtain ⟨W1, c1, c2⟩ := copy_put (P := P) (w := w.drew) (sT := T) (g := b) (o := (j + m) * s2) (dLen := n + m - (j + m)) (sLen := n + m - j) (A := ⟨b, j * s2, none⟩) (us := U.drop (j * s2)) F.und hse (vs0 := vs) (T := T1) hb
              (by rw [hdl]; congr 1; omega) hU2 (by rw [hdl]; omega) hU1
            have c1 := c1.of_drew
            obtain ⟨va, Ta, a1, a2, a3⟩ := c1.row
            rw [hb] at a1; cases a1
            have hz1 : (setR vs.toList ((j + m) * s2) (U.drop (j * s2))).length = vs.size := by simpa using a3
            obtain ⟨W2, d1, d2⟩ := copy_put (P := P) (w := W1) (sT := T) (g := b) (o := j * s2) (dLen := n + m - j) (sLen := m) (A := ⟨b2, off2, none⟩) (us := X) F.und hse a2
              (by rw [hXl]; congr 1; omega) (by
                intro q v hq
                have := x2 q v hq
                rw [Addr.add_lit] at this ⊢
                simp only [World.cell?] at this ⊢
                rw [c1.old b2 hbb]; exact this) (by rw [hXl]; simp only [List.size_toArray]; omega) x4
            have pp := c1.comp d1
            simp only [List.toList_toArray] at pp
            obtain ⟨rest, hrest⟩ := two_room (x := m * s2) hUv mul4 (by simp; omega) hXl (by simp; omega)
            rw [mul1] at pp
            rw [hrest] at pp
            have hov : ∀ lb cb, (callFunc ov #[.slice (some ⟨b2, off2, none⟩) m cap2, .slice (some ⟨b, (j + m) * s2, none⟩) lb cb]).run P w = .ok (.value (.bool false)) w := by
              intro lb cb
              rw [F.over, Lib.run_overlaps_apart w T 4 e F.und s2 (fun w => by rw [← hsz]; simp [sizeOf, typeInfo, hge]) ⟨b2, off2, none⟩ ⟨b, (j + m) * s2, none⟩ m cap2 lb cb hbb T2 T1 vs2.size vs.size (by simp [World.shape?, hb2]) (by simp [World.shape?, hb]) (by omega)
                (by simp [World.frozen?, hb2]) (by simp [World.frozen?, hb2])]
              rfl
            refine Calls.mono (F.room b n cap j b2 off2 m cap2 w hjn' hm hfit hbig hov W1 W2 (fun ty dc sc => ?_) (fun ty dc => ?_)) ?_
            · rw [c2]; congr 3; omega
            · rw [d2]; congr 3; omega
            · rintro e w1 ⟨rfl, rfl⟩
              refine ⟨_, rfl, κ, relH_put hr pp hk hlive.2 hro C (ver + 1) (by omega) (cells_pre hC hO), trans_put pp hk hlive.2 hro _ (ver + 1) (by omega), ?_⟩
              obtain ⟨vb, Tb, e1, e2, e3⟩ := pp.row
              rw [hb] at e1; cases e1
              exact .ref k (ver + 1) 0 (n + m) s2 false b cap (by rw [get_set_same]; exact Nat.le_refl _) hfit (by simp) (fun _ => ⟨hk, _, _, e2, by omega, fun _ => by omega⟩)
          · -- a new row
            have hbw : b < w.heap.size := (Array.getElem?_eq_some_iff.1 hb).1
            have hbw2 : b2 < w.heap.size := (Array.getElem?_eq_some_iff.1 hb2).1
            have hkk : (n : Int) + (m : Int) - (j : Int) = ((n + m - j : Nat) : Int) := by omega
            have hjk : j + (n + m - j) = n + m := by omega
            have hold : (Builtin.firstCells i0.size j (.slice (some ⟨b, 0, none⟩) j cap)).run P w.drew = .ok (U.take (j * s2)).toArray w.drew := by
              rw [hsz]
              refine run_firstCells_some w.drew s2 j ⟨b, 0, none⟩ j cap (U.take (j * s2)) (by rw [List.length_take]; omega) (fun q v hq => ?_)
              rw [List.getElem?_take] at hq
              split at hq
              · exact u2 q v hq
              · cases hq
            have hnb : (n + m) * i0.bytes ≤ 2 ^ 20 * 64 := Nat.mul_le_mul hbig hby
            have hkb : (n + m - j) * i0.bytes ≤ (n + m) * i0.bytes := Nat.mul_le_mul_right _ (by omega)
            have hrz : ∀ ty, (Builtin.append_ #[T, 3] ty #[.slice (some ⟨b, 0, none⟩) j cap, .int .i64 ((n : Int) + (m : Int) - (j : Int))]).run P w =
                .ok (.slice (some ⟨w.heap.size, 0, none⟩) (n + m) (grownCap w (n + m) cap e)) (w.drew.alloc (.cells ((U.take (j * s2)).toArray ++ Builtin.zeroCells z.cells (n + m - j) ++ Builtin.zeroCells z.cells (grownCap w (n + m) cap e - (n + m))) e)) := fun ty => by
              have hq := Lib.run_append_grow_zeros w T 3 ty e i0 z .i64 .i64 F.und F.und3 hge F.zero (some ⟨b, 0, none⟩) j cap (U.take (j * s2)) hold (n + m - j) (by omega) (by omega) (by omega) (by omega) (by omega) (by rw [hjk]; exact growslice_fits (by omega) (by omega))
              rw [hjk] at hq
              rw [hkk]
              exact hq
            have hGn : n + m ≤ grownCap w (n + m) cap e := grownCap_ge w _ _ _
            have hG63 : grownCap w (n + m) cap e ≤ 9223372036854775807 := by
              have := grownCap_le_maxLen w (n + m) cap e (by unfold maxLen; omega)
              unfold maxLen at this
              omega
            generalize grownCap w (n + m) cap e = G at *
            have hzz := F.zs
            have hRs : ((U.take (j * s2)).toArray ++ Builtin.zeroCells z.cells (n + m - j) ++ Builtin.zeroCells z.cells (G - (n + m))).size = G * s2 := by
              simp only [Array.size_append, List.size_toArray, Builtin.zeroCells, Array.size_map, Array.size_range, hzz, hsz, List.length_take, hUl]
              have q1 : (n + m - j) * s2 = n * s2 + m * s2 - j * s2 := by rw [Nat.sub_mul, mul2]
              have q2 : (G - (n + m)) * s2 = G * s2 - (n * s2 + m * s2) := by rw [Nat.sub_mul, mul2]
              have q3 : (n + m) * s2 ≤ G * s2 := Nat.mul_le_mul_right _ hGn
              omega
            have hRt : ((U.take (j * s2)).toArray ++ Builtin.zeroCells z.cells (n + m - j) ++ Builtin.zeroCells z.cells (G - (n + m))).toList.take (j * s2) = U.take (j * s2) := by
              simp only [Array.toList_append, List.append_assoc]
              rw [List.take_append_of_le_length (by simp; omega), List.take_of_length_le (by simp only [List.length_take]; omega)]
            generalize hROW : (U.take (j * s2)).toArray ++ Builtin.zeroCells z.cells (n + m - j) ++ Builtin.zeroCells z.cells (G - (n + m)) = ROW at *
            have q3 : (n + m) * s2 ≤ G * s2 := Nat.mul_le_mul_right _ hGn
            have g0 := Grew.alloc_drew w (.cells ROW e (0, 0))
            generalize w.drew.alloc (.cells ROW e (0, 0)) = W0 at *
            obtain ⟨W1, c1, c2⟩ := copy_put (P := P) (w := W0) (sT := T) (g := w.heap.size) (o := j * s2) (dLen := n + m - j) (sLen := m) (A := ⟨b2, off2, none⟩) (us := X) F.und hse g0.new
              (by rw [hXl]; congr 1; omega) (by
                intro q v hq
                have := x2 q v hq
                rw [Addr.add_lit] at this ⊢
                simp only [World.cell?] at this ⊢
                rw [g0.old b2 hbw2]; exact this) (by rw [hXl]; omega) x4
            obtain ⟨va, Ta, a1, a2, a3⟩ := c1.row
            rw [g0.new] at a1; cases a1
            have hz1 : (setR ROW.toList (j * s2) X).length = ROW.size := by simpa using a3
            obtain ⟨W2, d1, d2⟩ := copy_put (P := P) (w := W1.drew) (sT := T) (g := w.heap.size) (o := (j + m) * s2) (dLen := n + m - (j + m)) (sLen := n - j) (A := ⟨b, j * s2, none⟩) (us := U.drop (j * s2)) F.und hse a2
              (by rw [hdl]; congr 1; omega) (by
                intro q v hq
                have := hU2 q v hq
                rw [Addr.add_lit] at this ⊢
                have hd : W1.drew.heap = W1.heap := rfl
                simp only [World.cell?, hd] at this ⊢
                rw [c1.old b (by omega), g0.old b hbw]; exact this) (by rw [hdl]; simp only [List.size_toArray]; omega) hU1
            have pp := g0.put (c1.comp d1.of_drew)
            simp only [List.toList_toArray] at pp
            obtain ⟨rest, hrest⟩ := two_grow (V := ROW.toList) (x := m * s2) hRt hUl mul4 hXl (by simp; omega)
            rw [mul1] at pp
            rw [hrest] at pp
            have hsz2 : (U.take (j * s2) ++ X ++ U.drop (j * s2) ++ rest).length = G * s2 := by
              rw [← hrest, setR_length (by rw [hz1, hdl]; omega), hz1, hRs]
            refine Calls.mono (F.grow b n cap j b2 off2 m cap2 G w hjn' hm p2 (by omega) (by omega) hGn hG63 w.heap.size W0 W1 W2 hrz (fun ty dc => ?_) (fun ty dc sc => ?_)) ?_
            · rw [c2]; congr 3; omega
            · rw [d2]; congr 3; omega
            · rintro e' w1 ⟨rfl, rfl⟩
              refine ⟨_, rfl, _, relH_new hr pp k _ (ver + 1) hver (obj_new pp hr.m0lt k _ (ver + 1) hver (cells_pre hC hO)), trans_new pp k _ (ver + 1) hver, ?_⟩
              exact .ref k (ver + 1) 0 (n + m) s2 false w.heap.size G (by rw [get_set_same]; exact Nat.le_refl _) hGn (by simp) (fun _ => ⟨kset_same _ _ _, _, _, pp.new, by simp only [List.size_toArray]; omega, fun _ => by simp only [List.size_toArray]; omega⟩)
      · cases hsrc
    · cases hspec
  · cases hspec

theorem set_set (h : Hp) (k : Key) (a b : HE) : (h.set k a).set k b = h.set k b := by
  unfold Hp.set
  congr 1
  funext x
  by_cases e : x = k
  · simp [e]
  · simp [e, Hp.get]
/-- .. and where cells behind the row's end are known too: these are forgotten first. -/
theorem insert_ok {P : Program} {f : FuncId} {T e ov s : Nat} {i0 : TypeInfo} {z : Value} (F : InsOK P f T e ov s i0 z) : CallOK1 P f (specInsert s) := by
  intro d args h key r h' hspec κ w M0 vals hr hv
  unfold specInsert at hspec
  split at hspec
  · rename_i k ver off n s' clip i k2 ver2 off2 m s2 clip2
    simp only [Option.bind_eq_some_iff] at hspec
    obtain ⟨⟨m', new⟩, hsrc, cs, hca, hspec⟩ := hspec
    simp only at hspec
    split at hspec
    · rename_i hh
      obtain ⟨hoff, hlen, hss, hs0, hi0, hin, hne, hm, hbig⟩ := hh
      cases hspec
      have hcc := (wcells_some hca).2
      have hro := (wcells_some hca).1
      have hlive := cellsAt_lives hcc
      have hin2 : i.toNat * s ≤ n * s := Nat.mul_le_mul_right _ hin
      have et : (cs.take (n * s)).take (i.toNat * s) = cs.take (i.toNat * s) := by rw [List.take_take]; congr 1; omega
      by_cases hex : cs.length = n * s
      · have ed : cs.take (n * s) = cs := List.take_of_length_le (by omega)
        rw [ed]
        refine insert_okX F d _ h key _ _ ?_ κ w M0 vals hr hv
        unfold specInsertX
        simp only [hsrc, hca, Option.bind_some]
        rw [if_pos ⟨hoff, hex, hss, hs0, hi0, hin, hne, hm, hbig⟩]
      · have hx0 : ∃ sv vs', vals.toList = sv :: vs' ∧ V κ h w (Mx κ h M0) (.ref k ver off n s' clip) sv := by
          generalize hvl : vals.toList = vl at hv
          cases hv with | cons hx hv => exact ⟨_, _, rfl, hx⟩
        obtain ⟨sv, vs', -, hx⟩ := hx0
        have hkb : ∃ b, κ k = some b := by
          cases hx with
          | ref _ _ _ _ _ _ b cap p1 p2 p3 p4 => exact ⟨b, (p4 hlive).1⟩
          | ref0 _ _ _ _ _ A p1 p2 =>
            have hk0 := p2 hlive
            obtain ⟨c1, c2⟩ := cellsAt_some hcc
            rcases hr.obj k _ c2 with ⟨b', vs, T', h3, h4, h5⟩ | ⟨h3, h4⟩
            · rw [hk0] at h3; cases h3
            · subst h4; simp at hex hlen
        obtain ⟨b, hk⟩ := hkb
        obtain ⟨vs, T1, q1, q2⟩ := At.row hr hcc hk
        have pp : PutAt w w b vs := ⟨rfl, ⟨vs, T1, q1, q1, rfl⟩, fun _ _ => rfl, rfl, rfl, rfl⟩
        have hc : CellsRel κ h w (Mx κ h M0) (cs.take (n * s)) vs := by
          intro j c hj
          rw [List.getElem?_take] at hj
          split at hj
          · exact q2 j c hj
          · cases hj
        have hr1 := relH_put hr pp hk hlive.2 hro (cs.take (n * s)) ver (by rw [hlive.1]; exact Nat.le_refl _) hc
        have t1 := trans_put pp hk hlive.2 hro (.cells (cs.take (n * s))) ver (by rw [hlive.1]; exact Nat.le_refl _)
        have hv1 := hv.keeps t1 (t1.keeps M0 hr.m0lt)
        have hset := set_set h k ⟨ver, false, some (.cells (cs.take (n * s)))⟩ ⟨ver + 1, false, some (.cells (cs.take (i.toNat * s) ++ new ++ (cs.take (n * s)).drop (i.toNat * s)))⟩
        obtain ⟨g1, g2⟩ := insert_okX F d _ (h.set k ⟨ver, false, some (.cells (cs.take (n * s)))⟩) key (.ref k (ver + 1) 0 (n + m) s false) (h.set k ⟨ver + 1, false, some (.cells (cs.take (i.toNat * s) ++ new ++ (cs.take (n * s)).drop (i.toNat * s)))⟩) (by
          unfold specInsertX
          have e1 : srcCells (h.set k ⟨ver, false, some (.cells (cs.take (n * s)))⟩) s (.ref k2 ver2 off2 m s2 clip2) = some (m', new) := by
            rw [← hsrc]
            simp only [srcCells, Hp.cellsAt, Hp.live]
            rw [get_set_other _ _ hne]
          have e2 : (h.set k ⟨ver, false, some (.cells (cs.take (n * s)))⟩).wcells k ver = some (cs.take (n * s)) := by
            unfold Hp.wcells Hp.cellsAt Hp.live HE.live
            rw [get_set_same]
            simp
          simp only [e1, e2, Option.bind_some]
          rw [if_pos ⟨hoff, by rw [List.length_take]; omega, hss, hs0, hi0, hin, hne, hm, hbig⟩, et, hset]) κ w M0 vals hr1 hv1
        refine ⟨g1, Calls.mono g2 ?_⟩
        rintro e w1 ⟨v, rfl, κ', u1, u2, u3⟩
        exact ⟨v, rfl, κ', u1, t1.trans u2, u3⟩
    · cases hspec
  · cases hspec
end
end Go.Va
end
