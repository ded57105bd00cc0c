/- Towards the law: a small language into which the program is turned, its soundness, and what the functions answer: part 4. -/
import Derived.Test.YtgkmheobocnenaaGreatVa03
import Derived.Test.YtgkmheobocnenaaGreatProg
import Derived.Shelf.Spec.SlicesInsert
import Derived.Lib.AppendZerosOnto
import Derived.WalkKit
set_option linter.unusedSimpArgs false
set_option linter.unusedVariables false
set_option linter.unusedSectionVars false
set_option linter.unnecessarySimpa false
section
open Go.Proofs
namespace Go.Va
variable {pp : Option PrimFn}

@[simp high] theorem pints_drop (l : List Int) (i : Nat) : ((ints l).map AV.p).drop i = (ints (l.drop i)).map AV.p := by simp [ints, List.map_drop]
@[simp high] theorem pints_take (l : List Int) (i : Nat) : ((ints l).map AV.p).take i = (ints (l.take i)).map AV.p := by simp [ints, List.map_take]

/-! ### Cmp -/
def cmpL : List (Int × Int) → Int
  | [] => 0
  | (x, y) :: l => if x < y then -1 else if y < x then 1 else cmpL l
/-- Lexicographic comparison. -/
def mcmp (a b : Mono) : Int := cmpL (a.l.zip b.l)
theorem cmpL_find : ∀ (l : List (Int × Int)) (i : Nat), (findL (fun _ (x : Int × Int) => if x.1 < x.2 then some (-1 : Int) else if x.2 < x.1 then some 1 else none) l i).getD 0 = cmpL l
  | [], _ => rfl
  | (x, y) :: l, i => by
    unfold findL cmpL
    by_cases h1 : x < y
    · simp [h1]
    · by_cases h2 : y < x
      · simp [h1, h2]
      · simp [h1, h2, cmpL_find l]

theorem zip_drop' {α β : Type} : ∀ {a : List α} {b : List β} {i : Nat} {x : α} {y : β} {r : List (α × β)}, (a.zip b).drop i = (x, y) :: r → ∃ ra rb, a.drop i = x :: ra ∧ b.drop i = y :: rb
  | [], _, i, _, _, _, h => by simp at h
  | _ :: _, [], i, _, _, _, h => by simp at h
  | u :: a, v :: b, 0, x, y, r, h => by
    simp at h
    obtain ⟨⟨rfl, rfl⟩, -⟩ := h
    exact ⟨a, b, rfl, rfl⟩
  | u :: a, v :: b, i + 1, x, y, r, h => zip_drop' (a := a) (b := b) (i := i) (by simpa using h)

theorem r4cmp_spec (a b : Mono) : funD (cxT pp) 152 [.agg (ints a.l), .agg (ints b.l)] = some (.int .i64 (mcmp a b)) := by
  have hz : (a.l.zip b.l).length = 8 := by simp
  have loop := loop_find (cx := cxT pp) (d := 0) (c := c152_0) (a.l.zip b.l) (fun _ (x : Int × Int) => if x.1 < x.2 then some (-1 : Int) else if x.2 < x.1 then some 1 else none)
    (fun i s => s.h.get ⟨0, 2⟩ = ⟨1, false, some (.cells ((ints a.l).map .p))⟩ ∧ s.h.get ⟨0, 3⟩ = ⟨1, false, some (.cells ((ints b.l).map .p))⟩ ∧ s.env 2 = .ptr ⟨0, 2⟩ 1 0 ∧ s.env 3 = .ptr ⟨0, 3⟩ 1 0 ∧ s.env 5 = .p (.int .i64 i))
    (fun z a => a.1 = .ret ∧ a.2.env 4 = .p (.int .i64 z)) (.ex 0) (by simp)
    (by
      rintro i ⟨env, h⟩ ⟨x, y⟩ rest hi hx hd ⟨g2, g3, h2, h3, h5⟩
      simp only at g2 g3 h2 h3 h5
      rw [hz] at hi
      have hw := inc_id hi (by omega)
      have hi' : (i : Int) < 8 := by omega
      have hi1 : i + 1 ≤ 8 := by omega
      obtain ⟨ra, rb, da, db⟩ := zip_drop' hd
      by_cases c1 : x < y
      · simp [c152_0, g2, g3, h2, h3, h5, hi, hi', hi1, da, db, c1]
      · by_cases c2 : y < x
        · simp [c152_0, g2, g3, h2, h3, h5, hi, hi', hi1, da, db, c1, c2]
        · simp [c152_0, g2, g3, h2, h3, h5, hi, hi', hi1, da, db, c1, c2, hw])
    (by
      rintro ⟨env, h⟩ ⟨g2, g3, h2, h3, h5⟩
      rw [hz] at h5
      simp only at g2 g3 h2 h3 h5
      simp [c152_0, g2, g3, h2, h3, h5])
  rw [fun_152]
  unfold closedD bodyD mcmp
  simp [fn152]
  generalize hx : codeD (cxT pp) 0 (ACode.loop c152_0) _ = X
  obtain ⟨e, env, h, rfl, q⟩ := at_code hx (loop _ (by simp))
  simp only at q
  have hc := cmpL_find (a.l.zip b.l) 0
  revert q hc
  cases findL (fun _ (x : Int × Int) => if x.1 < x.2 then some (-1 : Int) else if x.2 < x.1 then some 1 else none) (a.l.zip b.l) 0 with
  | none => simp +contextual
  | some z => simp +contextual

/-! ### Valid -/
def evalid (e : Int) : Bool := decide (0 ≤ e) && decide (e ≤ 65535)
def mvalid (a : Mono) : Bool := a.l.all evalid
theorem all_find (p : Int → Bool) : ∀ (l : List Int) (i : Nat), (findL (fun _ x => if p x then none else some ()) l i).isNone = l.all p
  | [], _ => rfl
  | x :: l, i => by
    unfold findL
    cases h : p x <;> simp [h, all_find p l]
theorem r4valid_spec (a : Mono) : funD (cxT pp) 204 [.agg (ints a.l)] = some (.bool (mvalid a)) := by
  have hz := a.h
  have loop := loop_find (cx := cxT pp) (d := 0) (c := c204_0) a.l (fun _ x => if evalid x then none else some ())
    (fun i s => s.h.get ⟨0, 1⟩ = ⟨1, false, some (.cells ((ints a.l).map .p))⟩ ∧ s.env 1 = .ptr ⟨0, 1⟩ 1 0 ∧ s.env 3 = .p (.int .i64 i))
    (fun z a => a.1 = .ret ∧ a.2.env 2 = .p (.bool false)) (.ex 0) (by simp)
    (by
      rintro i ⟨env, h⟩ x rest hi hx hd ⟨g1, h1, h3⟩
      simp only at g1 h1 h3
      rw [hz] at hi
      have hw := inc_id hi (by omega)
      have hi' : (i : Int) < 8 := by omega
      have hi1 : i + 1 ≤ 8 := by omega
      by_cases c1 : x < 0
      · simp [c204_0, g1, h1, h3, hi, hi', hi1, hd, c1, evalid, show ¬ 0 ≤ x by omega]
      · by_cases c2 : 65535 < x
        · simp [c204_0, g1, h1, h3, hi, hi', hi1, hd, c1, c2, evalid, show ¬ x ≤ 65535 by omega]
        · simp [c204_0, g1, h1, h3, hi, hi', hi1, hd, c1, c2, evalid, hw, show 0 ≤ x by omega, show x ≤ 65535 by omega])
    (by
      rintro ⟨env, h⟩ ⟨g1, h1, h3⟩
      rw [hz] at h3
      simp only at g1 h1 h3
      simp [c204_0, g1, h1, h3])
  rw [fun_204]
  unfold closedD bodyD mvalid
  simp [fn204]
  generalize hx : codeD (cxT pp) 0 (ACode.loop c204_0) _ = X
  obtain ⟨e, env, h, rfl, q⟩ := at_code hx (loop _ (by simp))
  simp only at q
  have hc := all_find evalid a.l 0
  revert q hc
  cases findL (fun _ x => if evalid x then none else some ()) a.l 0 with
  | none => simp +contextual
  | some z => simp +contextual

/-! ### Degree -/
def mdeg (a : Mono) : Int := a.l.sum
theorem r4deg_spec (a : Mono) (ha : mvalid a = true) : funD (cxT pp) 205 [.agg (ints a.l)] = some (.int .i64 (mdeg a)) := by
  have hz := a.h
  have hv : ∀ x ∈ a.l, 0 ≤ x ∧ x ≤ 65535 := by
    intro x hx
    have := List.all_eq_true.1 ha x hx
    simpa [evalid] using this
  have loop := loop_fold (cx := cxT pp) (d := 0) (c := c205_0) a.l (fun (n : Int) x => n + x)
    (fun i n s => (0 ≤ n ∧ n ≤ 65535 * i) ∧ s.h.get ⟨0, 1⟩ = ⟨1, false, some (.cells ((ints a.l).map .p))⟩ ∧ s.env 1 = .ptr ⟨0, 1⟩ 1 0 ∧ s.env 3 = .p (.int .i64 n) ∧ s.env 4 = .p (.int .i64 i)) (.ex 0) (by simp)
    (by
      rintro i n ⟨env, h⟩ x rest hi hx hd ⟨hn, g1, h1, h3, h4⟩
      simp only at g1 h1 h3 h4
      have hxv := hv x (List.mem_of_getElem? hx)
      rw [hz] at hi
      have hw := inc_id hi (by omega)
      have hi' : (i : Int) < 8 := by omega
      have hi1 : i + 1 ≤ 8 := by omega
      have hs : IntKind.i64.wrap (n + x) = n + x := by rw [i64_id] <;> omega
      simp [c205_0, g1, h1, h3, h4, hi, hi', hi1, hd, hw, hs]
      omega)
    (by
      rintro n ⟨env, h⟩ ⟨hn, g1, h1, h3, h4⟩
      rw [hz] at h4 hn
      simp only at g1 h1 h3 h4
      simp [c205_0, g1, h1, h3, h4, hn, hz]
      omega)
  rw [fun_205]
  unfold closedD bodyD mdeg
  simp [fn205]
  generalize hx : codeD (cxT pp) 0 (ACode.loop c205_0) _ = X
  obtain ⟨e, env, h, rfl, q⟩ := at_code hx (loop 0 _ (by simp))
  simp only at q
  obtain ⟨rfl, -, -, -, q3, -⟩ := q
  have e : ∀ (l : List Int) (n : Int), l.foldl (fun n x => n + x) n = n + l.sum := by
    intro l; induction l with
    | nil => simp
    | cons x l ih => intro n; simp [ih, Int.add_assoc]
  rw [e] at q3
  simp [q3]

/-! ### Support -/
def supF : List Int → Nat → Nat
  | [], _ => 0
  | x :: l, i => (if 0 < x then 2 ^ i else 0) + supF l (i + 1)
/-- The variables that occur, as bits. -/
def msup (a : Mono) : Nat := supF a.l 0
theorem supF_fold : ∀ (l : List Int) (i : Nat) (n : Nat), foldI (fun i (n : Nat) (x : Int) => if 0 < x then n + 2 ^ i else n) l i n = n + supF l i
  | [], _, _ => by simp [foldI, supF]
  | x :: l, i, n => by
    simp only [foldI, supF, supF_fold l]
    split <;> omega
theorem u8_id {n : Int} (h0 : 0 ≤ n) (h1 : n < 256) : IntKind.u8.wrap n = n := by
  simp [IntKind.wrap, IntKind.bits, IntKind.signed]; omega
theorem r4sup_spec (a : Mono) : funD (cxT pp) 202 [.agg (ints a.l)] = some (.int .u8 (msup a : Nat)) := by
  have hz := a.h
  have loop := loop_foldI (cx := cxT pp) (d := 0) (c := c202_0) a.l (fun i (n : Nat) (x : Int) => if 0 < x then n + 2 ^ i else n)
    (fun i n s => n < 2 ^ i ∧ s.h.get ⟨0, 1⟩ = ⟨1, false, some (.cells ((ints a.l).map .p))⟩ ∧ s.env 1 = .ptr ⟨0, 1⟩ 1 0 ∧ s.env 3 = .p (.int .u8 (n : Nat)) ∧ s.env 4 = .p (.int .i64 i)) (.ex 0) (by simp)
    (by
      rintro i n ⟨env, h⟩ x rest hi hx hd ⟨hn, g1, h1, h3, h4⟩
      simp only at g1 h1 h3 h4
      rw [hz] at hi
      have hw := inc_id hi (by omega)
      have hi' : (i : Int) < 8 := by omega
      have hi1 : i + 1 ≤ 8 := by omega
      have hb := bit_spec (pp := pp) i hi
      have hp : (2 : Nat) ^ (i + 1) = 2 ^ i + 2 ^ i := by rw [Nat.pow_succ]; omega
      have h8 : (2 : Nat) ^ (i + 1) ≤ 2 ^ 8 := Nat.pow_le_pow_right (by decide) hi1
      have hs : IntKind.u8.wrap ((n : Int) + (2 ^ i : Nat)) = ((n + 2 ^ i : Nat) : Int) := by rw [u8_id] <;> omega
      by_cases c1 : 0 < x
      · simp [-Int.natCast_pow, c202_0, g1, h1, h3, h4, hi, hi', hi1, hd, c1, hw, hb, hs]
        omega
      · simp [c202_0, g1, h1, h3, h4, hi, hi', hi1, hd, c1, hw]
        omega)
    (by
      rintro n ⟨env, h⟩ ⟨hn, g1, h1, h3, h4⟩
      rw [hz] at h4 hn
      simp only at g1 h1 h3 h4
      simp [c202_0, g1, h1, h3, h4, hz]
      omega)
  rw [fun_202]
  unfold closedD bodyD msup
  simp [fn202]
  generalize hx : codeD (cxT pp) 0 (ACode.loop c202_0) _ = X
  obtain ⟨e, env, h, rfl, q⟩ := at_code hx (loop 0 _ (by simp))
  simp only at q
  obtain ⟨rfl, -, -, -, q3, -⟩ := q
  rw [supF_fold] at q3
  simp [q3]

/-! ### Mul, of 1 and a monomial -/
def mono1 : Mono := ⟨[0, 0, 0, 0, 0, 0, 0, 0], rfl⟩
theorem r4mul_spec (a : Mono) (ha : mvalid a = true) : funD (cxT pp) 189 [.agg (ints mono1.l), .agg (ints a.l)] = some (.tup [.agg (ints a.l), .int .i64 0]) := by
  have hz := a.h
  have hv : ∀ x ∈ a.l, 0 ≤ x ∧ x ≤ 65535 := by
    intro x hx
    have := List.all_eq_true.1 ha x hx
    simpa [evalid] using this
  have loop := loop_fold (cx := cxT pp) (d := 0) (c := c189_0) a.l (fun (acc : List Int) x => acc ++ [x])
    (fun i acc s => acc.length = i ∧ s.h.get ⟨0, 2⟩ = ⟨1, false, some (.cells ((ints (acc ++ List.replicate (8 - i) 0)).map .p))⟩ ∧ s.h.get ⟨0, 3⟩ = ⟨1, false, some (.cells ((ints a.l).map .p))⟩ ∧ s.h.get ⟨0, 4⟩ = ⟨1, false, some (.cells ((ints mono1.l).map .p))⟩ ∧
      s.env 2 = .ptr ⟨0, 2⟩ 1 0 ∧ s.env 3 = .ptr ⟨0, 3⟩ 1 0 ∧ s.env 4 = .ptr ⟨0, 4⟩ 1 0 ∧ s.env 6 = .p (.int .i64 i)) (.ex 0) (by simp)
    (by
      rintro i acc ⟨env, h⟩ x rest hi hx hd ⟨rfl, g2, g3, g4, h2, h3, h4, h6⟩
      simp only at g2 g3 g4 h2 h3 h4 h6
      have hxv := hv x (List.mem_of_getElem? hx)
      rw [hz] at hi
      have hw := inc_id hi (by omega)
      have hi' : (acc.length : Int) < 8 := by omega
      have hi1 : acc.length + 1 ≤ 8 := by omega
      have hs : IntKind.i64.wrap x = x := by rw [i64_id] <;> omega
      obtain ⟨k, hk⟩ : ∃ k, 8 - acc.length = k + 1 := ⟨8 - acc.length - 1, by omega⟩
      have hk2 : 8 - (acc.length + 1) = k := by omega
      simp [-Prod.exists, c189_0, g2, g3, g4, h2, h3, h4, h6, hi, hi', hi1, hd, hw, hs, hk, hk2, List.replicate_succ])
    (by
      rintro acc ⟨env, h⟩ ⟨hl, g2, g3, g4, h2, h3, h4, h6⟩
      rw [hz] at h6 hl g2
      simp only at g2 g3 g4 h2 h3 h4 h6
      simp [c189_0, g2, g3, g4, h2, h3, h4, h6, hz, hl])
  rw [fun_189]
  unfold closedD bodyD
  simp [fn189, mono1]
  generalize hx : codeD (cxT pp) 0 (ACode.loop c189_0) _ = X
  obtain ⟨e, env, h, rfl, q⟩ := at_code hx (loop [] _ (by simp [mono1]))
  simp only at q
  obtain ⟨rfl, -, q2, q3, q4, q5, q6, q7, -⟩ := q
  have e : ∀ (l acc : List Int), l.foldl (fun acc x => acc ++ [x]) acc = acc ++ l := by
    intro l; induction l with
    | nil => simp
    | cons x l ih => intro acc; simp [ih]
  rw [e] at q2
  have hvs := r4valid_spec (pp := pp) a
  rw [ha] at hvs
  simp [hz] at q2
  simp [q2, q3, q4, q5, q6, q7, hvs, mono1]
end Go.Va
end
section
open Go.Proofs
namespace Go.Va
variable {pp : Option PrimFn}

/-- All coefficients are small. -/
def Sm (n : Nat) (p : Poly) : Prop := ∀ t ∈ p, t.c.natAbs ≤ n
theorem mem_drop {α : Type} {l : List α} {i : Nat} {x : α} {r : List α} (h : l.drop i = x :: r) : x ∈ l := List.mem_of_mem_drop (i := i) (by rw [h]; exact List.mem_cons_self ..)
theorem mget {x : Mono} : x.l.length = 8 := x.h

/-! ### SameTerm, Same -/
theorem eqInts_ints : ∀ (a b : List Int), a.length = b.length → eqInts (ints a) (ints b) = some (decide (a = b))
  | [], [], _ => rfl
  | x :: a, y :: b, h => by
    have ih := eqInts_ints a b (by simpa using h)
    by_cases hxy : x = y
    · simp [ih, hxy]
    · simp [hxy]
@[simp] theorem eqInts_mono (a b : Mono) : eqInts (ints a.l) (ints b.l) = some (decide (a = b)) := by
  rw [eqInts_ints _ _ (by simp)]
  congr 1
  by_cases h : a = b
  · simp [h]
  · have : ¬ a.l = b.l := fun e => h (Mono.ext e)
    simp [h, this]
@[simp] theorem allInts_ints : ∀ (a : List Int), allInts (ints a) = true
  | [] => rfl
  | x :: a => by simp [allInts_ints a]

theorem r6sameterm_spec (a b : Term) (ha : a.c.natAbs ≤ 12) (hb : b.c.natAbs ≤ 12) : funD (cxT pp) 80 [.agg (cTerm a), .agg (cTerm b)] = some (.bool (decide (a = b))) := by
  have hs := r2same (pp := pp) a.c b.c ha hb
  rw [fun_80]
  unfold closedD bodyD
  by_cases hm : a.m = b.m
  · by_cases hc : a.c = b.c
    · have : a = b := by cases a; cases b; simp_all
      subst this
      simp [fn80, cTerm, hs]
    · have : ¬ a = b := fun e => hc (by rw [e])
      simp [fn80, cTerm, hs, this, hm, hc]
  · have : ¬ a = b := fun e => hm (by rw [e])
    simp [fn80, cTerm, hs, this, hm]

theorem r6same_spec (p q : Poly) (hp : Sm 12 p) (hq : Sm 12 q) (hl : p.length < 2 ^ 30) : funD (cxT pp) 34 [poly p, poly q] = some (.bool (decide (p = q))) := by
  rw [fun_34]
  unfold closedD bodyD
  by_cases hlen : p.length = q.length
  · have loop := loop_find (cx := cxT pp) (d := 0) (c := c34_0) (p.zip q) (fun _ (x : Term × Term) => if x.1 = x.2 then none else some ())
      (fun i s => s.h = Hp.none ∧ s.env 0 = .p (poly p) ∧ s.env 1 = .p (poly q) ∧ s.env 5 = .p (.int .i64 i))
      (fun z a => a.1 = .ret ∧ a.2.env 4 = .p (.bool false)) (.ex 0) (by simp)
      (by
        rintro i ⟨env, h⟩ ⟨x, y⟩ rest hi hx hd ⟨rfl, h0, h1, h5⟩
        simp only at h0 h1 h5
        simp [← hlen] at hi
        have hw := inc_id hi (by omega)
        obtain ⟨ra, rb, da, db⟩ := zip_drop' hd
        have hs := r6sameterm_spec (pp := pp) x y (hp x (mem_drop da)) (hq y (mem_drop db))
        have hi2 : i < q.length := by omega
        by_cases hxy : x = y
        · subst hxy
          simp [c34_0, h0, h1, h5, hi, hi2, da, db, hs, hw]
        · simp [c34_0, h0, h1, h5, hi, hi2, da, db, hs, hxy])
      (by
        rintro ⟨env, h⟩ ⟨rfl, h0, h1, h5⟩
        simp only at h0 h1 h5
        simp [← hlen] at h5
        simp [c34_0, h0, h1, h5, ← hlen])
    simp [fn34, hlen]
    generalize hx : codeD (cxT pp) 0 (ACode.loop c34_0) _ = X
    obtain ⟨e, env, h, rfl, q1⟩ := at_code hx (loop _ (by simp [hlen]))
    simp only at q1
    have key : ∀ (p q : Poly) (i : Nat), p.length = q.length → (findL (fun _ (x : Term × Term) => if x.1 = x.2 then none else some ()) (p.zip q) i).isNone = decide (p = q) := by
      intro p
      induction p with
      | nil => intro q i h; cases q <;> simp_all [findL]
      | cons a p ih =>
        intro q i h
        cases q with
        | nil => simp at h
        | cons b q =>
          have := ih q (i + 1) (by simpa using h)
          by_cases hab : a = b
          · simp [findL, hab, this]
          · simp [findL, hab]
    have hc := key p q 0 hlen
    revert q1 hc
    cases findL (fun _ (x : Term × Term) => if x.1 = x.2 then none else some ()) (p.zip q) 0 with
    | none => simp +contextual
    | some z => simp +contextual
  · have : ¬ p = q := fun e => hlen (by rw [e])
    have hl2 : ¬ ((p.length : Int) = q.length) := by omega
    simp [fn34, hl2, this]
end Go.Va
end
section
open Go.Proofs
namespace Go.Va
variable {pp : Option PrimFn}

/-! ### Valid -/
def tok (o : Option Mono) (t : Term) : Bool := !decide (t.c = 0) && mvalid t.m && (match o with | none => true | some m => decide (0 < mcmp m t.m))
def pvF : Option Mono → Poly → Bool
  | _, [] => true
  | o, t :: p => tok o t && pvF (some t.m) p
/-- Is a polynomial canonical? -/
def pvalid (p : Poly) : Bool := pvF none p
theorem pvF_run : ∀ (p : Poly) (i : Nat) (o : Option Mono), (match runL (fun _ o t => if tok o t then .inl (some t.m) else .inr ()) p i o with | .inl _ => true | .inr _ => false) = pvF o p
  | [], _, _ => rfl
  | t :: p, i, o => by
    unfold runL pvF
    cases h : tok o t
    · simp
    · simp [pvF_run p]
theorem sgn0 {z : Int} : (sgn z = 0) = (z = 0) := by
  unfold sgn; apply propext; split <;> (try split) <;> simp <;> omega

/-- What is known of the term before. -/
def PrevP (p : Poly) (i : Nat) (o : Option Mono) : Prop := (i = 0 ∧ o = none) ∨ ∃ k t0 r0, i = k + 1 ∧ p.drop k = t0 :: r0 ∧ o = some t0.m
set_option maxHeartbeats 1000000 in
theorem r6valid_spec (p : Poly) (hp : Sm 12 p) (hl : p.length < 2 ^ 30) : funD (cxT pp) 177 [poly p] = some (.bool (pvalid p)) := by
  have loop := loop_run (cx := cxT pp) (d := 0) (c := c177_0) p (fun _ (o : Option Mono) t => if tok o t then .inl (some t.m) else .inr ())
    (fun i o s => (s.h = Hp.none ∧ s.env 0 = .p (poly p) ∧ s.env 3 = .p (.int .i64 i)) ∧ PrevP p i o)
    (fun _ a => a.1 = .ret ∧ a.2.env 2 = .p (.bool false)) (.ex 0) (by simp)
    (by
      rintro i o ⟨env, h⟩ x rest hi hx hd ⟨⟨rfl, h0, h3⟩, ho⟩
      simp only at h0 h3
      have hw := inc_id hi (by omega)
      have hc := hp x (mem_drop hd)
      have k1 := r2valid (pp := pp) x.c hc
      have k2 := r2sign (pp := pp) x.c hc
      have k3 := r4valid_spec (pp := pp) x.m
      by_cases c1 : x.c = 0
      · have e : sgn x.c = 0 := by simp [c1, sgn]
        have ht : tok o x = false := by simp [tok, c1]
        rw [e] at k2
        simp [c177_0, h0, h3, hi, hd, cTerm, k1, k2, k3, ht]
      · cases c2 : mvalid x.m
        · simp [c177_0, h0, h3, hi, hd, cTerm, k1, k2, k3, sgn0, c1, c2, tok]
        · rcases ho with ⟨hi0, rfl⟩ | ⟨k, t0, r0, hk, hd0, rfl⟩
          · have e0 : ¬ (0 < i) := by omega
            have ht : tok none x = true := by simp [tok, c1, c2]
            have ho' : PrevP p (i + 1) (some x.m) := .inr ⟨i, x, rest, rfl, hd, rfl⟩
            simp [c177_0, h0, h3, hi, hd, cTerm, k1, k2, k3, sgn0, c1, c2, ht, hw, e0, ho']
          · have k4 := r4cmp_spec (pp := pp) t0.m x.m
            have e1 : IntKind.i64.wrap ((i : Int) - 1) = (k : Int) := by rw [i64_id] <;> omega
            have e2 : 0 < i := by omega
            have e3 : k < p.length := by omega
            have ho' : PrevP p (i + 1) (some x.m) := .inr ⟨i, x, rest, rfl, hd, rfl⟩
            by_cases c3 : 0 < mcmp t0.m x.m
            · have c3' : ¬ mcmp t0.m x.m ≤ 0 := by omega
              have ht : tok (some t0.m) x = true := by simp [tok, c1, c2, c3]
              simp [c177_0, h0, h3, hi, hd, hd0, cTerm, k1, k2, k3, k4, sgn0, c1, c2, c3', ht, hw, e1, e2, e3, ho']
            · have c3' : mcmp t0.m x.m ≤ 0 := by omega
              have ht : tok (some t0.m) x = false := by simp [tok, c3]
              simp [c177_0, h0, h3, hi, hd, hd0, cTerm, k1, k2, k3, k4, sgn0, c1, c2, c3', ht, e1, e2, e3])
    (by
      rintro o ⟨env, h⟩ ⟨⟨rfl, h0, h3⟩, ho⟩
      simp only at h0 h3
      simp [c177_0, h0, h3, ho])
  rw [fun_177]
  unfold closedD bodyD pvalid
  simp [fn177]
  generalize hx : codeD (cxT pp) 0 (ACode.loop c177_0) _ = X
  obtain ⟨e, env, h, rfl, q⟩ := at_code hx (loop none _ (by simp [PrevP]))
  simp only at q
  have hc := pvF_run p 0 none
  revert q hc
  cases runL (fun _ (o : Option Mono) t => if tok o t then .inl (some t.m) else .inr ()) p 0 none with
  | inl o =>
    rintro ⟨rfl, ⟨q2, -, -⟩, -⟩ hc
    simp [← hc]
  | inr u =>
    rintro ⟨rfl, q2⟩ hc
    simp [q2, ← hc]

/-! ### Degree -/
def pdeg (p : Poly) : Int := p.foldl (fun d t => max d (mdeg t.m)) (-1)
theorem r6deg_spec (p : Poly) (hv : ∀ t ∈ p, mvalid t.m = true) (hl : p.length < 2 ^ 30) : funD (cxT pp) 178 [poly p] = some (.int .i64 (pdeg p)) := by
  have loop := loop_fold (cx := cxT pp) (d := 0) (c := c178_0) p (fun (d : Int) t => max d (mdeg t.m))
    (fun i d s => s.h = Hp.none ∧ s.env 0 = .p (poly p) ∧ s.env 3 = .p (.int .i64 d) ∧ s.env 4 = .p (.int .i64 i)) (.ex 0) (by simp)
    (by
      rintro i d ⟨env, h⟩ x rest hi hx hd ⟨rfl, h0, h3, h4⟩
      simp only at h0 h3 h4
      have hw := inc_id hi (by omega)
      have k1 := r4deg_spec (pp := pp) x.m (hv x (mem_drop hd))
      by_cases c : d < mdeg x.m
      · have c' : max d (mdeg x.m) = mdeg x.m := by omega
        simp [c178_0, h0, h3, h4, hi, hd, cTerm, k1, hw, c, c']
      · have c' : max d (mdeg x.m) = d := by omega
        simp [c178_0, h0, h3, h4, hi, hd, cTerm, k1, hw, c, c'])
    (by
      rintro d ⟨env, h⟩ ⟨rfl, h0, h3, h4⟩
      simp only at h0 h3 h4
      simp [c178_0, h0, h3, h4])
  rw [fun_178]
  unfold closedD bodyD pdeg
  simp [fn178]
  generalize hx : codeD (cxT pp) 0 (ACode.loop c178_0) _ = X
  obtain ⟨e, env, h, rfl, q⟩ := at_code hx (loop (-1) _ (by simp))
  simp only at q
  obtain ⟨rfl, q2, -, q3, -⟩ := q
  simp [q3]

/-! ### Uses -/
theorem supF_lt : ∀ (l : List Int) (i : Nat), supF l i + 2 ^ i ≤ 2 ^ (i + l.length)
  | [], i => by simp [supF]
  | x :: l, i => by
    have := supF_lt l (i + 1)
    have e : (2 : Nat) ^ (i + 1) = 2 ^ i + 2 ^ i := by rw [Nat.pow_succ]; omega
    rw [show i + 1 + l.length = i + (x :: l).length by simp; omega] at this
    unfold supF
    generalize (2 : Nat) ^ (i + (x :: l).length) = B at *
    generalize (2 : Nat) ^ i = C at *
    split <;> omega
theorem msup_lt (a : Mono) : msup a < 256 := by
  have := supF_lt a.l 0
  simp at this
  unfold msup; omega
theorem or8 {a b : Nat} (ha : a < 256) (hb : b < 256) : IntKind.u8.wrap ((BitVec.ofInt IntKind.u8.bits (a : Int) ||| BitVec.ofInt IntKind.u8.bits (b : Int)).toNat : Int) = ((a ||| b : Nat) : Int) := by
  have h : a ||| b < 2 ^ 8 := Nat.or_lt_two_pow ha hb
  have e : (BitVec.ofInt IntKind.u8.bits (a : Int) ||| BitVec.ofInt IntKind.u8.bits (b : Int)).toNat = a ||| b := by
    have ea : (BitVec.ofInt IntKind.u8.bits (a : Int)).toNat = a := by simp [IntKind.bits]; omega
    have eb : (BitVec.ofInt IntKind.u8.bits (b : Int)).toNat = b := by simp [IntKind.bits]; omega
    rw [BitVec.toNat_or, ea, eb]
  rw [e, u8_id] <;> omega
theorem bin_or8 {a b : Nat} (ha : a < 256) (hb : b < 256) : binPV .or (.int .u8 (a : Int)) (.int .u8 (b : Int)) = some (.int .u8 ((a ||| b : Nat) : Int)) := by
  have := or8 ha hb
  simp only [binPV, if_true, this]
/-- The variables that a polynomial uses, as bits. -/
def puse (p : Poly) : Nat := p.foldl (fun n t => n ||| msup t.m) 0
theorem r6use_spec (p : Poly) (hl : p.length < 2 ^ 30) : funD (cxT pp) 172 [poly p] = some (.int .u8 (puse p : Nat)) := by
  have loop := loop_fold (cx := cxT pp) (d := 0) (c := c172_0) p (fun (n : Nat) t => n ||| msup t.m)
    (fun i n s => n < 256 ∧ s.h = Hp.none ∧ s.env 0 = .p (poly p) ∧ s.env 3 = .p (.int .u8 (n : Nat)) ∧ s.env 4 = .p (.int .i64 i)) (.ex 0) (by simp)
    (by
      rintro i n ⟨env, h⟩ x rest hi hx hd ⟨hn, rfl, h0, h3, h4⟩
      simp only at h0 h3 h4
      have hw := inc_id hi (by omega)
      have k1 := r4sup_spec (pp := pp) x.m
      have ho := bin_or8 hn (msup_lt x.m)
      have hlt : n ||| msup x.m < 2 ^ 8 := Nat.or_lt_two_pow hn (msup_lt x.m)
      simp [c172_0, h0, h3, h4, hi, hd, cTerm, k1, hw, ho]
      exact hlt)
    (by
      rintro d ⟨env, h⟩ ⟨hn, rfl, h0, h3, h4⟩
      simp only at h0 h3 h4
      simp [c172_0, h0, h3, h4, hn])
  rw [fun_172]
  unfold closedD bodyD puse
  simp [fn172]
  generalize hx : codeD (cxT pp) 0 (ACode.loop c172_0) _ = X
  obtain ⟨e, env, h, rfl, q⟩ := at_code hx (loop 0 _ (by simp))
  simp only at q
  obtain ⟨rfl, -, q2, -, q3, -⟩ := q
  simp [q3]
end Go.Va
end
section
open Go.Proofs
namespace Go.Va
variable {pp : Option PrimFn}

@[simp] theorem cTerm_ints (m : Mono) : (ints m.l).length = 8 := by simp

/-- c times p, where p's coefficients are 1. -/
def scale1 (c : Int) (p : Poly) : Poly := if c = 0 then [] else p.map fun t => ⟨c, t.m⟩
set_option maxHeartbeats 1000000 in
theorem r6times_spec (c : Int) (hc : c.natAbs ≤ 3) (p : Poly) (hp : ∀ t ∈ p, t.c = 1 ∧ mvalid t.m = true) (hl : p.length < 2 ^ 30) :
    funD (cxT pp) 154 [.agg (cRat c), .agg (ints mono1.l), poly p] = some (.tup [poly (scale1 c p), .int .i64 0]) := by
  have hs := r2sign (pp := pp) c (by omega)
  rw [fun_154]
  unfold closedD bodyD
  by_cases h0 : c = 0
  · have e : sgn c = 0 := by simp [sgn, h0]
    rw [e] at hs
    have e2 : scale1 c p = [] := by simp [scale1, h0]
    simp [fn154, mono1, hs, e2]
  · have e : sgn c ≠ 0 := by unfold sgn; split <;> (try split) <;> omega
    have loop := loop_fold (cx := cxT pp) (d := 0) (c := c154_0) p (fun (out : Poly) t => out ++ [⟨c, t.m⟩])
      (fun i out s => out.length = i ∧ Row s 8 ⟨0, 12⟩ 12 out.length (out.flatMap cTerm) ∧ s.env 2 = .p (poly p) ∧ s.env 9 = .p (.int .i64 i) ∧ s.env 3 = .ptr ⟨0, 3⟩ 1 0 ∧ s.env 4 = .ptr ⟨0, 4⟩ 1 0 ∧
        s.h.get ⟨0, 3⟩ = ⟨1, false, some (.cells ((cRat c).map .p))⟩ ∧ s.h.get ⟨0, 4⟩ = ⟨1, false, some (.cells ((ints mono1.l).map .p))⟩) (.ex 0) (by simp)
      (by
        rintro i out ⟨env, h⟩ x rest hi hx hd ⟨rfl, ⟨v, h8, g8⟩, h2, h9, h3, h4, g3, g4⟩
        simp only at h8 g8 h2 h9 h3 h4 g3 g4
        obtain ⟨x1, x2⟩ := hp x (mem_drop hd)
        have hw := inc_id hi (by omega)
        have hr := @roomy_ok (out.length + 1) 128 (by omega) (by decide)
        have k1 := r4mul_spec (pp := pp) x.m x2
        have k2 := r2mul (pp := pp) c hc
        simp [mono1] at k1 g4
        simp [cRat] at k2
        simp [-Prod.exists, c154_0, h8, g8, h2, h9, h3, h4, g3, g4, hi, hd, hw, hr, cTerm, k1, k2, x1, Row, mono1])
      (by
        rintro out ⟨env, h⟩ ⟨hl, ⟨v, h8, g8⟩, h2, h9, h3, h4, g3, g4⟩
        simp only at h8 g8 h2 h9 h3 h4 g3 g4
        simp [-Prod.exists, c154_0, h8, g8, h2, h9, h3, h4, g3, g4, Row, hl])
    have e2 : scale1 c p = p.map fun t => ⟨c, t.m⟩ := by simp [scale1, h0]
    have ef : ∀ (l : Poly) (out : Poly), l.foldl (fun (out : Poly) t => out ++ [⟨c, t.m⟩]) out = out ++ l.map fun t => ⟨c, t.m⟩ := by
      intro l; induction l with
      | nil => simp
      | cons x l ih => intro out; simp [ih]
    simp [fn154, mono1, hs, e]
    generalize hx : codeD (cxT pp) 0 (ACode.loop c154_0) _ = X
    obtain ⟨e, env, h, rfl, q⟩ := at_code hx (loop [] _ (by simp [Row, mono1]))
    simp only at q
    obtain ⟨rfl, -, ⟨v, q2, q3⟩, -⟩ := q
    rw [ef] at q2 q3
    simp only [List.nil_append] at q2 q3
    simp [q2, frz_row q3, e2]

theorem r6scale_spec (c : Int) (hc : c.natAbs ≤ 3) (p : Poly) (hp : ∀ t ∈ p, t.c = 1 ∧ mvalid t.m = true) (hl : p.length < 2 ^ 30) :
    funD (cxT pp) 103 [.agg (cRat c), poly p] = some (poly (scale1 c p)) := by
  have k := r6times_spec (pp := pp) c hc p hp hl
  simp [mono1] at k
  rw [fun_103]
  unfold closedD bodyD
  simp [fn103, k]

/-! ### Add -/
/-- The sum of polynomials. -/
def padd : Poly → Poly → Poly
  | [], q => q
  | a :: p, [] => a :: p
  | a :: p, b :: q =>
    if 0 < mcmp a.m b.m then a :: padd p (b :: q)
    else if mcmp a.m b.m < 0 then b :: padd (a :: p) q
    else if a.c + b.c = 0 then padd p q else ⟨a.c + b.c, a.m⟩ :: padd p q
  termination_by p q => p.length + q.length
theorem padd_nil (p : Poly) : padd p [] = p := by cases p <;> simp [padd]
structure AddSt where
  i : Nat
  k : Nat
  out : Poly
theorem loop_wf' {cx : Cx} {d : Nat} {c : ACode} {A : Type} (Inv : A → St → Prop) (Q : A → AExit × St → Prop) (μ : A → Nat)
    (step : ∀ (a : A) (s : St), Inv a s → (∃ a', μ a' < μ a ∧ (∀ r', Q a' r' → Q a r') ∧ ∃ r, codeD cx d c s = some r ∧ r.1 = .norm ∧ Inv a' r.2) ∨ (∃ r, codeD cx d c s = some r ∧ r.1 ≠ .norm ∧ Q a r)) :
    ∀ (a : A) (s : St), Inv a s → ∃ r, codeD cx d (.loop c) s = some r ∧ Q a r := by
  refine loop_wf Inv Q μ ?_
  intro a s h
  rcases step a s h with ⟨a', h1, h2, r, h3, h4, h5⟩ | ⟨r, h1, h2, h3⟩
  · exact ⟨r, h3, .inl ⟨h4, a', h1, h5, h2⟩⟩
  · exact ⟨r, h1, .inr ⟨h2, h3⟩⟩
theorem drop_lt {α : Type} {l : List α} {i : Nat} {x : α} {r : List α} (h : l.drop i = x :: r) : i < l.length := by
  have := congrArg List.length h
  simp at this; omega
theorem drop_next {α : Type} {l : List α} {i : Nat} {x : α} {r : List α} (h : l.drop i = x :: r) : l.drop (i + 1) = r := by
  rw [← List.drop_drop, h]; rfl
theorem drop_all {α : Type} {l : List α} {i : Nat} (hi : i ≤ l.length) (h : l.drop i = []) : i = l.length := by
  have := congrArg List.length h
  simp at this; omega

theorem nil_or {α : Type} (l : List α) : l = [] ∨ ∃ a r, l = a :: r := by cases l <;> simp
set_option maxHeartbeats 2000000 in
theorem r6add_spec (p q : Poly) (hs : ∀ a ∈ p, ∀ b ∈ q, mcmp a.m b.m = 0 → a.c.natAbs ≤ 9 ∧ b.c.natAbs ≤ 3) (hl : p.length < 2 ^ 29) (hl2 : q.length < 2 ^ 29) :
    funD (cxT pp) 102 [poly p, poly q] = some (poly (padd p q)) := by
  have loop :=
    loop_wf' (cx := cxT pp) (d := 0) (c := c102_0)
      (fun (a : AddSt) s => (a.i ≤ p.length ∧ a.k ≤ q.length ∧ a.out.length ≤ a.i + a.k) ∧ s.env 0 = .p (poly p) ∧ s.env 1 = .p (poly q) ∧ s.env 6 = .p (.int .i64 a.i) ∧ s.env 7 = .p (.int .i64 a.k) ∧ Row s 5 ⟨0, 9⟩ 12 a.out.length (a.out.flatMap cTerm))
      (fun a r => r.1 = .ex 0 ∧ Row r.2 5 ⟨0, 9⟩ 12 (a.out ++ padd (p.drop a.i) (q.drop a.k)).length ((a.out ++ padd (p.drop a.i) (q.drop a.k)).flatMap cTerm)) (fun a => (p.length - a.i) + (q.length - a.k))
      (by
        rintro ⟨i, k, out⟩ ⟨env, h⟩ ⟨⟨hi, hk, ho⟩, h0, h1, h6, h7, v, h5, g5⟩
        simp only at hi hk ho h0 h1 h6 h7 h5 g5
        have hr := @roomy_ok (out.length + 1) 128 (by omega) (by decide)
        obtain hp | ⟨a, rp, hp⟩ := nil_or (p.drop i)
        · have hi' := drop_all hi hp
          obtain hq | ⟨b, rq, hq⟩ := nil_or (q.drop k)
          · have hk' := drop_all hk hq
            refine .inr ?_
            simp [-Prod.exists, c102_0, h0, h1, h6, h7, hi', hk', padd, Row, h5, g5]
          · have hk' := drop_lt hq
            have hw := inc_id hk' (by omega)
            have hkn : ¬ ((k : Int) = q.length) := by omega
            have hkn' : ¬ k = q.length := by omega
            refine .inl ⟨⟨i, k + 1, out ++ [b]⟩, by simp; omega, by intro r' h; simp only at h ⊢; rw [show out ++ padd (p.drop i) (q.drop k) = (out ++ [b]) ++ padd (p.drop i) (q.drop (k + 1)) by simp [hp, hq, padd, padd_nil, drop_next hq]]; exact h, ?_⟩
            simp [-Prod.exists, c102_0, h0, h1, h6, h7, hi', hk', hkn, hkn', hq, hw, hr, h5, g5, Row, cTerm]
            omega
        · have hi' := drop_lt hp
          have hin : ¬ ((i : Int) = p.length) := by omega
          have hin' : ¬ i = p.length := by omega
          have hwi := inc_id hi' (by omega)
          obtain hq | ⟨b, rq, hq⟩ := nil_or (q.drop k)
          · have hk' := drop_all hk hq
            refine .inl ⟨⟨i + 1, k, out ++ [a]⟩, by simp; omega, by intro r' h; simp only at h ⊢; rw [show out ++ padd (p.drop i) (q.drop k) = (out ++ [a]) ++ padd (p.drop (i + 1)) (q.drop k) by simp [hp, hq, padd, padd_nil, drop_next hp]]; exact h, ?_⟩
            simp [-Prod.exists, c102_0, h0, h1, h6, h7, hi', hk', hin, hin', hp, hwi, hr, h5, g5, Row, cTerm]
            omega
          · have hk' := drop_lt hq
            have hkn : ¬ ((k : Int) = q.length) := by omega
            have hkn' : ¬ k = q.length := by omega
            have hwk := inc_id hk' (by omega)
            have kc := r4cmp_spec (pp := pp) a.m b.m
            by_cases c1 : 0 < mcmp a.m b.m
            · refine .inl ⟨⟨i + 1, k, out ++ [a]⟩, by simp; omega, by intro r' h; simp only at h ⊢; rw [show out ++ padd (p.drop i) (q.drop k) = (out ++ [a]) ++ padd (p.drop (i + 1)) (q.drop k) by simp [hp, hq, padd, padd_nil, drop_next hp, c1]]; exact h, ?_⟩
              simp [-Prod.exists, c102_0, h0, h1, h6, h7, hi', hk', hin, hkn, hin', hkn', hp, hq, hwi, hr, h5, g5, Row, cTerm, kc, c1]
              omega
            · by_cases c2 : mcmp a.m b.m < 0
              · refine .inl ⟨⟨i, k + 1, out ++ [b]⟩, by simp; omega, by intro r' h; simp only at h ⊢; rw [show out ++ padd (p.drop i) (q.drop k) = (out ++ [b]) ++ padd (p.drop i) (q.drop (k + 1)) by simp [hp, hq, padd, padd_nil, drop_next hq, c1, c2]]; exact h, ?_⟩
                simp [-Prod.exists, c102_0, h0, h1, h6, h7, hi', hk', hin, hkn, hin', hkn', hp, hq, hwk, hr, h5, g5, Row, cTerm, kc, c1, c2]
                omega
              · obtain ⟨b1, b2⟩ := hs a (mem_drop hp) b (mem_drop hq) (by omega)
                have ka := r2add (pp := pp) a.c b.c b1 b2
                have ks := r2sign (pp := pp) (a.c + b.c) (by omega)
                by_cases c3 : a.c + b.c = 0
                · have e : sgn (a.c + b.c) = 0 := by rw [c3]; rfl
                  refine .inl ⟨⟨i + 1, k + 1, out⟩, by simp; omega, by intro r' h; simp only at h ⊢; rw [show out ++ padd (p.drop i) (q.drop k) = out ++ padd (p.drop (i + 1)) (q.drop (k + 1)) by simp [hp, hq, padd, padd_nil, drop_next hp, drop_next hq, c1, c2, c3]]; exact h, ?_⟩
                  simp [-Prod.exists, c102_0, h0, h1, h6, h7, hi', hk', hin, hkn, hin', hkn', hp, hq, hwi, hwk, hr, h5, g5, Row, cTerm, kc, c1, c2, ka, ks, e]
                  omega
                · have e : ¬ sgn (a.c + b.c) = 0 := by unfold sgn; split <;> (try split) <;> omega
                  refine .inl ⟨⟨i + 1, k + 1, out ++ [⟨a.c + b.c, a.m⟩]⟩, by simp; omega, by intro r' h; simp only at h ⊢; rw [show out ++ padd (p.drop i) (q.drop k) = (out ++ [⟨a.c + b.c, a.m⟩]) ++ padd (p.drop (i + 1)) (q.drop (k + 1)) by simp [hp, hq, padd, padd_nil, drop_next hp, drop_next hq, c1, c2, c3]]; exact h, ?_⟩
                  simp [-Prod.exists, c102_0, h0, h1, h6, h7, hi', hk', hin, hkn, hin', hkn', hp, hq, hwi, hwk, hr, h5, g5, Row, cTerm, kc, c1, c2, ka, ks, e]
                  omega)
  rw [fun_102]
  unfold closedD bodyD
  simp [fn102]
  generalize hx : codeD (cxT pp) 0 (ACode.loop c102_0) _ = X
  obtain ⟨e, env, h, rfl, q⟩ := at_code hx (loop ⟨0, 0, []⟩ _ (by simp [Row]))
  simp only [List.drop_zero, List.nil_append] at q
  obtain ⟨rfl, v, q2, q3⟩ := q
  simp only at q2 q3
  simp [q2, frz_row q3]
end Go.Va
end
section
open Go.Proofs
namespace Go.Va
variable {pp : Option PrimFn}

theorem ite_get {c : Prop} [Decidable c] {h : Hp} {ks : List Key} {k : Key} : (if c then h else markRO h ks).get k = if k ∈ ks then (if c then h.get k else (h.get k).mark) else h.get k := by
  by_cases hc : c
  · simp [hc]
  · simp only [if_neg hc]; rfl
attribute [simp] ite_get

/-! ### abs -/
theorem abs_spec (e : Int) (h1 : -128 ≤ e) (h2 : e ≤ 127) : funD (cxT pp) 107 [.int .i8 e] = some (.int .i64 (e.natAbs : Int)) := by
  rw [fun_107]
  unfold closedD bodyD
  have e1 : IntKind.i64.wrap e = e := by rw [i64_id] <;> omega
  by_cases h : e < 0
  · have e2 : IntKind.i64.wrap (0 - e) = (e.natAbs : Int) := by rw [i64_id] <;> omega
    simp [-Int.zero_sub, fn107, h, e1, e2, unPV]
  · have e2 : e = (e.natAbs : Int) := by omega
    simp [fn107, h, e1]
    omega

/-! ### Raw polynomials -/
structure R5 where
  c : Int
  es : List Int
  h : es.length = 4
attribute [simp] R5.h
def int8s (l : List Int) : List PV := l.map fun z => .int .i8 z
@[simp] theorem int8s_len (l : List Int) : (int8s l).length = l.length := by simp [int8s]
@[simp] theorem int8s_er : ∀ (l : List Int), PV.erL (int8s l) = int8s l
  | [] => rfl
  | a :: l => by have := int8s_er l; simp only [int8s] at this; simp [int8s, PV.erL, PV.er, this]
@[simp] theorem int8s_drop (l : List Int) (i : Nat) : (int8s l).drop i = int8s (l.drop i) := by simp [int8s, List.map_drop]
@[simp] theorem int8s_cons (a : Int) (l : List Int) : int8s (a :: l) = .int .i8 a :: int8s l := rfl
theorem int8s_app_drop {l : List Int} {R : List PV} {n : Nat} (h : n ≤ l.length) : (int8s l ++ R).drop n = int8s (l.drop n) ++ R := by
  rw [List.drop_append_of_le_length (by simpa using h), int8s_drop]
def cR5 (r : R5) : List PV := .int .i8 r.c :: int8s r.es
@[simp] theorem cR5_len (t : R5) : (cR5 t).length = 5 := by simp [cR5]
@[simp] theorem cR5_er (t : R5) : PV.erL (cR5 t) = cR5 t := by simp [cR5]
@[simp high] theorem r5s_len (p : List R5) : (p.flatMap cR5).length = p.length * 5 := flat_len cR5_len p
@[simp] theorem r5s_drop (p : List R5) (i : Nat) : (p.flatMap cR5).drop (i * 5) = (p.drop i).flatMap cR5 := flat_drop cR5_len p i
@[simp] theorem r5s_er (p : List R5) : PV.erL (p.flatMap cR5) = p.flatMap cR5 := flat_er cR5_er p
abbrev RawP := List R5
/-- A raw polynomial's one cell. -/
@[simp] abbrev raw (x : RawP) : PV := sl cR5 x
@[simp] theorem raw_er (x : RawP) : (raw x).er = raw x := by simp [raw]
def I8 (z : Int) : Prop := -128 ≤ z ∧ z ≤ 127
def RawOK (x : RawP) : Prop := ∀ r ∈ x, I8 r.c ∧ ∀ e ∈ r.es, I8 e

/-! ### The exponents -/
def expoF : List Int → Int → List Int
  | [], _ => []
  | e :: es, left => ((e.natAbs : Int).tmod (left + 1)) :: expoF es (left - (e.natAbs : Int).tmod (left + 1))
theorem expoF_len : ∀ (l : List Int) (d : Int), (expoF l d).length = l.length
  | [], _ => rfl
  | e :: es, d => by simp [expoF, expoF_len es]
def leftF : List Int → Int → Int
  | [], d => d
  | e :: es, d => leftF es (d - (e.natAbs : Int).tmod (d + 1))
/-- The monomial of raw numbers. -/
def rmono (r : R5) (n : Nat) (deg : Int) : Mono := ⟨expoF (r.es.take n) deg ++ List.replicate (8 - (r.es.take n).length) 0, by simp [expoF_len]; omega⟩
theorem tmod_bd {e d : Int} (hd : 0 ≤ d) : 0 ≤ (e.natAbs : Int).tmod (d + 1) ∧ (e.natAbs : Int).tmod (d + 1) ≤ d := by
  rw [Int.tmod_eq_emod_of_nonneg (by omega)]
  have h1 := Int.emod_nonneg (e.natAbs : Int) (show d + 1 ≠ 0 by omega)
  have h2 := Int.emod_lt_of_pos (e.natAbs : Int) (show 0 < d + 1 by omega)
  omega

theorem expo_fold : ∀ (l : List Int) (acc : List Int) (d : Int), l.foldl (fun (a : List Int × Int) e => (a.1 ++ [(e.natAbs : Int).tmod (a.2 + 1)], a.2 - (e.natAbs : Int).tmod (a.2 + 1))) (acc, d) = (acc ++ expoF l d, leftF l d)
  | [], _, _ => by simp [expoF, leftF]
  | e :: l, acc, d => by simp [expo_fold l, expoF, leftF]

set_option maxHeartbeats 1000000 in
/-- The inner loop of Made. -/
theorem made_inner (x : RawP) (hx : RawOK x) (hxl : x.length < 2 ^ 63) (k : Nat) (r : R5) (rr : List R5) (hk : x.drop k = r :: rr) (n : Nat) (hn : n ≤ 4) (deg : Int) (hdg : 0 ≤ deg ∧ deg ≤ 13) (e9 : AV) (g14 : HE) (dg tm : Int) (s : St)
    (h : (∃ v, s.env 11 = .ptr ⟨0, 11⟩ v 0 ∧ s.h.get ⟨0, 11⟩ = ⟨v, false, some (.cells ((ints mono1.l).map .p))⟩) ∧ s.env 12 = .p (.int .i64 deg) ∧ s.env 13 = .p (.int .i64 0) ∧
      (s.env 10 = .p (.int .i64 k) ∧ s.env 4 = .ptr ⟨0, 4⟩ 1 0 ∧ s.h.get ⟨0, 4⟩ = ⟨1, false, some (.cells [.p (raw x)])⟩ ∧ s.env 1 = .p (.int .i64 n) ∧ s.env 9 = e9 ∧ s.h.get ⟨0, 14⟩ = g14 ∧ s.env 2 = .p (.int .i64 dg) ∧ s.env 3 = .p (.int .i64 tm))) :
    ∃ a, codeD (cxT pp) 0 (.loop c58_0) s = some a ∧ a.1 = .ex 2 ∧ (∃ v, a.2.env 11 = .ptr ⟨0, 11⟩ v 0 ∧ a.2.h.get ⟨0, 11⟩ = ⟨v, false, some (.cells ((ints (rmono r n deg).l).map .p))⟩) ∧
      (a.2.env 10 = .p (.int .i64 k) ∧ a.2.env 4 = .ptr ⟨0, 4⟩ 1 0 ∧ a.2.h.get ⟨0, 4⟩ = ⟨1, false, some (.cells [.p (raw x)])⟩ ∧ a.2.env 1 = .p (.int .i64 n) ∧ a.2.env 9 = e9 ∧ a.2.h.get ⟨0, 14⟩ = g14 ∧ a.2.env 2 = .p (.int .i64 dg) ∧ a.2.env 3 = .p (.int .i64 tm)) := by
  have hm : r ∈ x := mem_drop hk
  have hkl := drop_lt hk
  have hle : (r.es.take n).length = n := by simp; omega
  have := loop_fold (cx := cxT pp) (d := 0) (c := c58_0) (r.es.take n) (fun (a : List Int × Int) e => (a.1 ++ [(e.natAbs : Int).tmod (a.2 + 1)], a.2 - (e.natAbs : Int).tmod (a.2 + 1)))
    (fun i a s => (a.1.length = i ∧ 0 ≤ a.2 ∧ a.2 ≤ 13) ∧ (∃ v, s.env 11 = .ptr ⟨0, 11⟩ v 0 ∧ s.h.get ⟨0, 11⟩ = ⟨v, false, some (.cells ((ints (a.1 ++ List.replicate (8 - i) 0)).map .p))⟩) ∧ s.env 12 = .p (.int .i64 a.2) ∧ s.env 13 = .p (.int .i64 i) ∧
      (s.env 10 = .p (.int .i64 k) ∧ s.env 4 = .ptr ⟨0, 4⟩ 1 0 ∧ s.h.get ⟨0, 4⟩ = ⟨1, false, some (.cells [.p (raw x)])⟩ ∧ s.env 1 = .p (.int .i64 n) ∧ s.env 9 = e9 ∧ s.h.get ⟨0, 14⟩ = g14 ∧ s.env 2 = .p (.int .i64 dg) ∧ s.env 3 = .p (.int .i64 tm))) (.ex 2) (by simp)
    (by
      rintro i ⟨acc, left⟩ ⟨env, h⟩ e rest hi hx1 hd ⟨⟨hai, hl0, hl1⟩, ⟨v, h11, g11⟩, h12, h13, h10, h4, g4, h1, h9, hg14, h2, h3⟩
      simp only at hai
      subst hai
      simp only at hl0 hl1 h11 g11 h12 h13 h10 h4 g4 h1 h9 hg14 h2 h3
      rw [hle] at hi
      have he : e ∈ r.es := List.mem_of_mem_take (mem_drop hd)
      have hw := inc_id (show acc.length < 8 by omega) (by omega)
      have hw1 : IntKind.i64.wrap (1 + (acc.length : Int)) = ((acc.length + 1 : Nat) : Int) := by rw [i64_id] <;> omega
      have hw2 : IntKind.i64.wrap (left + 1) = left + 1 := by rw [i64_id] <;> omega
      have ht := tmod_bd (e := e) hl0
      have hw3 : IntKind.i64.wrap (left - (e.natAbs : Int).tmod (left + 1)) = left - (e.natAbs : Int).tmod (left + 1) := by rw [i64_id] <;> omega
      have ka := abs_spec (pp := pp) e ((hx r hm).2 e he).1 ((hx r hm).2 e he).2
      have hes : r.es.drop acc.length = e :: r.es.drop (acc.length + 1) := by
        have hge : r.es[acc.length]? = some e := by
          rw [List.getElem?_take] at hx1
          by_cases hh : acc.length < n
          · rwa [if_pos hh] at hx1
          · rw [if_neg hh] at hx1; cases hx1
        have hlt : acc.length < r.es.length := by simp; omega
        rw [List.getElem?_eq_getElem hlt] at hge
        rw [List.drop_eq_getElem_cons hlt]
        rw [Option.some.inj hge]
      have hi4 : acc.length < 4 := by omega
      have hi5 : acc.length + 1 < 5 := by omega
      have hi8 : acc.length < 8 := by omega
      have hl2 : ¬ (left + 1 = 0) := by omega
      have hi4' : (acc.length : Int) < 4 := by omega
      have hi5' : (acc.length : Int) + 1 < 5 := by omega
      have hi8' : (acc.length : Int) < 8 := by omega
      have hi9 : (0 : Int) ≤ (acc.length : Int) + 1 := by omega
      obtain ⟨j, hj⟩ : ∃ j, 8 - acc.length = j + 1 := ⟨8 - acc.length - 1, by omega⟩
      have hj2 : 8 - (acc.length + 1) = j := by omega
      simp [-Prod.exists, c58_0, h11, g11, h12, h13, h10, h4, g4, h1, h9, hg14, h2, h3, hi, hi4, hi5, hi8, hi4', hi5', hi8', hi9, int8s_app_drop (show acc.length ≤ r.es.length by simp; omega), hw, hw1, hw2, hw3, hk, hkl, raw, cR5, hes, ka, hl2, hj, hj2, List.replicate_succ]
      omega)
    (by
      rintro ⟨acc, left⟩ ⟨env, h⟩ ⟨⟨hal, hl0, hl1⟩, ⟨v, h11, g11⟩, h12, h13, h10, h4, g4, h1, h9, hg14, h2, h3⟩
      rw [hle] at hal h13 g11
      simp only at hal hl0 hl1 h11 g11 h12 h13 h10 h4 g4 h1 h9 hg14 h2 h3
      simp [-Prod.exists, c58_0, h11, g11, h12, h13, h10, h4, g4, h1, h9, hg14, h2, h3, hal, hle, hl0, hl1])
    ([], deg) s (by
      obtain ⟨⟨v, h11, g11⟩, h12, h13, hrest⟩ := h
      refine ⟨⟨rfl, hdg⟩, ⟨v, h11, ?_⟩, h12, by simpa using h13, hrest⟩
      rw [g11]; rfl)
  obtain ⟨a, q1, q2, -, ⟨v, q3, q4⟩, -, -, q5⟩ := this
  rw [expo_fold] at q4
  refine ⟨a, q1, q2, ⟨v, q3, ?_⟩, q5⟩
  rw [q4]
  simp [rmono]

/-! ### The sum -/
theorem padd_sm {a b : Nat} : ∀ (p q : Poly), Sm a p → Sm b q → Sm (a + b) (padd p q)
  | [], q, _, hq => by
    simp only [padd]; intro t ht; have := hq t ht; omega
  | x :: p, [], hp, _ => by
    simp only [padd]; intro t ht; have := hp t ht; omega
  | x :: p, y :: q, hp, hq => by
    have hx := hp x (by simp)
    have hy := hq y (by simp)
    have i1 := padd_sm p (y :: q) (fun t h => hp t (by simp [h])) hq
    have i2 := padd_sm (x :: p) q hp (fun t h => hq t (by simp [h]))
    have i3 := padd_sm p q (fun t h => hp t (by simp [h])) (fun t h => hq t (by simp [h]))
    rw [padd]
    split
    · intro t ht
      rcases List.mem_cons.1 ht with rfl | ht
      · omega
      · exact i1 t ht
    · split
      · intro t ht
        rcases List.mem_cons.1 ht with rfl | ht
        · omega
        · exact i2 t ht
      · split
        · exact i3
        · intro t ht
          rcases List.mem_cons.1 ht with rfl | ht
          · show (x.c + y.c).natAbs ≤ a + b
            omega
          · exact i3 t ht
  termination_by p q => p.length + q.length
theorem padd_len : ∀ (p q : Poly), (padd p q).length ≤ p.length + q.length
  | [], q => by simp [padd]
  | x :: p, [] => by simp [padd]
  | x :: p, y :: q => by
    have i1 := padd_len p (y :: q)
    have i2 := padd_len (x :: p) q
    have i3 := padd_len p q
    simp only [List.length_cons] at i1 i2 ⊢
    rw [padd]
    split
    · simp only [List.length_cons]; omega
    · split
      · simp only [List.length_cons]; omega
      · split
        · omega
        · simp only [List.length_cons]; omega
  termination_by p q => p.length + q.length

theorem expo_nonneg : ∀ (l : List Int) (d : Int), 0 ≤ d → ∀ x ∈ expoF l d, 0 ≤ x ∧ x ≤ d
  | [], _, _, x, hx => by simp [expoF] at hx
  | e :: es, d, hd, x, hx => by
    have := tmod_bd (e := e) hd
    simp only [expoF, List.mem_cons] at hx
    rcases hx with rfl | hx
    · exact this
    · have h2 := expo_nonneg es (d - (e.natAbs : Int).tmod (d + 1)) (by omega) x hx
      omega
theorem rmono_valid (r : R5) (n : Nat) (d : Int) (h0 : 0 ≤ d) (h1 : d ≤ 13) : mvalid (rmono r n d) = true := by
  unfold mvalid
  rw [List.all_eq_true]
  intro x hx
  simp only [rmono, List.mem_append, List.mem_replicate] at hx
  rcases hx with hx | ⟨-, rfl⟩
  · have := expo_nonneg _ _ h0 x hx
    simp [evalid]; omega
  · rfl

/-- One more term. -/
def madd (n : Nat) (deg : Int) (out : Poly) (r : R5) : Poly := padd out (scale1 (r.c.tmod 4) [⟨1, rmono r n deg⟩])
/-- The polynomial of raw numbers. -/
def made (x : RawP) (n : Nat) (deg : Int) (terms : Nat) : Poly := (x.take terms).foldl (madd n deg) []
theorem tmod4 (c : Int) : (c.tmod 4).natAbs ≤ 3 := by
  rw [Int.natAbs_tmod]
  have := Nat.mod_lt c.natAbs (show 0 < (4 : Int).natAbs by decide)
  simp only [Int.reduceAbs] at this ⊢
  omega
theorem scale1_sm (c : Int) (hc : c.natAbs ≤ 3) (p : Poly) : Sm 3 (scale1 c p) := by
  unfold scale1
  split
  · intro t ht; simp at ht
  · intro t ht
    simp only [List.mem_map] at ht
    obtain ⟨u, -, rfl⟩ := ht
    exact hc
theorem scale1_len (c : Int) (p : Poly) : (scale1 c p).length ≤ p.length := by
  unfold scale1; split <;> simp

/-- The sum as it stands: a value, or the new row that is still empty. -/
def Out9 (s : St) (out : Poly) : Prop := s.env 9 = .p (poly out) ∨ (out = [] ∧ s.env 9 = .ref ⟨0, 14⟩ 1 0 0 12 false ∧ s.h.get ⟨0, 14⟩ = ⟨1, false, some (.cells [])⟩)

set_option maxHeartbeats 2000000 in
theorem made_spec (x : RawP) (hx : RawOK x) (hxl : x.length < 2 ^ 63) (n : Nat) (hn : n ≤ 4) (deg : Int) (hdg : 0 ≤ deg ∧ deg ≤ 13) (terms : Nat) (ht : terms ≤ 4) :
    funD (cxT pp) 58 [.agg [raw x], .int .i64 n, .int .i64 deg, .int .i64 terms] = some (poly (made x n deg terms)) := by
  have loop := loop_fold (cx := cxT pp) (d := 0) (c := c58_1) (x.take terms) (madd n deg)
    (fun i out s => (Sm (3 * i) out ∧ out.length ≤ i) ∧ Out9 s out ∧ (s.env 10 = .p (.int .i64 i) ∧ s.env 4 = .ptr ⟨0, 4⟩ 1 0 ∧ s.h.get ⟨0, 4⟩ = ⟨1, false, some (.cells [.p (raw x)])⟩ ∧ s.env 1 = .p (.int .i64 n) ∧ s.env 2 = .p (.int .i64 deg) ∧ s.env 3 = .p (.int .i64 terms))) (.ex 0) (by simp)
    (by
      rintro i out ⟨env, h⟩ r rest hi hx1 hd ⟨⟨hsm, hol⟩, hout, h10, h4, g4, h1, h2, h3⟩
      simp only at h10 h4 g4 h1 h2 h3
      have hi' : i < x.length ∧ i < terms := by simp at hi; omega
      have hi1 : (i : Int) < x.length := by omega
      have hi2 : (i : Int) < terms := by omega
      have hk : ∃ rr, x.drop i = r :: rr := by
        have hge : x[i]? = some r := by
          rw [List.getElem?_take] at hx1
          rwa [if_pos hi'.2] at hx1
        rw [List.getElem?_eq_getElem hi'.1] at hge
        exact ⟨x.drop (i + 1), by rw [List.drop_eq_getElem_cons hi'.1, Option.some.inj hge]⟩
      obtain ⟨rr, hk⟩ := hk
      have hw := inc_id hi'.1 hxl
      have inner := fun e9 g14 s => made_inner (pp := pp) x hx hxl i r rr hk n hn deg hdg e9 g14 deg terms s
      have kc := tmod4 r.c
      have kw := r2whole (pp := pp) (r.c.tmod 4) (by omega)
      have kw1 := r2whole (pp := pp) 1 (by decide)
      have hwc : IntKind.i64.wrap (r.c.tmod 4) = r.c.tmod 4 := by rw [i64_id] <;> omega
      have ks := r6scale_spec (pp := pp) (r.c.tmod 4) kc [⟨1, rmono r n deg⟩] (by simp [rmono_valid r n deg hdg.1 hdg.2]) (by simp)
      have ka := r6add_spec (pp := pp) out (scale1 (r.c.tmod 4) [⟨1, rmono r n deg⟩]) (by
        intro a ha b hb _
        have h1 := hsm a ha
        have h2 := scale1_sm _ kc _ b hb
        omega) (by omega) (by have := scale1_len (r.c.tmod 4) [⟨1, rmono r n deg⟩]; simp at this; omega)
      have hsm2 : Sm (3 * (i + 1)) (madd n deg out r) := padd_sm out _ hsm (scale1_sm _ kc _)
      have hol2 : (madd n deg out r).length ≤ i + 1 := by
        have h1 := padd_len out (scale1 (r.c.tmod 4) [⟨1, rmono r n deg⟩])
        have h2 := scale1_len (r.c.tmod 4) [⟨1, rmono r n deg⟩]
        simp at h2
        unfold madd
        omega
      simp [cTerm, cRat] at ks kw1 kw
      have hmadd : padd out (scale1 (r.c.tmod 4) [⟨1, rmono r n deg⟩]) = madd n deg out r := rfl
      rw [hmadd] at ka
      generalize hS : scale1 (r.c.tmod 4) [⟨1, rmono r n deg⟩] = S at *
      simp [-Prod.exists, c58_1, raw, h10, h4, g4, h1, h2, h3, hi1, hi2]
      generalize hX : codeD (cxT pp) 0 (ACode.loop c58_0) _ = X
      rcases hout with hout | ⟨rfl, hout, hg14⟩
      · simp only at hout
        obtain ⟨e, env', h', rfl, q⟩ := at_code hX (inner (.p (poly out)) (h.get ⟨0, 14⟩) _ (by simp [h10, h4, g4, h1, h2, h3, hout, mono1, raw]))
        simp only at q
        obtain ⟨rfl, ⟨v, q1, q2⟩, q3, q4, q5, q6, q7, q8, q9, q10⟩ := q
        simp [-Prod.exists, q1, q2, q3, q4, q5, q6, q7, q8, q9, q10, hi'.1, hi1, hk, raw, cR5, hwc, kw, kw1, ks, ka, hw, hsm2, hol2, Out9]
      · simp only at hout hg14
        obtain ⟨e, env', h', rfl, q⟩ := at_code hX (inner (.ref ⟨0, 14⟩ 1 0 0 12 false) ⟨1, false, some (.cells [])⟩ _ (by simp [h10, h4, g4, h1, h2, h3, hout, hg14, mono1, raw]))
        simp only at q
        obtain ⟨rfl, ⟨v, q1, q2⟩, q3, q4, q5, q6, q7, q8, q9, q10⟩ := q
        simp at ka
        simp [-Prod.exists, q1, q2, q3, q4, q5, q6, q7, q8, q9, q10, hi'.1, hi1, hk, raw, cR5, hwc, kw, kw1, ks, ka, hw, hsm2, hol2, Out9])
    (by
      rintro out ⟨env, h⟩ ⟨⟨hsm, hol⟩, hout, h10, h4, g4, h1, h2, h3⟩
      simp only at h10 h4 g4 h1 h2 h3
      have hc : ¬ ((x.length : Int) < x.length ∧ (x.length : Int) < terms) := by omega
      by_cases hlt : x.length ≤ terms
      · have e1 : min terms x.length = x.length := by omega
        simp [e1] at h10
        simp only [List.length_take, e1] at hsm hol
        simp [-Prod.exists, c58_1, raw, h10, h4, g4, h1, h2, h3, e1, hsm, hol]
        simpa [Out9] using hout
      · have e1 : min terms x.length = terms := by omega
        have e2 : (terms : Int) < x.length := by omega
        simp [e1] at h10
        simp only [List.length_take, e1] at hsm hol
        simp [-Prod.exists, c58_1, raw, h10, h4, g4, h1, h2, h3, e1, e2, hsm, hol]
        simpa [Out9] using hout)
  rw [fun_58]
  unfold closedD bodyD made
  simp [fn58]
  generalize hX : codeD (cxT pp) 0 (ACode.loop c58_1) _ = X
  obtain ⟨e, env, h, rfl, q⟩ := at_code hX (loop [] _ (by simp [Out9, Sm]))
  simp only at q
  obtain ⟨rfl, -, q, -⟩ := q
  rcases q with q | ⟨q1, q2, q3⟩
  · simp only at q
    simp [q]
  · simp only at q2 q3
    simp [q1, q2, q3]
end Go.Va
end
section
open Go.Proofs
namespace Go.Va
variable {pp : Option PrimFn}

/-! ### letter, Name -/
def letter (b : Int) : Bool := (decide (65 ≤ b) && decide (b ≤ 90)) || (decide (97 ≤ b) && decide (b ≤ 122))
theorem letter_spec (b : Int) : funD (cxT pp) 142 [.int .u8 b] = some (.bool (letter b)) := by
  rw [fun_142]
  unfold closedD bodyD letter
  by_cases h1 : 65 ≤ b
  · by_cases h2 : b ≤ 90
    · simp [fn142, h1, h2]
    · by_cases h3 : 97 ≤ b <;> simp [fn142, h1, h2, h3]
  · by_cases h3 : 97 ≤ b <;> simp [fn142, h1, h3]

/-! ### index, is, has -/
def indexF (l : List ByteArray) (b : ByteArray) : Int := (findL (fun i (x : ByteArray) => if x = b then some (i : Int) else none) l 0).getD (-1)
/-- The index of a name, or -1. -/
def index (s : Sys) (b : ByteArray) : Int := indexF s.vars b
theorem index_spec (s : Sys) (hl : s.vars.length < 2 ^ 30) (b : ByteArray) : funD (cxT pp) 131 [.agg (cSys s), .str b] = some (.int .i64 (index s b)) := by
  have loop := loop_find (cx := cxT pp) (d := 0) (c := c131_0) s.vars (fun i (x : ByteArray) => if x = b then some (i : Int) else none)
    (fun i st => st.h.get ⟨0, 2⟩ = ⟨1, false, some (.cells ((cSys s).map .p))⟩ ∧ st.env 2 = .ptr ⟨0, 2⟩ 1 0 ∧ st.env 1 = .p (.str b) ∧ st.env 5 = .p (.int .i64 i))
    (fun z a => a.1 = .ret ∧ a.2.env 4 = .p (.int .i64 z)) (.ex 0) (by simp)
    (by
      rintro i ⟨env, h⟩ x rest hi hx hd ⟨g2, h2, h1, h5⟩
      simp only at g2 h2 h1 h5
      have hw := inc_id hi (by omega)
      by_cases hid : x = b
      · simp [c131_0, g2, h2, h1, h5, hi, hd, hid]
      · simp [c131_0, g2, h2, h1, h5, hi, hd, hid, hw])
    (by
      rintro ⟨env, h⟩ ⟨g2, h2, h1, h5⟩
      simp only at g2 h2 h1 h5
      simp [c131_0, g2, h2, h1, h5])
  rw [fun_131]
  unfold closedD bodyD index indexF
  simp [fn131]
  generalize hx : codeD (cxT pp) 0 (ACode.loop c131_0) _ = X
  obtain ⟨e, env, h, rfl, q⟩ := at_code hx (loop _ (by simp))
  simp only at q
  revert q
  cases findL (fun i (x : ByteArray) => if x = b then some (i : Int) else none) s.vars 0 with
  | none => simp +contextual
  | some z => simp +contextual

def isV (s : Sys) (i : Int) : Bool := decide (0 ≤ i) && decide (i < s.vars.length)
theorem is_spec (s : Sys) (i : Int) : funD (cxT pp) 132 [.agg (cSys s), .int .i64 i] = some (.bool (isV s i)) := by
  rw [fun_132]
  unfold closedD bodyD isV
  by_cases h : 0 ≤ i <;> simp [fn132, h]

def has (s : Sys) (id : Int) : Bool := decide (0 ≤ find s.eqs id) || decide (0 ≤ find s.neqs id)
theorem has_spec (s : Sys) (h1 : s.eqs.length < 2 ^ 30) (h2 : s.neqs.length < 2 ^ 30) (id : Int) : funD (cxT pp) 173 [.agg (cSys s), .int .i64 id] = some (.bool (has s id)) := by
  have k1 := find_spec (pp := pp) s.eqs h1 id
  have k2 := find_spec (pp := pp) s.neqs h2 id
  rw [fun_173]
  unfold closedD bodyD has
  by_cases h : 0 ≤ find s.eqs id <;> simp [fn173, k1, k2, h]

/-! ### put -/
/-- The list with an equation at its place. -/
def putF (x : Eqn) : List Eqn → Bool → List Eqn
  | [], done => if done then [] else [x]
  | y :: l, done => (if !done && decide (x.id ≤ y.id) then [x] else []) ++ (if y.id = x.id then [] else [y]) ++ putF x l (done || decide (x.id ≤ y.id))
def put (l : List Eqn) (x : Eqn) : List Eqn := putF x l false
def putG (x : Eqn) (a : List Eqn × Bool) (y : Eqn) : List Eqn × Bool :=
  (a.1 ++ (if !a.2 && decide (x.id ≤ y.id) then [x] else []) ++ (if y.id = x.id then [] else [y]), a.2 || decide (x.id ≤ y.id))
theorem putF_fold (x : Eqn) : ∀ (l : List Eqn) (a : List Eqn × Bool), (l.foldl (putG x) a).1 ++ (if (l.foldl (putG x) a).2 then [] else [x]) = a.1 ++ putF x l a.2
  | [], a => by
    obtain ⟨o, dn⟩ := a
    cases dn <;> rfl
  | y :: l, a => by
    rw [List.foldl_cons, putF_fold x l]
    simp [putG, putF]
theorem put_spec (l : List Eqn) (hl : l.length < 2 ^ 29) (x : Eqn) : funD (cxT pp) 137 [sl cEqn l, .agg (cEqn x)] = some (sl cEqn (put l x)) := by
  have loop := loop_fold (cx := cxT pp) (d := 0) (c := c137_0) l (putG x)
    (fun i (a : List Eqn × Bool) s => a.1.length ≤ 2 * i ∧ Row s 5 ⟨0, 8⟩ 2 a.1.length (a.1.flatMap cEqn) ∧ s.env 0 = .p (sl cEqn l) ∧ s.env 6 = .p (.bool a.2) ∧ s.env 7 = .p (.int .i64 i) ∧ s.env 3 = .ptr ⟨0, 3⟩ 1 0 ∧
      s.h.get ⟨0, 3⟩ = ⟨1, false, some (.cells ((cEqn x).map .p))⟩) (.ex 0) (by simp)
    (by
      rintro i ⟨out, dn⟩ ⟨env, h⟩ y rest hi hx hd ⟨hle, ⟨v, h5, g5⟩, h0, h6, h7, h3, g3⟩
      simp only at hle h5 g5 h0 h6 h7 h3 g3
      have hw := inc_id hi (by omega)
      have hr := @roomy_ok (out.length + 1) 32 (by omega) (by decide)
      have hr2 := @roomy_ok (out.length + 1 + 1) 32 (by omega) (by decide)
      have hm : (out.length + 1) * 2 = out.length * 2 + 2 := by omega
      cases dn with
      | true =>
        by_cases c2 : y.id = x.id
        · simp [-Prod.exists, c137_0, h5, g5, h0, h6, h7, h3, g3, hi, hd, hm, hw, hr, hr2, cEqn, Row, putG, c2]
          omega
        · simp [-Prod.exists, c137_0, h5, g5, h0, h6, h7, h3, g3, hi, hd, hm, hw, hr, hr2, cEqn, Row, putG, c2]
          omega
      | false =>
        by_cases c1 : x.id ≤ y.id
        · by_cases c2 : y.id = x.id
          · simp [-Prod.exists, c137_0, h5, g5, h0, h6, h7, h3, g3, hi, hd, hm, hw, hr, hr2, cEqn, Row, putG, c2]
            omega
          · simp [-Prod.exists, c137_0, h5, g5, h0, h6, h7, h3, g3, hi, hd, hm, hw, hr, hr2, cEqn, Row, putG, c1, c2]
            omega
        · have c2 : ¬ y.id = x.id := by omega
          simp [-Prod.exists, c137_0, h5, g5, h0, h6, h7, h3, g3, hi, hd, hm, hw, hr, hr2, cEqn, Row, putG, c1, c2]
          omega)
    (by
      rintro ⟨out, dn⟩ ⟨env, h⟩ ⟨hle, ⟨v, h5, g5⟩, h0, h6, h7, h3, g3⟩
      simp only at hle h5 g5 h0 h6 h7 h3 g3
      simp [-Prod.exists, c137_0, h5, g5, h0, h6, h7, h3, g3, Row, hle])
  have hf := putF_fold x l ([], false)
  rw [fun_137]
  unfold closedD bodyD put
  simp [fn137]
  generalize hx : codeD (cxT pp) 0 (ACode.loop c137_0) _ = X
  obtain ⟨e, env, h, rfl, q⟩ := at_code hx (loop ([], false) _ (by simp [Row, cEqn]))
  simp only at q
  revert q hf
  generalize l.foldl (putG x) ([], false) = A
  obtain ⟨out, dn⟩ := A
  rintro hf ⟨rfl, hle, ⟨v, q2, q3⟩, -, q4, -, q5, q6⟩
  simp only at q2 q3 q4 q5 q6 hf hle
  have hr := @roomy_ok (out.length + 1) 32 (by omega) (by decide)
  have hm : (out.length + 1) * 2 = out.length * 2 + 2 := by omega
  cases dn with
  | true =>
    simp at hf
    simp [q2, frz_row q3, q4, ← hf]
  | false =>
    simp at hf
    simp [q2, q3, q4, q5, q6, ← hf, hr, hm, cEqn]
end Go.Va
end
section
open Go.Proofs
namespace Go.Va
variable {pp : Option PrimFn}

/-! ### What is known of data -/
/-- A polynomial of small coefficients and good exponents. -/
def PW (p : Poly) : Prop := Sm 12 p ∧ (∀ t ∈ p, mvalid t.m = true) ∧ p.length < 2 ^ 20
def EW (l : List Eqn) : Prop := l.length ≤ 12 ∧ ∀ e ∈ l, PW e.p
structure SW (s : Sys) : Prop where
  vars : s.vars.length ≤ 4
  eqs : EW s.eqs
  neqs : EW s.neqs
  lo : 0 ≤ s.next
  hi : s.next ≤ 2 ^ 20
theorem puse_lt (p : Poly) : puse p < 256 := by
  have : ∀ (l : Poly) (n : Nat), n < 256 → l.foldl (fun n t => n ||| msup t.m) n < 256 := by
    intro l
    induction l with
    | nil => intro n h; exact h
    | cons t l ih => intro n h; exact ih _ (Nat.or_lt_two_pow (n := 8) h (msup_lt t.m))
  exact this p 0 (by decide)

/-! ### fits -/
def fits (p : Poly) (n : Nat) : Bool := pvalid p && decide ((puse p : Int).fdiv (2 ^ n) = 0) && decide (pdeg p ≤ 12)
theorem use64 (p : Poly) : IntKind.i64.wrap (puse p : Int) = (puse p : Int) := by
  have := puse_lt p
  rw [i64_id] <;> omega
theorem fits_spec (p : Poly) (hp : PW p) (n : Nat) (hn : n ≤ 4) : funD (cxT pp) 174 [poly p, .int .i64 n] = some (.bool (fits p n)) := by
  obtain ⟨h1, h2, h3⟩ := hp
  have k1 := r6valid_spec (pp := pp) p h1 (by omega)
  have k2 := r6use_spec (pp := pp) p (by omega)
  have k3 := r6deg_spec (pp := pp) p h2 (by omega)
  have hu := use64 p
  have hmin : min n 64 = n := by omega
  have hneg : ¬ ((n : Int) < 0) := by omega
  rw [fun_174]
  unfold closedD bodyD fits
  cases c1 : pvalid p
  · simp [fn174, k1, c1]
  · by_cases c2 : (puse p : Int).fdiv (2 ^ n) = 0
    · simp [fn174, k1, k2, k3, c1, c2, hu, hmin, hneg, IntKind.bits]
    · simp [fn174, k1, k2, k3, c1, c2, hu, hmin, hneg, IntKind.bits]

/-! ### used -/
def usedP (i : Int) (p : Poly) : Bool := decide (((puse p : Int).fdiv (2 ^ i.toNat)).tmod 2 = 1)
def used (s : Sys) (i : Int) : Bool := s.eqs.any (fun e => usedP i e.p) || s.neqs.any (fun e => usedP i e.p)
theorem any_find {α : Type} (f : α → Bool) : ∀ (l : List α) (i : Nat), (findL (fun _ x => if f x then some () else none) l i).isSome = l.any f
  | [], _ => rfl
  | x :: l, i => by
    unfold findL
    cases h : f x <;> simp [h, any_find f l]
set_option maxHeartbeats 1000000 in
theorem used_spec (s : Sys) (hs : SW s) (i : Int) (h0 : 0 ≤ i) (h4 : i ≤ 4) : funD (cxT pp) 133 [.agg (cSys s), .int .i64 i] = some (.bool (used s i)) := by
  have hmin : min i.toNat 64 = i.toNat := by omega
  have hneg : ¬ (i < 0) := by omega
  have loop0 := loop_find (cx := cxT pp) (d := 0) (c := c133_0) s.eqs (fun _ (x : Eqn) => if usedP i x.p then some () else none)
    (fun j st => st.h.get ⟨0, 2⟩ = ⟨1, false, some (.cells ((cSys s).map .p))⟩ ∧ st.env 2 = .ptr ⟨0, 2⟩ 1 0 ∧ st.env 1 = .p (.int .i64 i) ∧ st.env 5 = .p (.int .i64 j))
    (fun _ a => a.1 = .ret ∧ a.2.env 4 = .p (.bool true)) (.ex 0) (by simp)
    (by
      rintro j ⟨env, h⟩ x rest hi hx hd ⟨g2, h2, h1, h5⟩
      simp only at g2 h2 h1 h5
      have hw := inc_id hi (by have := hs.eqs.1; omega)
      have hp := hs.eqs.2 x (mem_drop hd)
      have k2 := r6use_spec (pp := pp) x.p (by have := hp.2.2; omega)
      have hu := use64 x.p
      by_cases c : ((puse x.p : Int).fdiv (2 ^ i.toNat)).tmod 2 = 1
      · simp [c133_0, g2, h2, h1, h5, hi, hd, cEqn, k2, hu, hmin, hneg, IntKind.bits, usedP, c]
      · simp [c133_0, g2, h2, h1, h5, hi, hd, cEqn, k2, hu, hmin, hneg, IntKind.bits, usedP, c, hw])
    (by
      rintro ⟨env, h⟩ ⟨g2, h2, h1, h5⟩
      simp only at g2 h2 h1 h5
      simp [c133_0, g2, h2, h1, h5])
  have loop1 := loop_find (cx := cxT pp) (d := 0) (c := c133_1) s.neqs (fun _ (x : Eqn) => if usedP i x.p then some () else none)
    (fun j st => st.h.get ⟨0, 2⟩ = ⟨1, false, some (.cells ((cSys s).map .p))⟩ ∧ st.env 2 = .ptr ⟨0, 2⟩ 1 0 ∧ st.env 1 = .p (.int .i64 i) ∧ st.env 6 = .p (.int .i64 j))
    (fun _ a => a.1 = .ret ∧ a.2.env 4 = .p (.bool true)) (.ex 2) (by simp)
    (by
      rintro j ⟨env, h⟩ x rest hi hx hd ⟨g2, h2, h1, h5⟩
      simp only at g2 h2 h1 h5
      have hw := inc_id hi (by have := hs.neqs.1; omega)
      have hp := hs.neqs.2 x (mem_drop hd)
      have k2 := r6use_spec (pp := pp) x.p (by have := hp.2.2; omega)
      have hu := use64 x.p
      by_cases c : ((puse x.p : Int).fdiv (2 ^ i.toNat)).tmod 2 = 1
      · simp [c133_1, g2, h2, h1, h5, hi, hd, cEqn, k2, hu, hmin, hneg, IntKind.bits, usedP, c]
      · simp [c133_1, g2, h2, h1, h5, hi, hd, cEqn, k2, hu, hmin, hneg, IntKind.bits, usedP, c, hw])
    (by
      rintro ⟨env, h⟩ ⟨g2, h2, h1, h5⟩
      simp only at g2 h2 h1 h5
      simp [c133_1, g2, h2, h1, h5])
  have a0 := any_find (fun e : Eqn => usedP i e.p) s.eqs 0
  have a1 := any_find (fun e : Eqn => usedP i e.p) s.neqs 0
  rw [fun_133]
  unfold closedD bodyD used
  simp [fn133]
  generalize hx : codeD (cxT pp) 0 (ACode.loop c133_0) _ = X
  obtain ⟨e, env, h, rfl, q⟩ := at_code hx (loop0 _ (by simp))
  simp only at q
  revert a0 q
  cases findL (fun _ (x : Eqn) => if usedP i x.p then some () else none) s.eqs 0 with
  | some u =>
    rintro a0 ⟨rfl, q2⟩
    simp [q2, ← a0]
  | none =>
    rintro a0 ⟨rfl, q1, q2, q3, q4⟩
    simp at q1
    simp [q1, q2, q3, q4, ← a0]
    generalize hx : codeD (cxT pp) 0 (ACode.loop c133_1) _ = X
    obtain ⟨e, env, h, rfl, q⟩ := at_code hx (loop1 _ (by simp [q1, q2, q3, q4]))
    simp only at q
    revert a1 q
    cases findL (fun _ (x : Eqn) => if usedP i x.p then some () else none) s.neqs 0 with
    | some u =>
      rintro a1 ⟨rfl, q2⟩
      simp [q2, ← a1]
    | none =>
      rintro a1 ⟨rfl, q1, q2, q3, q4⟩
      simp [← a1]

/-! ### checkAdd, checkId -/
def checkAdd (s : Sys) (e : Edt) : Int :=
  if e.id < 0 ∨ 999999 < e.id ∨ (0 < e.id ∧ has s e.id = true) then 332
  else if (e.neq = false ∧ 12 ≤ s.eqs.length) ∨ (e.neq = true ∧ 12 ≤ s.neqs.length) ∨ (e.id = 0 ∧ 1000000 ≤ s.next) then 2
  else if fits e.p s.vars.length = true then 0 else 320
set_option maxHeartbeats 4000000 in
theorem checkAdd_spec (s : Sys) (hs : SW s) (e : Edt) (he : PW e.p) : funD (cxT pp) 134 [.agg (cSys s), .agg (cEdt e)] = some (.int .i64 (checkAdd s e)) := by
  have b1 := hs.eqs.1
  have b2 := hs.neqs.1
  have k1 := has_spec (pp := pp) s (by omega) (by omega) e.id
  have k2 := fits_spec (pp := pp) e.p he s.vars.length hs.vars
  rw [fun_134]
  unfold closedD bodyD checkAdd
  by_cases a1 : e.id < 0
  · simp [fn134, a1]
  · by_cases a2 : 999999 < e.id
    · simp [fn134, a1, a2]
    · by_cases a3 : 0 < e.id ∧ has s e.id = true
      · obtain ⟨a3, a4⟩ := a3
        simp [fn134, a1, a2, a3, a4, k1]
      · by_cases a5 : e.id = 0
        · have a6 : ¬ 0 < e.id := by omega
          cases hneq : e.neq
          · by_cases a7 : 12 ≤ s.eqs.length
            · have a7' : (12 : Int) ≤ s.eqs.length := by omega
              simp [fn134, a1, a2, a5, a6, k1, hneq, a7, a7']
            · have a7' : ¬ (12 : Int) ≤ s.eqs.length := by omega
              by_cases a8 : 1000000 ≤ s.next
              · simp [fn134, a1, a2, a5, a6, k1, hneq, a7, a7', a8]
              · cases a9 : fits e.p s.vars.length <;> simp [fn134, a1, a2, a5, a6, k1, hneq, a7, a7', a8, k2, a9]
          · by_cases a7 : 12 ≤ s.neqs.length
            · have a7' : (12 : Int) ≤ s.neqs.length := by omega
              simp [fn134, a1, a2, a5, a6, k1, hneq, a7, a7']
            · have a7' : ¬ (12 : Int) ≤ s.neqs.length := by omega
              by_cases a8 : 1000000 ≤ s.next
              · simp [fn134, a1, a2, a5, a6, k1, hneq, a7, a7', a8]
              · cases a9 : fits e.p s.vars.length <;> simp [fn134, a1, a2, a5, a6, k1, hneq, a7, a7', a8, k2, a9]
        · have a6 : 0 < e.id := by omega
          have a4 : has s e.id = false := by
            cases h : has s e.id
            · rfl
            · exact absurd ⟨a6, h⟩ a3
          cases hneq : e.neq
          · by_cases a7 : 12 ≤ s.eqs.length
            · have a7' : (12 : Int) ≤ s.eqs.length := by omega
              simp [fn134, a1, a2, a4, a5, a6, k1, hneq, a7, a7']
            · have a7' : ¬ (12 : Int) ≤ s.eqs.length := by omega
              cases a9 : fits e.p s.vars.length <;> simp [fn134, a1, a2, a4, a5, a6, k1, hneq, a7, a7', k2, a9]
          · by_cases a7 : 12 ≤ s.neqs.length
            · have a7' : (12 : Int) ≤ s.neqs.length := by omega
              simp [fn134, a1, a2, a4, a5, a6, k1, hneq, a7, a7']
            · have a7' : ¬ (12 : Int) ≤ s.neqs.length := by omega
              cases a9 : fits e.p s.vars.length <;> simp [fn134, a1, a2, a4, a5, a6, k1, hneq, a7, a7', k2, a9]

def checkId (s : Sys) (e : Edt) : Int :=
  if has s e.id = false then 332
  else if e.kind = 7 ∧ fits e.p s.vars.length = false then 320
  else if e.kind = 8 ∧ ((0 ≤ find s.eqs e.id ∧ 12 ≤ s.neqs.length) ∨ (¬ 0 ≤ find s.eqs e.id ∧ 12 ≤ s.eqs.length)) then 2 else 0
set_option maxHeartbeats 4000000 in
theorem checkId_spec (s : Sys) (hs : SW s) (e : Edt) (he : PW e.p) : funD (cxT pp) 135 [.agg (cSys s), .agg (cEdt e)] = some (.int .i64 (checkId s e)) := by
  have b1 := hs.eqs.1
  have b2 := hs.neqs.1
  have k1 := has_spec (pp := pp) s (by omega) (by omega) e.id
  have k2 := fits_spec (pp := pp) e.p he s.vars.length hs.vars
  have k3 := find_spec (pp := pp) s.eqs (by omega) e.id
  rw [fun_135]
  unfold closedD bodyD checkId
  cases a1 : has s e.id
  · simp [fn135, a1, k1]
  · by_cases a2 : e.kind = 7
    · cases a3 : fits e.p s.vars.length
      · simp [fn135, a1, k1, a2, k2, a3]
      · simp [fn135, a1, k1, a2, k2, a3, k3]
    · by_cases a4 : e.kind = 8
      · by_cases a5 : 0 ≤ find s.eqs e.id
        · by_cases a6 : 12 ≤ s.neqs.length
          · have a6' : (12 : Int) ≤ s.neqs.length := by omega
            simp [fn135, a1, k1, a2, k2, k3, a4, a5, a6, a6']
          · have a6' : ¬ (12 : Int) ≤ s.neqs.length := by omega
            simp [fn135, a1, k1, a2, k2, k3, a4, a5, a6, a6']
        · by_cases a6 : 12 ≤ s.eqs.length
          · have a6' : (12 : Int) ≤ s.eqs.length := by omega
            simp [fn135, a1, k1, a2, k2, k3, a4, a5, a6, a6']
          · have a6' : ¬ (12 : Int) ≤ s.eqs.length := by omega
            simp [fn135, a1, k1, a2, k2, k3, a4, a5, a6, a6']
      · simp [fn135, a1, k1, a2, k2, k3, a4]

/-! ### Check -/
def nameOK (b : ByteArray) : Bool :=
  match b.data.toList with
  | [] => false
  | c :: l => decide (l.length ≤ 11) && letter c.toNat && l.all fun c => letter c.toNat || (decide (48 ≤ c.toNat) && decide (c.toNat ≤ 57)) || decide (c.toNat = 95)
/-- Is a name's contract known? -/
def NameK (pp : Option PrimFn) (b : ByteArray) : Prop := funD (cxT pp) 76 [.str b] = some (.bool (nameOK b))
def check (s : Sys) (e : Edt) : Int :=
  if e.kind = 1 then (if 4 ≤ s.vars.length then 2 else if e.at_ < 0 ∨ (s.vars.length : Int) < e.at_ then 330 else if nameOK e.name = false ∨ 0 ≤ index s e.name then 331 else 0)
  else if e.kind = 2 then (if isV s e.at_ = false then 330 else if used s e.at_ = true then 333 else 0)
  else if e.kind = 3 then (if isV s e.at_ = false then 330 else if nameOK e.name = false ∨ (0 ≤ index s e.name ∧ ¬ index s e.name = e.at_) then 331 else 0)
  else if e.kind = 4 then (if isV s e.at_ = false ∨ isV s e.to = false then 330 else 0)
  else if e.kind = 5 then checkAdd s e
  else if e.kind = 6 ∨ e.kind = 7 ∨ e.kind = 8 then checkId s e
  else 1
set_option maxHeartbeats 4000000 in
theorem check_spec (s : Sys) (hs : SW s) (e : Edt) (he : PW e.p) (hn : NameK pp e.name) : funD (cxT pp) 67 [.agg (cSys s), .agg (cEdt e)] = some (.int .i64 (check s e)) := by
  have b0 := hs.vars
  have k1 := checkAdd_spec (pp := pp) s hs e he
  have k2 := checkId_spec (pp := pp) s hs e he
  have k3 := index_spec (pp := pp) s (by omega) e.name
  have k4 := is_spec (pp := pp) s e.at_
  have k5 := is_spec (pp := pp) s e.to
  unfold NameK at hn
  rw [fun_67]
  unfold closedD bodyD check
  by_cases a1 : e.kind = 1
  · by_cases a2 : 4 ≤ s.vars.length
    · have a2' : (4 : Int) ≤ s.vars.length := by omega
      simp [fn67, a1, a2, a2']
    · have a2' : ¬ (4 : Int) ≤ s.vars.length := by omega
      by_cases a3 : e.at_ < 0
      · simp [fn67, a1, a2, a2', a3]
      · by_cases a4 : (s.vars.length : Int) < e.at_
        · simp [fn67, a1, a2, a2', a3, a4]
        · cases a5 : nameOK e.name
          · simp [fn67, a1, a2, a2', a3, a4, hn, a5]
          · by_cases a6 : 0 ≤ index s e.name <;> simp [fn67, a1, a2, a2', a3, a4, hn, a5, k3, a6]
  · by_cases a2 : e.kind = 2
    · cases a3 : isV s e.at_
      · simp [fn67, a1, a2, k4, a3]
      · have a4 : 0 ≤ e.at_ ∧ e.at_ ≤ 4 := by
          simp [isV] at a3; omega
        have k6 := used_spec (pp := pp) s hs e.at_ a4.1 a4.2
        cases a5 : used s e.at_ <;> simp [fn67, a1, a2, k4, a3, k6, a5]
    · by_cases a3 : e.kind = 3
      · cases a4 : isV s e.at_
        · simp [fn67, a1, a2, a3, k4, a4]
        · cases a5 : nameOK e.name
          · simp [fn67, a1, a2, a3, k4, a4, k3, hn, a5]
          · by_cases a6 : 0 ≤ index s e.name
            · by_cases a7 : index s e.name = e.at_
              · have a8 : 0 ≤ e.at_ := by omega
                simp [fn67, a1, a2, a3, k4, a4, k3, hn, a5, a7, a8]
              · simp [fn67, a1, a2, a3, k4, a4, k3, hn, a5, a6, a7]
            · simp [fn67, a1, a2, a3, k4, a4, k3, hn, a5, a6]
      · by_cases a4 : e.kind = 4
        · cases a5 : isV s e.at_
          · simp [fn67, a1, a2, a3, a4, k4, a5]
          · cases a6 : isV s e.to <;> simp [fn67, a1, a2, a3, a4, k4, k5, a5, a6]
        · by_cases a5 : e.kind = 5
          · simp [fn67, a1, a2, a3, a4, a5, k1]
            simp [a5] at k1
            simp [k1]
          · by_cases a6 : e.kind = 6
            · simp [a6] at k2
              simp [fn67, a1, a2, a3, a4, a5, a6, k2]
            · by_cases a7 : e.kind = 7
              · simp [a7] at k2
                simp [fn67, a1, a2, a3, a4, a5, a6, a7, k2]
              · by_cases a8 : e.kind = 8
                · simp [a8] at k2
                  simp [fn67, a1, a2, a3, a4, a5, a6, a7, a8, k2]
                · simp [fn67, a1, a2, a3, a4, a5, a6, a7, a8]
end Go.Va
end
section
open Go.Proofs
namespace Go.Va
variable {pp : Option PrimFn}

/-! ### Permute -/
def permG (acc : List Int) (x : Int × Int) : List Int := acc.set x.1.toNat x.2
theorem permG_len : ∀ (l : List (Int × Int)) (acc : List Int), (l.foldl permG acc).length = acc.length
  | [], _ => rfl
  | x :: l, acc => by rw [List.foldl_cons, permG_len l]; simp [permG]
/-- The monomial in which the variable i is at pm[i]. -/
def permM (pm m : Mono) : Mono := ⟨(pm.l.zip m.l).foldl permG mono1.l, by rw [permG_len]; rfl⟩
def permT (pm : Mono) (out : Poly) (t : Term) : Poly := padd out [⟨t.c, permM pm t.m⟩]
def permute (pm : Mono) (p : Poly) : Poly := p.foldl (permT pm) []
/-- No two terms fall together. -/
def Apart (pm : Mono) (p : Poly) : Prop := ∀ i t rest, p.drop i = t :: rest → ∀ a ∈ (p.take i).foldl (permT pm) [], mcmp a.m (permM pm t.m) ≠ 0

theorem ints_set {l : List Int} {n : Nat} {v : Int} (h : n < l.length) : ints (l.set n v) = ints (l.take n) ++ .int .i64 v :: ints (l.drop (n + 1)) := by
  rw [List.set_eq_take_append_cons_drop, if_pos h]; simp

set_option maxHeartbeats 1000000 in
theorem perm_inner (pm : Mono) (hpm : ∀ x ∈ pm.l, 0 ≤ x ∧ x < 8) (p : Poly) (k : Nat) (t : Term) (rest : Poly) (hk : p.drop k = t :: rest) (e6 : AV) (g13 : HE) (s : St)
    (h : (∃ v, s.env 8 = .ptr ⟨0, 8⟩ v 0 ∧ s.h.get ⟨0, 8⟩ = ⟨v, false, some (.cells ((ints mono1.l).map .p))⟩) ∧ s.env 9 = .p (.int .i64 0) ∧
      (s.env 0 = .p (poly p) ∧ s.env 7 = .p (.int .i64 k) ∧ s.env 3 = .ptr ⟨0, 3⟩ 1 0 ∧ s.h.get ⟨0, 3⟩ = ⟨1, false, some (.cells ((ints pm.l).map .p))⟩ ∧ s.env 6 = e6 ∧ s.h.get ⟨0, 13⟩ = g13)) :
    ∃ a, codeD (cxT pp) 0 (.loop c136_0) s = some a ∧ a.1 = .ex 2 ∧ (∃ v, a.2.env 8 = .ptr ⟨0, 8⟩ v 0 ∧ a.2.h.get ⟨0, 8⟩ = ⟨v, false, some (.cells ((ints (permM pm t.m).l).map .p))⟩) ∧
      (a.2.env 0 = .p (poly p) ∧ a.2.env 7 = .p (.int .i64 k) ∧ a.2.env 3 = .ptr ⟨0, 3⟩ 1 0 ∧ a.2.h.get ⟨0, 3⟩ = ⟨1, false, some (.cells ((ints pm.l).map .p))⟩ ∧ a.2.env 6 = e6 ∧ a.2.h.get ⟨0, 13⟩ = g13) := by
  have hkl := drop_lt hk
  have hle : (pm.l.zip t.m.l).length = 8 := by simp
  have := loop_fold (cx := cxT pp) (d := 0) (c := c136_0) (pm.l.zip t.m.l) permG
    (fun i acc s => acc.length = 8 ∧ (∃ v, s.env 8 = .ptr ⟨0, 8⟩ v 0 ∧ s.h.get ⟨0, 8⟩ = ⟨v, false, some (.cells ((ints acc).map .p))⟩) ∧ s.env 9 = .p (.int .i64 i) ∧
      (s.env 0 = .p (poly p) ∧ s.env 7 = .p (.int .i64 k) ∧ s.env 3 = .ptr ⟨0, 3⟩ 1 0 ∧ s.h.get ⟨0, 3⟩ = ⟨1, false, some (.cells ((ints pm.l).map .p))⟩ ∧ s.env 6 = e6 ∧ s.h.get ⟨0, 13⟩ = g13)) (.ex 2) (by simp)
    (by
      rintro i acc ⟨env, h⟩ ⟨x, y⟩ rst hi hx1 hd ⟨hal, ⟨v, h8, g8⟩, h9, h0, h7, h3, g3, h6, hg13⟩
      simp only at h8 g8 h9 h0 h7 h3 g3 h6 hg13
      rw [hle] at hi
      have hw := inc_id hi (by omega)
      obtain ⟨ra, rb, da, db⟩ := zip_drop' hd
      have hx := hpm x (mem_drop da)
      have hi8 : (i : Int) < 8 := by omega
      have hi1 : i + 1 ≤ 8 := by omega
      have hxn : x.toNat < 8 := by omega
      have hxn1 : x.toNat + 1 ≤ 8 := by omega
      have hset := ints_set (v := y) (show x.toNat < acc.length by omega)
      have hdrop : (ints t.m.l ++ rest.flatMap cTerm).drop i = .int .i64 y :: (ints rb ++ rest.flatMap cTerm) := by
        rw [List.drop_append_of_le_length (by simp; omega), ints_drop, db]; rfl
      simp [-Prod.exists, c136_0, h8, g8, h9, h0, h7, h3, g3, h6, hg13, hi, hi8, hi1, hw, hk, hkl, da, cTerm, hdrop, hx, hxn, hxn1, hal, permG, hset])
    (by
      rintro acc ⟨env, h⟩ ⟨hal, ⟨v, h8, g8⟩, h9, h0, h7, h3, g3, h6, hg13⟩
      rw [hle] at h9
      simp only at h8 g8 h9 h0 h7 h3 g3 h6 hg13
      simp [-Prod.exists, c136_0, h8, g8, h9, h0, h7, h3, g3, h6, hg13, hal, hle])
    mono1.l s (by
      obtain ⟨⟨v, h8, g8⟩, h9, hrest⟩ := h
      exact ⟨rfl, ⟨v, h8, g8⟩, by simpa using h9, hrest⟩)
  obtain ⟨a, q1, q2, -, ⟨v, q3, q4⟩, -, q5⟩ := this
  exact ⟨a, q1, q2, ⟨v, q3, q4⟩, q5⟩

def Out6 (s : St) (out : Poly) : Prop := s.env 6 = .p (poly out) ∨ (out = [] ∧ s.env 6 = .ref ⟨0, 13⟩ 1 0 0 12 false ∧ s.h.get ⟨0, 13⟩ = ⟨1, false, some (.cells [])⟩)

set_option maxHeartbeats 2000000 in
theorem permute_spec (pm : Mono) (hpm : IsPerm pm.l) (hr : ∀ x ∈ pm.l, 0 ≤ x ∧ x < 8) (p : Poly) (hp : Apart pm p) (hl : p.length < 2 ^ 20) :
    funD (cxT pp) 136 [poly p, .agg (ints pm.l)] = some (.tup [poly (permute pm p), .int .i64 0]) := by
  have kp := isperm_spec (pp := pp) hpm
  have loop := loop_foldI (cx := cxT pp) (d := 0) (c := c136_1) p (fun _ => permT pm)
    (fun i out s => (out = (p.take i).foldl (permT pm) [] ∧ out.length ≤ i) ∧ Out6 s out ∧ (s.env 0 = .p (poly p) ∧ s.env 7 = .p (.int .i64 i) ∧ s.env 3 = .ptr ⟨0, 3⟩ 1 0 ∧ s.h.get ⟨0, 3⟩ = ⟨1, false, some (.cells ((ints pm.l).map .p))⟩)) (.ex 0) (by simp)
    (by
      rintro i out ⟨env, h⟩ t rest hi hx1 hd ⟨⟨hout0, hol⟩, hout, h0, h7, h3, g3⟩
      simp only at h0 h7 h3 g3
      have hw := inc_id hi (by omega)
      have inner := fun e6 g13 s => perm_inner (pp := pp) pm hr p i t rest hd e6 g13 s
      have ka := r6add_spec (pp := pp) out [⟨t.c, permM pm t.m⟩] (by
        intro a ha b hb hab
        simp at hb
        subst hb
        rw [hout0] at ha
        exact absurd hab (hp i t rest hd a ha)) (by omega) (by simp)
      have hol2 : (permT pm out t).length ≤ i + 1 := by
        have h1 := padd_len out [⟨t.c, permM pm t.m⟩]
        simp at h1
        unfold permT
        omega
      have hout2 : permT pm out t = (p.take (i + 1)).foldl (permT pm) [] := by
        rw [List.take_add_one, hx1, List.foldl_append, ← hout0]; rfl
      have hpt : padd out [⟨t.c, permM pm t.m⟩] = permT pm out t := rfl
      rw [hpt] at ka
      simp [cTerm] at ka
      generalize permT pm out t = O2 at *
      simp [-Prod.exists, c136_1, h0, h7, h3, g3, hi]
      generalize hX : codeD (cxT pp) 0 (ACode.loop c136_0) _ = X
      rcases hout with hout | ⟨rfl, hout, hg13⟩
      · simp only at hout
        obtain ⟨e, env', h', rfl, q⟩ := at_code hX (inner (.p (poly out)) (h.get ⟨0, 13⟩) _ (by simp [h0, h7, h3, g3, hout, mono1]))
        simp only at q
        obtain ⟨rfl, ⟨v, q1, q2⟩, q3, q4, q5, q6, q7, q8⟩ := q
        simp [-Prod.exists, q1, q2, q3, q4, q5, q6, q7, q8, hi, hd, cTerm, ka, hw, ← hout2, hol2, Out6]
      · simp only at hout hg13
        obtain ⟨e, env', h', rfl, q⟩ := at_code hX (inner (.ref ⟨0, 13⟩ 1 0 0 12 false) ⟨1, false, some (.cells [])⟩ _ (by simp [h0, h7, h3, g3, hout, hg13, mono1]))
        simp only at q
        obtain ⟨rfl, ⟨v, q1, q2⟩, q3, q4, q5, q6, q7, q8⟩ := q
        simp at ka
        simp [-Prod.exists, q1, q2, q3, q4, q5, q6, q7, q8, hi, hd, cTerm, ka, hw, ← hout2, hol2, Out6])
    (by
      rintro out ⟨env, h⟩ ⟨⟨hout0, hol⟩, hout, h0, h7, h3, g3⟩
      simp only at h0 h7 h3 g3
      simp [-Prod.exists, c136_1, h0, h7, h3, g3, hol]
      refine ⟨by simpa using hout0, ?_⟩
      simpa [Out6] using hout)
  have hf : ∀ (l : Poly) (i : Nat) (a : Poly), foldI (fun _ => permT pm) l i a = l.foldl (permT pm) a := by
    intro l; induction l with
    | nil => intro i a; rfl
    | cons x l ih => intro i a; simp [foldI, ih]
  rw [fun_136]
  unfold closedD bodyD permute
  simp [fn136, kp]
  generalize hX : codeD (cxT pp) 0 (ACode.loop c136_1) _ = X
  obtain ⟨e, env, h, rfl, q⟩ := at_code hX (loop [] _ (by simp [Out6]))
  rw [hf] at q
  simp only at q
  obtain ⟨rfl, -, q, -⟩ := q
  rcases q with q | ⟨q1, q2, q3⟩
  · simp only at q
    simp [q]
  · simp only at q2 q3
    simp [q1, q2, q3]

/-! ### moved -/
def movedE (pm : Mono) (e : Eqn) : Eqn := ⟨e.id, permute pm e.p⟩
def moved (pm : Mono) (l : List Eqn) : List Eqn := l.map (movedE pm)
theorem moved_fold (pm : Mono) : ∀ (l out : List Eqn), l.foldl (fun out e => out ++ [movedE pm e]) out = out ++ moved pm l
  | [], _ => by simp [moved]
  | e :: l, out => by simp [moved_fold pm l, moved]
theorem moved_spec (pm : Mono) (hpm : IsPerm pm.l) (hr : ∀ x ∈ pm.l, 0 ≤ x ∧ x < 8) (l : List Eqn) (hl : l.length < 2 ^ 20) (hp : ∀ e ∈ l, Apart pm e.p ∧ e.p.length < 2 ^ 20) :
    funD (cxT pp) 68 [sl cEqn l, .agg (ints pm.l)] = some (sl cEqn (moved pm l)) := by
  have loop := loop_fold (cx := cxT pp) (d := 0) (c := c68_0) l (fun out e => out ++ [movedE pm e])
    (fun i (out : List Eqn) s => out.length = i ∧ Row s 5 ⟨0, 9⟩ 2 out.length (out.flatMap cEqn) ∧ s.env 0 = .p (sl cEqn l) ∧ s.env 6 = .p (.int .i64 i) ∧ s.env 3 = .ptr ⟨0, 3⟩ 1 0 ∧ s.h.get ⟨0, 3⟩ = ⟨1, false, some (.cells ((ints pm.l).map .p))⟩) (.ex 0) (by simp)
    (by
      rintro i out ⟨env, h⟩ x rest hi hx hd ⟨rfl, ⟨v, h5, g5⟩, h0, h6, h3, g3⟩
      simp only at h5 g5 h0 h6 h3 g3
      have hw := inc_id hi (by omega)
      have hr2 := @roomy_ok (out.length + 1) 32 (by omega) (by decide)
      obtain ⟨p1, p2⟩ := hp x (mem_drop hd)
      have k := permute_spec (pp := pp) pm hpm hr x.p p1 p2
      simp [-Prod.exists, c68_0, h5, g5, h0, h6, h3, g3, hi, hd, cEqn, hw, hr2, k, Row, movedE])
    (by
      rintro out ⟨env, h⟩ ⟨hle, ⟨v, h5, g5⟩, h0, h6, h3, g3⟩
      simp only at h5 g5 h0 h6 h3 g3
      simp [-Prod.exists, c68_0, h5, g5, h0, h6, h3, g3, Row, hle])
  rw [fun_68]
  unfold closedD bodyD
  simp [fn68]
  generalize hx : codeD (cxT pp) 0 (ACode.loop c68_0) _ = X
  obtain ⟨e, env, h, rfl, q⟩ := at_code hx (loop [] _ (by simp [Row]))
  simp only at q
  obtain ⟨rfl, -, ⟨v, q2, q3⟩, -⟩ := q
  rw [moved_fold] at q2 q3
  simp only [List.nil_append] at q2 q3
  simp [q2, frz_row q3]
end Go.Va
end
section
open Go.Proofs
namespace Go.Va
variable {pp : Option PrimFn}

/-! ### The equation with an Id -/
def getE (l : List Eqn) (id : Int) : Eqn := (l.find? fun x => decide (x.id = id)).getD ⟨0, []⟩
theorem findL_get (id : Int) : ∀ (l : List Eqn) (i : Nat) (z : Int), findL (fun i (x : Eqn) => if x.id = id then some (i : Int) else none) l i = some z → ∃ k r, z = ((i + k : Nat) : Int) ∧ l.drop k = getE l id :: r
  | [], _, _, h => by simp [findL] at h
  | x :: l, i, z, h => by
    unfold findL at h
    by_cases hx : x.id = id
    · simp [hx] at h
      exact ⟨0, l, by simpa using h.symm, by simp [getE, hx]⟩
    · simp [hx] at h
      obtain ⟨k, r, h1, h2⟩ := findL_get id l (i + 1) z h
      exact ⟨k + 1, r, by omega, by simpa [getE, hx] using h2⟩
theorem find_get {l : List Eqn} {id : Int} (h : 0 ≤ find l id) : ∃ r, l.drop (find l id).toNat = getE l id :: r := by
  unfold find at h ⊢
  cases hf : findL (fun i (x : Eqn) => if x.id = id then some (i : Int) else none) l 0 with
  | none => rw [hf] at h; simp at h
  | some z =>
    obtain ⟨k, r, h1, h2⟩ := findL_get id l 0 z hf
    subst h1
    exact ⟨r, by simpa using h2⟩

/-! ### equations -/
def eqnsAdd (s : Sys) (e : Edt) : Sys :=
  if e.neq = true then { s with neqs := put s.neqs ⟨if e.id = 0 then s.next else e.id, e.p⟩, next := max s.next ((if e.id = 0 then s.next else e.id) + 1) }
  else { s with eqs := put s.eqs ⟨if e.id = 0 then s.next else e.id, e.p⟩, next := max s.next ((if e.id = 0 then s.next else e.id) + 1) }
def eqnsSet (s : Sys) (e : Edt) : Sys := if 0 ≤ find s.eqs e.id then { s with eqs := put s.eqs ⟨e.id, e.p⟩ } else { s with neqs := put s.neqs ⟨e.id, e.p⟩ }
def eqnsFlip (s : Sys) (e : Edt) : Sys :=
  if 0 ≤ find s.eqs e.id then { s with eqs := drop s.eqs e.id, neqs := put s.neqs (getE s.eqs e.id) } else { s with eqs := put s.eqs (getE s.neqs e.id), neqs := drop s.neqs e.id }
/-- The system after an edit of equations. -/
def equations (s : Sys) (e : Edt) : Sys :=
  if e.kind = 5 then eqnsAdd s e
  else if e.kind = 6 then { s with eqs := drop s.eqs e.id, neqs := drop s.neqs e.id }
  else if e.kind = 7 then eqnsSet s e
  else eqnsFlip s e
@[simp] theorem cEqn_flat (x : Eqn) : cEqn x = [.int .i64 x.id, .frz .any x.p.length (x.p.flatMap cTerm)] := rfl
set_option maxHeartbeats 4000000 in
theorem equations_spec (s : Sys) (hs : SW s) (e : Edt) (hk : e.kind = 5 ∨ e.kind = 6 ∨ e.kind = 7 ∨ e.kind = 8) (hh : e.kind = 8 → has s e.id = true) (hid : e.kind = 5 → 0 ≤ e.id ∧ e.id ≤ 1000000) :
    funD (cxT pp) 70 [.agg (cSys s), .agg (cEdt e)] = some (.agg (cSys (equations s e))) := by
  have b1 := hs.eqs.1
  have b2 := hs.neqs.1
  have b3 := hs.lo
  have b4 := hs.hi
  have k1 := find_spec (pp := pp) s.eqs (by omega) e.id
  have k2 := find_spec (pp := pp) s.neqs (by omega) e.id
  have k3 := drop_spec (pp := pp) s.eqs (by omega) e.id
  have k4 := drop_spec (pp := pp) s.neqs (by omega) e.id
  have p1 := fun x => put_spec (pp := pp) s.eqs (by omega) x
  have p2 := fun x => put_spec (pp := pp) s.neqs (by omega) x
  have w1 : IntKind.i64.wrap (s.next + 1) = s.next + 1 := by rw [i64_id] <;> omega
  simp at p1 p2
  rw [fun_70]
  unfold closedD bodyD equations
  rcases hk with hk | hk | hk | hk
  · have hid := hid hk
    have w2 : IntKind.i64.wrap (e.id + 1) = e.id + 1 := by rw [i64_id] <;> omega
    by_cases a1 : e.id = 0
    · have m1 : max s.next (s.next + 1) = s.next + 1 := by omega
      have p1' := p1 ⟨s.next, e.p⟩
      have p2' := p2 ⟨s.next, e.p⟩
      simp [a1] at k1 k2
      cases a2 : e.neq
      · simp [fn70, hk, k1, k2, a1, a2, w1, m1, p1', eqnsAdd]
        omega
      · simp [fn70, hk, k1, k2, a1, a2, w1, m1, p2', eqnsAdd]
        omega
    · have p1' := p1 ⟨e.id, e.p⟩
      have p2' := p2 ⟨e.id, e.p⟩
      by_cases a3 : s.next < e.id + 1
      · have m1 : max s.next (e.id + 1) = e.id + 1 := by omega
        cases a2 : e.neq
        · simp [fn70, hk, k1, k2, a1, a2, a3, w2, m1, p1', eqnsAdd]
        · simp [fn70, hk, k1, k2, a1, a2, a3, w2, m1, p2', eqnsAdd]
      · have m1 : max s.next (e.id + 1) = s.next := by omega
        cases a2 : e.neq
        · simp [fn70, hk, k1, k2, a1, a2, a3, w2, m1, p1', eqnsAdd]
        · simp [fn70, hk, k1, k2, a1, a2, a3, w2, m1, p2', eqnsAdd]
  · simp [fn70, hk, k1, k2, k3, k4]
  · have p1' := p1 ⟨e.id, e.p⟩
    have p2' := p2 ⟨e.id, e.p⟩
    by_cases a1 : 0 ≤ find s.eqs e.id
    · simp [fn70, hk, k1, k2, a1, p1', eqnsSet]
    · simp [fn70, hk, k1, k2, a1, p2', eqnsSet]
  · by_cases a1 : 0 ≤ find s.eqs e.id
    · obtain ⟨r, hr⟩ := find_get a1
      have hl := drop_lt hr
      have hl' : find s.eqs e.id < s.eqs.length := by omega
      have p2' := p2 (getE s.eqs e.id)
      simp [fn70, hk, k1, k2, k3, k4, a1, hl', hr, p2', eqnsFlip]
    · have a2 : 0 ≤ find s.neqs e.id := by
        have := hh hk
        simp [has] at this
        omega
      obtain ⟨r, hr⟩ := find_get a2
      have hl := drop_lt hr
      have hl' : find s.neqs e.id < s.neqs.length := by omega
      have p1' := p1 (getE s.neqs e.id)
      simp [fn70, hk, k1, k2, k3, k4, a1, a2, hl', hr, p1', eqnsFlip]

/-! ### Apply -/
def rotM (a b : Int) : Mono := ⟨rotL a b, rfl⟩
def swpM (a b : Int) : Mono := ⟨swpL a b, rfl⟩
def vAt (s : Sys) (i : Int) : ByteArray := s.vars.getD i.toNat ⟨#[]⟩
def applyV (s : Sys) (e : Edt) : Sys :=
  if e.kind = 1 then ⟨s.vars.take e.at_.toNat ++ [e.name] ++ s.vars.drop e.at_.toNat, moved (rotM s.vars.length e.at_) s.eqs, moved (rotM s.vars.length e.at_) s.neqs, s.next⟩
  else if e.kind = 2 then ⟨s.vars.take e.at_.toNat ++ s.vars.drop (e.at_.toNat + 1), moved (rotM e.at_ (s.vars.length - 1)) s.eqs, moved (rotM e.at_ (s.vars.length - 1)) s.neqs, s.next⟩
  else if e.kind = 3 then { s with vars := s.vars.set e.at_.toNat e.name }
  else if e.kind = 4 then ⟨(s.vars.set e.at_.toNat (vAt s e.to)).set e.to.toNat (vAt s e.at_), moved (swpM e.at_ e.to) s.eqs, moved (swpM e.at_ e.to) s.neqs, s.next⟩
  else equations s e
/-- The system after an edit, or the empty one; and the error. -/
def apply (s : Sys) (e : Edt) : Sys × Int := if check s e = 0 then (applyV s e, 0) else (sys0, check s e)

theorem isPerm_rot {a b : Int} (ha : 0 ≤ a ∧ a ≤ 4) (hb : 0 ≤ b ∧ b ≤ 4) : IsPerm (rotL a b) := ⟨a, b, ha, hb, .inl rfl⟩
theorem isPerm_swp {a b : Int} (ha : 0 ≤ a ∧ a ≤ 4) (hb : 0 ≤ b ∧ b ≤ 4) : IsPerm (swpL a b) := ⟨a, b, ha, hb, .inr rfl⟩
theorem range_all : (nat4.all fun a => nat4.all fun b => (rotL a b ++ swpL a b).all fun x => decide (0 ≤ x ∧ x < 8)) = true := by decide
theorem isPerm_range {l : List Int} (h : IsPerm l) : ∀ x ∈ l, 0 ≤ x ∧ x < 8 := by
  obtain ⟨a, b, ha, hb, h⟩ := h
  intro x hx
  have := List.all_eq_true.1 (List.all_eq_true.1 (List.all_eq_true.1 range_all a (mem_nat4 ha.1 ha.2)) b (mem_nat4 hb.1 hb.2)) x (by
    rw [List.mem_append]; rcases h with rfl | rfl
    · exact .inl hx
    · exact .inr hx)
  simpa using this
theorem swp_all : (nat4.all fun a => nat4.all fun b => decide (((rotL 0 0).set a.toNat b).set b.toNat a = swpL a b)) = true := by decide
theorem swp_set {a b : Int} (ha : 0 ≤ a ∧ a ≤ 4) (hb : 0 ≤ b ∧ b ≤ 4) : ((rotL 0 0).set a.toNat b).set b.toNat a = swpL a b := by
  have := List.all_eq_true.1 (List.all_eq_true.1 swp_all a (mem_nat4 ha.1 ha.2)) b (mem_nat4 hb.1 hb.2)
  simpa using this

@[simp] theorem rotL_len (a b : Int) : (rotL a b).length = 8 := rfl
@[simp] theorem swpL_len (a b : Int) : (swpL a b).length = 8 := rfl
/-- All polynomials stay apart under the permutations that occur. -/
def SA (s : Sys) : Prop := ∀ pm : Mono, IsPerm pm.l → ∀ x ∈ s.eqs ++ s.neqs, Apart pm x.p
theorem moved_ok {s : Sys} (hs : SW s) (ha : SA s) (pm : Mono) (hpm : IsPerm pm.l) :
    funD (cxT pp) 68 [sl cEqn s.eqs, .agg (ints pm.l)] = some (sl cEqn (moved pm s.eqs)) ∧ funD (cxT pp) 68 [sl cEqn s.neqs, .agg (ints pm.l)] = some (sl cEqn (moved pm s.neqs)) :=
  ⟨moved_spec pm hpm (isPerm_range hpm) s.eqs (by have := hs.eqs.1; omega) (fun e he => ⟨ha pm hpm e (by simp [he]), (hs.eqs.2 e he).2.2⟩),
   moved_spec pm hpm (isPerm_range hpm) s.neqs (by have := hs.neqs.1; omega) (fun e he => ⟨ha pm hpm e (by simp [he]), (hs.neqs.2 e he).2.2⟩)⟩
theorem strs_set {l : List ByteArray} {n : Nat} {v : ByteArray} (h : n < l.length) : strs (l.set n v) = strs (l.take n) ++ .str v :: strs (l.drop (n + 1)) := by
  rw [List.set_eq_take_append_cons_drop, if_pos h]; simp
theorem vAt_drop {s : Sys} {i : Int} (h : isV s i = true) : s.vars.drop i.toNat = vAt s i :: s.vars.drop (i.toNat + 1) := by
  simp [isV] at h
  have hl : i.toNat < s.vars.length := by omega
  rw [List.drop_eq_getElem_cons hl]
  simp [vAt, List.getD_eq_getElem?_getD, hl]
@[simp high] theorem pstrs_drop (l : List ByteArray) (i : Nat) : ((strs l).map AV.p).drop i = (strs (l.drop i)).map AV.p := by simp [strs, List.map_drop]
@[simp high] theorem pstrs_take (l : List ByteArray) (i : Nat) : ((strs l).map AV.p).take i = (strs (l.take i)).map AV.p := by simp [strs, List.map_take]

theorem pints_set {l : List Int} {n : Nat} {v : Int} (h : n < l.length) : (ints (l.take n)).map AV.p ++ AV.p (.int .i64 v) :: (ints (l.drop (n + 1))).map AV.p = (ints (l.set n v)).map AV.p := by
  rw [ints_set h]; simp
theorem pstrs_set {l : List ByteArray} {n : Nat} {v : ByteArray} (h : n < l.length) : (strs (l.take n)).map AV.p ++ AV.p (.str v) :: (strs (l.drop (n + 1))).map AV.p = (strs (l.set n v)).map AV.p := by
  rw [strs_set h]; simp
set_option maxHeartbeats 4000000 in
theorem apply1_spec (s : Sys) (hs : SW s) (ha : SA s) (e : Edt) (he : PW e.p) (hn : NameK pp e.name) (hk : e.kind = 1) :
    funD (cxT pp) 21 [.agg (cSys s), .agg (cEdt e)] = some (.tup [.agg (cSys (apply s e).1), .int .i64 (apply s e).2]) := by
  have b0 := hs.vars
  have kc := check_spec (pp := pp) s hs e he hn
  rw [fun_21]
  unfold closedD bodyD apply
  by_cases c0 : check s e = 0
  · have hr0 := @roomy_ok s.vars.length 16 (by omega) (by decide)
    have ca : 0 ≤ e.at_ ∧ e.at_ ≤ s.vars.length ∧ s.vars.length < 4 := by
      simp [check, hk] at c0
      split at c0
      · simp at c0
      · split at c0
        · simp at c0
        · omega
    obtain ⟨m1, m2⟩ := moved_ok (pp := pp) hs ha (rotM s.vars.length e.at_) (isPerm_rot (by omega) (by omega))
    have kr := rotated_spec (pp := pp) s.vars.length e.at_ (by omega) (by omega)
    have hr1 := @roomy_ok e.at_.toNat 16 (by omega) (by decide)
    have hr2 := @roomy_ok (e.at_.toNat + 1) 16 (by omega) (by decide)
    have hr3 := @roomy_ok (e.at_.toNat + 1 + (s.vars.length - e.at_.toNat)) 16 (by omega) (by decide)
    simp [hk] at kc
    simp [rotM] at m1 m2
    have t1 : e.at_.toNat ≤ s.vars.length := by omega
    have hmx : max e.at_ 0 = e.at_ := by omega
    have hmx2 : min e.at_.toNat s.vars.length = e.at_.toNat := by omega
    have hz0 : roomy 0 16 = true := by decide
    have hz1 : roomy 1 16 = true := by decide
    by_cases hA : s.vars.length = 0
    · have hv : s.vars = [] := List.eq_nil_of_length_eq_zero hA
      have hB : e.at_ = 0 := by omega
      simp [hB, hv] at kc m1 m2 kr
      simp [fn21, kc, c0, hk, hr1, Fl.tight, hz0, hz1, hv, hB, m1, m2, kr, applyV, rotM]
    · have hr4 := @roomy_ok (1 + s.vars.length) 16 (by omega) (by decide)
      have hr5 := @roomy_ok (s.vars.length + 1) 16 (by omega) (by decide)
      have hr6 := @roomy_ok (e.at_.toNat + (s.vars.length - e.at_.toNat + 1)) 16 (by omega) (by decide)
      have hq : e.at_.toNat + 1 + (s.vars.length - e.at_.toNat) = e.at_.toNat + (s.vars.length - e.at_.toNat + 1) := by omega
      have hq2 : 1 + s.vars.length = s.vars.length + 1 := by omega
      by_cases hB : e.at_ = 0
      · have hp : ¬ s.vars = [] := fun h => hA (by rw [h]; rfl)
        simp [hB] at kc m1 m2 kr
        simp [fn21, kc, c0, hk, hr0, hr1, hr2, hr3, hr4, hr5, hmx, hmx2, Fl.tight, hz0, hz1, m1, m2, kr, applyV, rotM, hA, hB, hq2, hp]
      · have hB' : ¬ e.at_.toNat = 0 := by omega
        by_cases hC : s.vars.length - e.at_.toNat = 0
        · have hd : s.vars.drop e.at_.toNat = [] := List.drop_eq_nil_of_le (by omega)
          simp [fn21, kc, c0, hk, hr0, hr1, hr2, hr3, hmx, hmx2, Fl.tight, hz0, hz1, ca.1, ca.2, t1, m1, m2, kr, applyV, rotM, hA, hB', hC, hd]
        · simp [fn21, kc, c0, hk, hr0, hr1, hr2, hr3, hmx, hmx2, Fl.tight, hz0, hz1, ca.1, ca.2, t1, m1, m2, kr, applyV, rotM, hA, hB', hC, hq, hr6]
  · simp [fn21, kc, c0, sys0]

set_option maxHeartbeats 4000000 in
theorem apply2_spec (s : Sys) (hs : SW s) (ha : SA s) (e : Edt) (he : PW e.p) (hn : NameK pp e.name) (hk : e.kind = 2) :
    funD (cxT pp) 21 [.agg (cSys s), .agg (cEdt e)] = some (.tup [.agg (cSys (apply s e).1), .int .i64 (apply s e).2]) := by
  have b0 := hs.vars
  have kc := check_spec (pp := pp) s hs e he hn
  rw [fun_21]
  unfold closedD bodyD apply
  by_cases c0 : check s e = 0
  · have ca : 0 ≤ e.at_ ∧ e.at_ < s.vars.length := by
      simp [check, hk] at c0
      split at c0
      · simp at c0
      · rename_i h; simp [isV] at h; omega
    have hr0 := @roomy_ok s.vars.length 16 (by omega) (by decide)
    obtain ⟨m1, m2⟩ := moved_ok (pp := pp) hs ha (rotM e.at_ (s.vars.length - 1)) (isPerm_rot (by omega) (by omega))
    have kr := rotated_spec (pp := pp) e.at_ (s.vars.length - 1) (by omega) (by omega)
    have hw1 : IntKind.i64.wrap ((s.vars.length : Int) - 1) = (s.vars.length : Int) - 1 := by rw [i64_id] <;> omega
    have hw2 : IntKind.i64.wrap (e.at_ + 1) = e.at_ + 1 := by rw [i64_id] <;> omega
    have hr1 := @roomy_ok e.at_.toNat 16 (by omega) (by decide)
    have hr2 := @roomy_ok (s.vars.length - (e.at_.toNat + 1)) 16 (by omega) (by decide)
    have hr3 := @roomy_ok (e.at_.toNat + (s.vars.length - (e.at_.toNat + 1))) 16 (by omega) (by decide)
    have hmx : max e.at_ 0 = e.at_ := by omega
    have hmx2 : min e.at_.toNat s.vars.length = e.at_.toNat := by omega
    have hz0 : roomy 0 16 = true := by decide
    have hA : ¬ s.vars.length = 0 := by omega
    have hp : ¬ s.vars = [] := fun h => hA (by rw [h]; rfl)
    have t1 : e.at_.toNat ≤ s.vars.length := by omega
    have t2 : e.at_ ≤ s.vars.length := by omega
    have t3 : e.at_ + 1 ≤ s.vars.length := by omega
    have t4 : e.at_.toNat + 1 ≤ s.vars.length := by omega
    have t5 : (e.at_ + 1).toNat = e.at_.toNat + 1 := by omega
    have t6 : 0 ≤ e.at_ + 1 := by omega
    simp [hk] at kc
    simp [rotM] at m1 m2
    by_cases hB : e.at_ = 0
    · simp [hB] at kc m1 m2 kr
      have hw3 : IntKind.i64.wrap 1 = 1 := by rw [i64_id] <;> omega
      have hr4 := @roomy_ok (s.vars.length - 1) 16 (by omega) (by decide)
      have u1 : 1 ≤ s.vars.length := by omega
      have u2 : (1 : Int) ≤ s.vars.length := by omega
      by_cases hC : s.vars.length - 1 = 0
      · have hd : s.vars.drop 1 = [] := List.drop_eq_nil_of_le (by omega)
        simp [fn21, kc, c0, hk, hr0, hr1, hr2, hr3, hr4, hmx, hmx2, Fl.tight, hz0, m1, m2, kr, hw1, hw2, hw3, applyV, rotM, hA, hB, hC, hp, hd, u1, u2]
      · simp [fn21, kc, c0, hk, hr0, hr1, hr2, hr3, hr4, hmx, hmx2, Fl.tight, hz0, m1, m2, kr, hw1, hw2, hw3, applyV, rotM, hA, hB, hC, hp, u1, u2]
    · have hB' : ¬ e.at_.toNat = 0 := by omega
      by_cases hC : s.vars.length - (e.at_.toNat + 1) = 0
      · have hd : s.vars.drop (e.at_.toNat + 1) = [] := List.drop_eq_nil_of_le (by omega)
        simp [fn21, kc, c0, hk, hr0, hr1, hr2, hr3, hmx, hmx2, Fl.tight, hz0, m1, m2, kr, hw1, hw2, applyV, rotM, hA, hB', hC, hp, hd, t1, t2, t3, t4, t5, t6, ca.1]
      · simp [fn21, kc, c0, hk, hr0, hr1, hr2, hr3, hmx, hmx2, Fl.tight, hz0, m1, m2, kr, hw1, hw2, applyV, rotM, hA, hB', hC, hp, t1, t2, t3, t4, t5, t6, ca.1]
  · simp [fn21, kc, c0, sys0]

set_option maxHeartbeats 4000000 in
theorem apply3_spec (s : Sys) (hs : SW s) (e : Edt) (he : PW e.p) (hn : NameK pp e.name) (hk : e.kind = 3) :
    funD (cxT pp) 21 [.agg (cSys s), .agg (cEdt e)] = some (.tup [.agg (cSys (apply s e).1), .int .i64 (apply s e).2]) := by
  have b0 := hs.vars
  have kc := check_spec (pp := pp) s hs e he hn
  rw [fun_21]
  unfold closedD bodyD apply
  by_cases c0 : check s e = 0
  · have ca : 0 ≤ e.at_ ∧ e.at_ < s.vars.length := by
      simp [check, hk] at c0
      split at c0
      · simp at c0
      · rename_i h; simp [isV] at h; omega
    have hr0 := @roomy_ok s.vars.length 16 (by omega) (by decide)
    have hA : ¬ s.vars.length = 0 := by omega
    have hp : ¬ s.vars = [] := fun h => hA (by rw [h]; rfl)
    have t1 : e.at_.toNat + 1 ≤ s.vars.length := by omega
    have t2 : e.at_.toNat < s.vars.length := by omega
    have hset := strs_set (v := e.name) t2
    have hmx2 : min e.at_.toNat s.vars.length = e.at_.toNat := by omega
    have hq : e.at_.toNat + (s.vars.length - (e.at_.toNat + 1) + 1) = s.vars.length := by omega
    simp [hk] at kc
    simp [fn21, kc, c0, hk, hr0, hA, hp, applyV, t1, t2, ca.1, ca.2, hset, hmx2, hq]
  · simp [fn21, kc, c0, sys0]

set_option maxHeartbeats 4000000 in
theorem apply4_spec (s : Sys) (hs : SW s) (ha : SA s) (e : Edt) (he : PW e.p) (hn : NameK pp e.name) (hk : e.kind = 4) :
    funD (cxT pp) 21 [.agg (cSys s), .agg (cEdt e)] = some (.tup [.agg (cSys (apply s e).1), .int .i64 (apply s e).2]) := by
  have b0 := hs.vars
  have kc := check_spec (pp := pp) s hs e he hn
  rw [fun_21]
  unfold closedD bodyD apply
  by_cases c0 : check s e = 0
  · have cv : isV s e.at_ = true ∧ isV s e.to = true := by
      cases h1 : isV s e.at_
      · simp [check, hk, h1] at c0
      · cases h2 : isV s e.to
        · simp [check, hk, h1, h2] at c0
        · exact ⟨rfl, rfl⟩
    have ca : 0 ≤ e.at_ ∧ e.at_ < s.vars.length := by have := cv.1; simp [isV] at this; omega
    have cb : 0 ≤ e.to ∧ e.to < s.vars.length := by have := cv.2; simp [isV] at this; omega
    have hr0 := @roomy_ok s.vars.length 16 (by omega) (by decide)
    have hA : ¬ s.vars.length = 0 := by omega
    have hp : ¬ s.vars = [] := fun h => hA (by rw [h]; rfl)
    have kr := rotated_spec (pp := pp) 0 0 (by omega) (by omega)
    obtain ⟨m1, m2⟩ := moved_ok (pp := pp) hs ha (swpM e.at_ e.to) (isPerm_swp (by omega) (by omega))
    have hsw := swp_set (a := e.at_) (b := e.to) (by omega) (by omega)
    have d1 := vAt_drop cv.1
    have d2 := vAt_drop cv.2
    have t1 : e.at_.toNat < s.vars.length := by omega
    have t2 : e.to.toNat < s.vars.length := by omega
    have t1' : e.at_.toNat + 1 ≤ s.vars.length := by omega
    have t2' : e.to.toNat + 1 ≤ s.vars.length := by omega
    have u1 : e.at_ < 8 := by omega
    have u2 : e.to < 8 := by omega
    have u3 : e.at_.toNat + 1 ≤ 8 := by omega
    have u4 : e.to.toNat + 1 ≤ 8 := by omega
    have s1 := pstrs_set (v := vAt s e.to) t1
    have s2 := pstrs_set (l := s.vars.set e.at_.toNat (vAt s e.to)) (v := vAt s e.at_) (n := e.to.toNat) (by simpa using t2)
    have r1 := pints_set (l := rotL 0 0) (n := e.at_.toNat) (v := e.to) (by simp; omega)
    have r2 := pints_set (l := (rotL 0 0).set e.at_.toNat e.to) (n := e.to.toNat) (v := e.at_) (by simp; omega)
    rw [hsw] at r2
    simp [hk] at kc
    simp [swpM] at m1 m2
    have hs8 : (swpL e.at_ e.to).take 8 = swpL e.at_ e.to := rfl
    simp [fn21, kc, c0, hk, hr0, hA, hp, hs8, applyV, swpM, kr, m1, m2, d1, d2, t1, t2, t1', t2', u1, u2, u3, u4, ca.1, ca.2, cb.1, cb.2, s1, s2, r1, r2]
  · simp [fn21, kc, c0, sys0]

set_option maxHeartbeats 4000000 in
theorem apply5_spec (s : Sys) (hs : SW s) (e : Edt) (he : PW e.p) (hn : NameK pp e.name) (h1 : ¬ e.kind = 1) (h2 : ¬ e.kind = 2) (h3 : ¬ e.kind = 3) (h4 : ¬ e.kind = 4) :
    funD (cxT pp) 21 [.agg (cSys s), .agg (cEdt e)] = some (.tup [.agg (cSys (apply s e).1), .int .i64 (apply s e).2]) := by
  have kc := check_spec (pp := pp) s hs e he hn
  rw [fun_21]
  unfold closedD bodyD apply
  by_cases c0 : check s e = 0
  · have hk : (e.kind = 5 ∨ e.kind = 6 ∨ e.kind = 7 ∨ e.kind = 8) ∧ (e.kind = 5 → 0 ≤ e.id ∧ e.id ≤ 1000000) ∧ (e.kind = 8 → has s e.id = true) := by
      simp only [check, if_neg h1, if_neg h2, if_neg h3, if_neg h4] at c0
      by_cases h5 : e.kind = 5
      · rw [if_pos h5] at c0
        refine ⟨.inl h5, fun _ => ?_, fun h => by omega⟩
        unfold checkAdd at c0
        split at c0
        · simp at c0
        · omega
      · rw [if_neg h5] at c0
        by_cases h6 : e.kind = 6 ∨ e.kind = 7 ∨ e.kind = 8
        · rw [if_pos h6] at c0
          have hh : has s e.id = true := by
            unfold checkId at c0
            split at c0
            · simp at c0
            · rename_i h; simpa using h
          exact ⟨.inr h6, fun h => absurd h h5, fun _ => hh⟩
        · rw [if_neg h6] at c0; simp at c0
    have ke := equations_spec (pp := pp) s hs e hk.1 hk.2.2 hk.2.1
    have hv : applyV s e = equations s e := by simp [applyV, h1, h2, h3, h4]
    by_cases hA : s.vars.length = 0
    · have hp : s.vars = [] := List.eq_nil_of_length_eq_zero hA
      have hz0 : roomy 0 16 = true := by decide
      simp [hp] at kc ke
      simp [fn21, kc, c0, h1, h2, h3, h4, ke, hv, hp, hz0]
    · have hp : ¬ s.vars = [] := fun h => hA (by rw [h]; rfl)
      have hr0 := @roomy_ok s.vars.length 16 (by have := hs.vars; omega) (by decide)
      simp [fn21, kc, c0, h1, h2, h3, h4, ke, hv, hA, hp, hr0]
  · simp [fn21, kc, c0, sys0]

theorem apply_spec (s : Sys) (hs : SW s) (ha : SA s) (e : Edt) (he : PW e.p) (hn : NameK pp e.name) :
    funD (cxT pp) 21 [.agg (cSys s), .agg (cEdt e)] = some (.tup [.agg (cSys (apply s e).1), .int .i64 (apply s e).2]) := by
  by_cases h1 : e.kind = 1
  · exact apply1_spec s hs ha e he hn h1
  by_cases h2 : e.kind = 2
  · exact apply2_spec s hs ha e he hn h2
  by_cases h3 : e.kind = 3
  · exact apply3_spec s hs e he hn h3
  by_cases h4 : e.kind = 4
  · exact apply4_spec s hs ha e he hn h4
  exact apply5_spec s hs e he hn h1 h2 h3 h4
end Go.Va
end
section
open Go.Proofs
namespace Go.Va
variable {pp : Option PrimFn}

structure Raw33 where
  kind : Int
  a : Int
  b : Int
  n : Int
  p : RawP
def cRaw (r : Raw33) : List PV := [.int .u8 r.kind, .int .u8 r.a, .int .u8 r.b, .int .u8 r.n, raw r.p]
@[simp] theorem cRaw_len (t : Raw33) : (cRaw t).length = 5 := by simp [cRaw]
@[simp] theorem cRaw_er (t : Raw33) : PV.erL (cRaw t) = cRaw t := by simp [cRaw]
@[simp high] theorem raws_len (p : List Raw33) : (p.flatMap cRaw).length = p.length * 5 := flat_len cRaw_len p
@[simp] theorem raws_drop (p : List Raw33) (i : Nat) : (p.flatMap cRaw).drop (i * 5) = (p.drop i).flatMap cRaw := flat_drop cRaw_len p i
@[simp] theorem raws_er (p : List Raw33) : PV.erL (p.flatMap cRaw) = p.flatMap cRaw := flat_er cRaw_er p
def U8 (z : Int) : Prop := 0 ≤ z ∧ z ≤ 255
structure R33OK (r : Raw33) : Prop where
  kind : U8 r.kind
  a : U8 r.a
  b : U8 r.b
  n : U8 r.n
  p : RawOK r.p
  len : r.p.length < 2 ^ 63

def nameAt (i : Int) : ByteArray := name6.getD i.toNat ⟨#[]⟩
def editKind (x : Raw33) : Int := if 8 ≤ x.kind.tmod 16 then (if x.a.tmod 8 < 5 then 5 else 5 + x.a.tmod 4) else 1 + x.kind.tmod 16
/-- The edit that raw numbers describe. -/
def editOf (s : Sys) (x : Raw33) : Edt :=
  ⟨editKind x, nameAt (x.n.tmod 6), x.a.tmod (s.vars.length + 1), x.b.tmod (s.vars.length + 1), if editKind x = 5 ∧ 0 < x.n.tmod 4 then 0 else x.n.tmod (s.next + 1), made x.p (min s.vars.length 3) 2 3, decide (x.b.tmod 4 = 3)⟩

theorem tm (a b : Int) (ha : 0 ≤ a) (hb : 0 < b) : 0 ≤ a.tmod b ∧ a.tmod b < b := by
  rw [Int.tmod_eq_emod_of_nonneg ha]
  exact ⟨Int.emod_nonneg _ (by omega), Int.emod_lt_of_pos _ hb⟩
@[simp] theorem name6_len : name6.length = 6 := rfl
theorem name6_drop {i : Nat} (h : i < 6) : name6.drop i = name6.getD i ⟨#[]⟩ :: name6.drop (i + 1) := by
  have hl : i < name6.length := h
  rw [List.drop_eq_getElem_cons hl, List.getD_eq_getElem?_getD, List.getElem?_eq_getElem hl]; rfl

set_option maxHeartbeats 8000000 in
theorem edit_spec (s : Sys) (hs : SW s) (x : Raw33) (hx : R33OK x) : funD (cxT pp) 45 [.agg (cSys s), .agg (cRaw x)] = some (.agg (cEdt (editOf s x))) := by
  have b0 := hs.vars
  have b3 := hs.lo
  have b4 := hs.hi
  obtain ⟨⟨r1, r1'⟩, ⟨r2, r2'⟩, ⟨r3, r3'⟩, ⟨r4, r4'⟩, r5, r6⟩ := hx
  have t1 := tm x.kind 16 r1 (by omega)
  have t2 := tm x.a 4 r2 (by omega)
  have t3 := tm x.n 6 r4 (by omega)
  have w1 : IntKind.i64.wrap (x.kind.tmod 16) = x.kind.tmod 16 := by rw [i64_id] <;> omega
  have w2 : IntKind.i64.wrap (1 + x.kind.tmod 16) = 1 + x.kind.tmod 16 := by rw [i64_id] <;> omega
  have w3 : IntKind.i64.wrap x.a = x.a := by rw [i64_id] <;> omega
  have w4 : IntKind.i64.wrap x.b = x.b := by rw [i64_id] <;> omega
  have w5 : IntKind.i64.wrap x.n = x.n := by rw [i64_id] <;> omega
  have w6 : IntKind.i64.wrap ((s.vars.length : Int) + 1) = (s.vars.length : Int) + 1 := by rw [i64_id] <;> omega
  have w7 : IntKind.i64.wrap (s.next + 1) = s.next + 1 := by rw [i64_id] <;> omega
  have w8 : IntKind.i64.wrap (x.a.tmod 4) = x.a.tmod 4 := by rw [i64_id] <;> omega
  have w9 : IntKind.i64.wrap (5 + x.a.tmod 4) = 5 + x.a.tmod 4 := by rw [i64_id] <;> omega
  have w10 : IntKind.i64.wrap 5 = 5 := by rw [i64_id] <;> omega
  have z1 : ¬ ((s.vars.length : Int) + 1 = 0) := by omega
  have z2 : ¬ (s.next + 1 = 0) := by omega
  have kn := names_spec (pp := pp)
  have km := made_spec (pp := pp) x.p r5 r6 (min s.vars.length 3) (by omega) 2 (by omega) 3 (by omega)
  have hnd := name6_drop (i := (x.n.tmod 6).toNat) (by omega)
  have hmin : ((min s.vars.length 3 : Nat) : Int) = if (3 : Int) < s.vars.length then 3 else (s.vars.length : Int) := by split <;> omega
  have hname : name6.getD (x.n.tmod 6).toNat ⟨#[]⟩ = nameAt (x.n.tmod 6) := rfl
  rw [hname] at hnd
  rw [hmin] at km
  simp at km kn
  rw [fun_45]
  unfold closedD bodyD
  by_cases c1 : 8 ≤ x.kind.tmod 16
  · by_cases c2 : x.a.tmod 8 < 5
    · have ek : editKind x = 5 := by simp [editKind, c1, c2]
      by_cases c3 : 0 < x.n.tmod 4
      · simp [fn45, cRaw, w1, w2, w3, w4, w5, w6, w7, w8, w9, w10, z1, z2, kn, km, hnd, t3.1, t3.2, c1, c2, c3, ek, editOf]
      · simp [fn45, cRaw, w1, w2, w3, w4, w5, w6, w7, w8, w9, w10, z1, z2, kn, km, hnd, t3.1, t3.2, c1, c2, c3, ek, editOf]
    · have ek : editKind x = 5 + x.a.tmod 4 := by simp [editKind, c1, c2]
      by_cases c4 : 5 + x.a.tmod 4 = 5
      · by_cases c3 : 0 < x.n.tmod 4
        · simp [fn45, cRaw, w1, w2, w3, w4, w5, w6, w7, w8, w9, w10, z1, z2, kn, km, hnd, t3.1, t3.2, c1, c2, c3, c4, ek, editOf]
        · simp [fn45, cRaw, w1, w2, w3, w4, w5, w6, w7, w8, w9, w10, z1, z2, kn, km, hnd, t3.1, t3.2, c1, c2, c3, c4, ek, editOf]
      · have c3 := 0
        simp [fn45, cRaw, w1, w2, w3, w4, w5, w6, w7, w8, w9, w10, z1, z2, kn, km, hnd, t3.1, t3.2, c1, c2, c4, ek, editOf]
  · have ek : editKind x = 1 + x.kind.tmod 16 := by simp [editKind, c1]
    by_cases c4 : 1 + x.kind.tmod 16 = 5
    · by_cases c3 : 0 < x.n.tmod 4
      · simp [fn45, cRaw, w1, w2, w3, w4, w5, w6, w7, w8, w9, w10, z1, z2, kn, km, hnd, t3.1, t3.2, c1, c3, c4, ek, editOf]
      · simp [fn45, cRaw, w1, w2, w3, w4, w5, w6, w7, w8, w9, w10, z1, z2, kn, km, hnd, t3.1, t3.2, c1, c3, c4, ek, editOf]
    · simp [fn45, cRaw, w1, w2, w3, w4, w5, w6, w7, w8, w9, w10, z1, z2, kn, km, hnd, t3.1, t3.2, c1, c4, ek, editOf]

/-! ### Made, Edits -/
def stepS (s : Sys) (x : Raw33) : Sys := if (apply s (editOf s x)).2 = 0 then (apply s (editOf s x)).1 else s
def sys1 : Sys := ⟨[], [], [], 1⟩
/-- The system after the edits of descriptions. -/
def madeS (l : List Raw33) (most : Nat) : Sys := (l.take most).foldl stepS sys1
/-- What is kept by every step. -/
structure Keeps33 (pp : Option PrimFn) (G : Sys → Prop) : Prop where
  sw : ∀ s, G s → SW s
  sa : ∀ s, G s → SA s
  pw : ∀ s x, G s → R33OK x → PW (editOf s x).p
  name : ∀ i, 0 ≤ i → i < 6 → NameK pp (nameAt i)
  step : ∀ s x, G s → R33OK x → G (stepS s x)
  one : G sys1

set_option maxHeartbeats 4000000 in
theorem made33_spec {G : Sys → Prop} (hG : Keeps33 pp G) (l : List Raw33) (hl : ∀ x ∈ l, R33OK x) (hlen : l.length < 2 ^ 63) (most : Nat) :
    funD (cxT pp) 17 [sl cRaw l, .int .i64 most] = some (.agg (cSys (madeS l most))) ∧ G (madeS l most) := by
  have loop := loop_fold (cx := cxT pp) (d := 0) (c := c17_0) (l.take most) stepS
    (fun i (s : Sys) st => G s ∧ st.env 0 = .p (sl cRaw l) ∧ st.env 1 = .p (.int .i64 most) ∧ st.env 6 = .p (.int .i64 i) ∧ st.env 5 = .ptr ⟨0, 5⟩ 1 0 ∧ st.env 4 = .ptr ⟨0, 4⟩ 1 0 ∧
      (∃ cs, cs.length = 4 ∧ st.h.get ⟨0, 4⟩ = ⟨1, false, some (.cells cs)⟩) ∧ (∃ ps, ps.length = 4 ∧ PV.erL ps = cSys s ∧ st.h.get ⟨0, 5⟩ = ⟨1, false, some (.cells (ps.map .p))⟩)) (.ex 0) (by simp)
    (by
      rintro i s ⟨env, h⟩ x rest hi hx1 hd ⟨hg, h0, h1, h6, h5, h4, ⟨c4, l4, g4⟩, ⟨ps, l5, e5, g5⟩⟩
      simp only at h0 h1 h6 h5 h4 g4 g5
      have hi' : i < l.length ∧ i < most := by simp at hi; omega
      have hi1 : (i : Int) < l.length := by omega
      have hi2 : (i : Int) < most := by omega
      have hk : ∃ rr, l.drop i = x :: rr := by
        have hge : l[i]? = some x := by
          rw [List.getElem?_take] at hx1
          rwa [if_pos hi'.2] at hx1
        rw [List.getElem?_eq_getElem hi'.1] at hge
        exact ⟨l.drop (i + 1), by rw [List.drop_eq_getElem_cons hi'.1, Option.some.inj hge]⟩
      obtain ⟨rr, hk⟩ := hk
      have hw := inc_id hi'.1 hlen
      have hxo := hl x (mem_drop hk)
      have ke := edit_spec (pp := pp) s (hG.sw s hg) x hxo
      have t3 := tm x.n 6 hxo.n.1 (by omega)
      have ka := apply_spec (pp := pp) s (hG.sw s hg) (hG.sa s hg) (editOf s x) (hG.pw s x hg hxo) (hG.name _ t3.1 t3.2)
      have hst := hG.step s x hg hxo
      simp [cRaw] at ke
      simp at ka
      by_cases c : (apply s (editOf s x)).2 = 0
      · have hss : stepS s x = (apply s (editOf s x)).1 := by simp [stepS, c]
        rw [hss] at hst
        generalize (apply s (editOf s x)).1 = S2 at *
        simp [-Prod.exists, c17_0, h0, h1, h6, h5, h4, g4, g5, l5, e5, hi1, hi2, hi'.1, hk, cRaw, ke, ka, c, hw, hss, hst, l4]
        have hd : ps.drop 4 = [] := List.drop_eq_nil_of_le (by omega)
        exact ⟨cSys S2, rfl, by simp, by simp [← List.map_drop, hd]⟩
      · have hss : stepS s x = s := by simp [stepS, c]
        simp [-Prod.exists, c17_0, h0, h1, h6, h5, h4, g4, g5, l5, e5, hi1, hi2, hi'.1, hk, cRaw, ke, ka, c, hw, hss, hg, l4]
        exact ⟨ps, l5, by simpa using e5, rfl⟩)
    (by
      rintro s ⟨env, h⟩ ⟨hg, h0, h1, h6, h5, h4, ⟨c4, l4, g4⟩, ⟨ps, l5, e5, g5⟩⟩
      simp only at h0 h1 h6 h5 h4 g4 g5
      by_cases hlt : l.length ≤ most
      · have e1 : min most l.length = l.length := by omega
        simp [e1] at h6
        simp [-Prod.exists, c17_0, h0, h1, h6, h5, h4, g4, g5, l5, e5, e1, hg, l4]
        exact ⟨ps, l5, by simpa using e5, rfl⟩
      · have e1 : min most l.length = most := by omega
        have e2 : (most : Int) < l.length := by omega
        simp [e1] at h6
        simp [-Prod.exists, c17_0, h0, h1, h6, h5, h4, g4, g5, l5, e5, e1, e2, hg, l4]
        exact ⟨ps, l5, by simpa using e5, rfl⟩)
  rw [fun_17]
  unfold closedD bodyD madeS
  simp [fn17]
  generalize hX : codeD (cxT pp) 0 (ACode.loop c17_0) _ = X
  obtain ⟨e, env, h, rfl, q⟩ := at_code hX (loop sys1 _ (by
    refine ⟨hG.one, by simp, by simp, by simp, by simp, by simp, by simp, ⟨[.frz .nil 0 [], .frz .nil 0 [], .frz .nil 0 [], .int .i64 1], rfl, by simp [sys1], by simp⟩⟩))
  simp only at q
  obtain ⟨rfl, hg, -, -, -, q5, q4, ⟨c4, l4, g4⟩, ⟨ps, l5, e5, g5⟩⟩ := q
  have hd4 : c4.drop 4 = [] := List.drop_eq_nil_of_le (by omega)
  simp [q5, q4, g4, g5, l4, l5, e5, hg, hd4]
end Go.Va
end
section
open Go.Proofs
namespace Go.Va
variable {pp : Option PrimFn}

theorem ownD_of {cx : Cx} {f : FuncId} {fn : AFn} (hf : cx.fns f = some fn) (ps : List PV) : ownD cx f ps = (bodyD cx 0 fn (ps.map .p) Hp.none).bind (ownR fn.rs) := by
  unfold ownD; rw [hf]; rfl

/-! ### Edits -/
def cE (e : Edt) : List PV := cEdt e
@[simp] theorem cE_len (t : Edt) : (cE t).length = 7 := by simp [cE]
@[simp] theorem cE_er (t : Edt) : PV.erL (cE t) = cE t := by simp [cE]
@[simp high] theorem edts_len (p : List Edt) : (p.flatMap cE).length = p.length * 7 := flat_len cE_len p
@[simp] theorem edts_drop (p : List Edt) (i : Nat) : (p.flatMap cE).drop (i * 7) = (p.drop i).flatMap cE := flat_drop cE_len p i
@[simp] theorem edts_take (p : List Edt) (i : Nat) : (p.flatMap cE).take (i * 7) = (p.take i).flatMap cE := flat_take cE_len p i
@[simp] theorem edts_er (p : List Edt) : PV.erL (p.flatMap cE) = p.flatMap cE := flat_er cE_er p
def stepE (a : Sys × List Edt) (x : Raw33) : Sys × List Edt :=
  if (apply a.1 (editOf a.1 x)).2 = 0 then ((apply a.1 (editOf a.1 x)).1, a.2 ++ [editOf a.1 x]) else a
/-- The edits that descriptions make of a system. -/
def editsS (s : Sys) (l : List Raw33) (most : Nat) : List Edt := ((l.take most).foldl stepE (s, [])).2

set_option maxHeartbeats 4000000 in
theorem edits_spec {G : Sys → Prop} (hG : Keeps33 pp G) (s0 : Sys) (h0s : G s0) (l : List Raw33) (hl : ∀ x ∈ l, R33OK x) (hlen : l.length < 2 ^ 63) (most : Nat) (hmost : most < 2 ^ 20) :
    ownD (cxT pp) 18 [.agg (cSys s0), sl cRaw l, .int .i64 most] = some (.inr ((editsS s0 l most).length, 7, false, (editsS s0 l most).flatMap cE)) := by
  have loop := loop_fold (cx := cxT pp) (d := 0) (c := c18_0) (l.take most) stepE
    (fun i (a : Sys × List Edt) st => G a.1 ∧ a.2.length ≤ i ∧ Row st 7 ⟨0, 12⟩ 7 a.2.length (a.2.flatMap cE) ∧ st.env 1 = .p (sl cRaw l) ∧ st.env 2 = .p (.int .i64 most) ∧ st.env 8 = .p (.int .i64 i) ∧ st.env 3 = .ptr ⟨0, 3⟩ 1 0 ∧
      st.h.get ⟨0, 3⟩ = ⟨1, false, some (.cells ((cSys a.1).map .p))⟩) (.ex 0) (by simp)
    (by
      rintro i ⟨s, out⟩ ⟨env, h⟩ x rest hi hx1 hd ⟨hg, hol, ⟨v, h7, g7⟩, h1, h2, h8, h3, g3⟩
      simp only at hg hol h7 g7 h1 h2 h8 h3 g3
      have hi' : i < l.length ∧ i < most := by simp at hi; omega
      have hi1 : (i : Int) < l.length := by omega
      have hi2 : (i : Int) < most := by omega
      have hk : ∃ rr, l.drop i = x :: rr := by
        have hge : l[i]? = some x := by
          rw [List.getElem?_take] at hx1
          rwa [if_pos hi'.2] at hx1
        rw [List.getElem?_eq_getElem hi'.1] at hge
        exact ⟨l.drop (i + 1), by rw [List.drop_eq_getElem_cons hi'.1, Option.some.inj hge]⟩
      obtain ⟨rr, hk⟩ := hk
      have hw := inc_id hi'.1 hlen
      have hxo := hl x (mem_drop hk)
      have ke := edit_spec (pp := pp) s (hG.sw s hg) x hxo
      have t3 := tm x.n 6 hxo.n.1 (by omega)
      have ka := apply_spec (pp := pp) s (hG.sw s hg) (hG.sa s hg) (editOf s x) (hG.pw s x hg hxo) (hG.name _ t3.1 t3.2)
      have hst := hG.step s x hg hxo
      have hr := @roomy_ok (out.length + 1) 80 (by omega) (by decide)
      simp [cRaw] at ke
      simp at ka
      by_cases c : (apply s (editOf s x)).2 = 0
      · have hss : stepS s x = (apply s (editOf s x)).1 := by simp [stepS, c]
        rw [hss] at hst
        have hse : stepE (s, out) x = ((apply s (editOf s x)).1, out ++ [editOf s x]) := by simp [stepE, c]
        generalize (apply s (editOf s x)).1 = S2 at *
        generalize editOf s x = E at *
        simp [-Prod.exists, c18_0, h7, g7, h1, h2, h8, h3, g3, hi1, hi2, hi'.1, hk, cRaw, ke, ka, c, hw, hse, hst, hr, Row, cE]
        omega
      · have hse : stepE (s, out) x = (s, out) := by simp [stepE, c]
        generalize (apply s (editOf s x)).1 = S2 at *
        generalize editOf s x = E at *
        simp [-Prod.exists, c18_0, h7, g7, h1, h2, h8, h3, g3, hi1, hi2, hi'.1, hk, cRaw, ke, ka, c, hw, hse, hg, hr, Row]
        omega)
    (by
      rintro ⟨s, out⟩ ⟨env, h⟩ ⟨hg, hol, ⟨v, h7, g7⟩, h1, h2, h8, h3, g3⟩
      simp only at hg hol h7 g7 h1 h2 h8 h3 g3
      by_cases hlt : l.length ≤ most
      · have e1 : min most l.length = l.length := by omega
        simp [e1] at h8 hol
        simp [-Prod.exists, c18_0, h7, g7, h1, h2, h8, h3, g3, e1, hg, hol, Row]
      · have e1 : min most l.length = most := by omega
        have e2 : (most : Int) < l.length := by omega
        simp [e1] at h8 hol
        simp [-Prod.exists, c18_0, h7, g7, h1, h2, h8, h3, g3, e1, e2, hg, hol, Row])
  rw [ownD_of fns_18]
  unfold bodyD editsS
  simp [fn18]
  generalize hX : codeD (cxT pp) 0 (ACode.loop c18_0) _ = X
  obtain ⟨e, env, h, rfl, q⟩ := at_code hX (loop (s0, []) _ (by simp [Row, h0s]))
  simp only at q
  obtain ⟨rfl, -, -, ⟨v, q2, q3⟩, -⟩ := q
  generalize (l.take most).foldl stepE (s0, []) = A at *
  obtain ⟨S, out⟩ := A
  simp only at q2 q3
  simp [q2, q3, ownR]

/-! ### SameList, Same -/
theorem samelist_spec (a b : List Eqn) (ha : EW a) (hb : EW b) : funD (cxT pp) 73 [sl cEqn a, sl cEqn b] = some (.bool (decide (a = b))) := by
  have la := ha.1
  have lb := hb.1
  rw [fun_73]
  unfold closedD bodyD
  by_cases hlen : a.length = b.length
  · have loop := loop_find (cx := cxT pp) (d := 0) (c := c73_0) (a.zip b) (fun _ (x : Eqn × Eqn) => if x.1 = x.2 then none else some ())
      (fun i s => s.h = Hp.none ∧ s.env 0 = .p (sl cEqn a) ∧ s.env 1 = .p (sl cEqn b) ∧ s.env 5 = .p (.int .i64 i))
      (fun z a => a.1 = .ret ∧ a.2.env 4 = .p (.bool false)) (.ex 0) (by simp)
      (by
        rintro i ⟨env, h⟩ ⟨x, y⟩ rest hi hx hd ⟨rfl, h0, h1, h5⟩
        simp only at h0 h1 h5
        simp [← hlen] at hi
        have hw := inc_id hi (by omega)
        obtain ⟨ra, rb, da, db⟩ := zip_drop' hd
        have px := ha.2 x (mem_drop da)
        have py := hb.2 y (mem_drop db)
        have hs := r6same_spec (pp := pp) x.p y.p px.1 py.1 (by have := px.2.2; omega)
        have hi2 : i < b.length := by omega
        by_cases c1 : x.id = y.id
        · by_cases c2 : x.p = y.p
          · have hxy : x = y := by cases x; cases y; simp_all
            subst hxy
            simp [c73_0, h0, h1, h5, hi, hi2, da, db, hs, hw]
          · have hxy : ¬ x = y := fun e => c2 (by rw [e])
            simp [c73_0, h0, h1, h5, hi, hi2, da, db, hs, hxy, c1, c2]
        · have hxy : ¬ x = y := fun e => c1 (by rw [e])
          simp [c73_0, h0, h1, h5, hi, hi2, da, db, hs, hxy, c1])
      (by
        rintro ⟨env, h⟩ ⟨rfl, h0, h1, h5⟩
        simp only at h0 h1 h5
        simp [← hlen] at h5
        simp [c73_0, h0, h1, h5, ← hlen])
    simp [fn73, hlen]
    generalize hx : codeD (cxT pp) 0 (ACode.loop c73_0) _ = X
    obtain ⟨e, env, h, rfl, q1⟩ := at_code hx (loop _ (by simp [hlen]))
    simp only at q1
    have key : ∀ (p q : List Eqn) (i : Nat), p.length = q.length → (findL (fun _ (x : Eqn × Eqn) => if x.1 = x.2 then none else some ()) (p.zip q) i).isNone = decide (p = q) := by
      intro p
      induction p with
      | nil => intro q i h; cases q <;> simp_all [findL]
      | cons a p ih =>
        intro q i h
        cases q with
        | nil => simp at h
        | cons b q =>
          have := ih q (i + 1) (by simpa using h)
          by_cases hab : a = b
          · simp [findL, hab, this]
          · simp [findL, hab]
    have hc := key a b 0 hlen
    revert q1 hc
    cases findL (fun _ (x : Eqn × Eqn) => if x.1 = x.2 then none else some ()) (a.zip b) 0 with
    | none => simp +contextual
    | some z => simp +contextual
  · have : ¬ a = b := fun e => hlen (by rw [e])
    have hl2 : ¬ ((a.length : Int) = b.length) := by omega
    simp [fn73, hl2, this]

set_option maxHeartbeats 1000000 in
theorem same32_spec (a b : Sys) (va : a.vars.length < 2 ^ 30) (ha : EW a.eqs) (ha2 : EW a.neqs) (hb : EW b.eqs) (hb2 : EW b.neqs) : funD (cxT pp) 24 [.agg (cSys a), .agg (cSys b)] = some (.bool (decide (a = b))) := by
  have k1 := samelist_spec (pp := pp) a.eqs b.eqs ha hb
  have k2 := samelist_spec (pp := pp) a.neqs b.neqs ha2 hb2
  rw [fun_24]
  unfold closedD bodyD
  by_cases hlen : a.vars.length = b.vars.length
  · by_cases c1 : a.next = b.next
    · by_cases c2 : a.eqs = b.eqs
      · by_cases c3 : a.neqs = b.neqs
        · have loop := loop_find (cx := cxT pp) (d := 0) (c := c24_0) (a.vars.zip b.vars) (fun _ (x : ByteArray × ByteArray) => if x.1 = x.2 then none else some ())
            (fun i s => s.h.get ⟨0, 2⟩ = ⟨1, false, some (.cells ((cSys a).map .p))⟩ ∧ s.h.get ⟨0, 3⟩ = ⟨1, false, some (.cells ((cSys b).map .p))⟩ ∧ s.env 2 = .ptr ⟨0, 2⟩ 1 0 ∧ s.env 3 = .ptr ⟨0, 3⟩ 1 0 ∧ s.env 5 = .p (.int .i64 i))
            (fun z a => a.1 = .ret ∧ a.2.env 4 = .p (.bool false)) (.ex 0) (by simp)
            (by
              rintro i ⟨env, h⟩ ⟨x, y⟩ rest hi hx hd ⟨g2, g3, h2, h3, h5⟩
              simp only at g2 g3 h2 h3 h5
              simp [← hlen] at hi
              have hw := inc_id hi (by omega)
              obtain ⟨ra, rb, da, db⟩ := zip_drop' hd
              have hi2 : i < b.vars.length := by omega
              by_cases hxy : x = y
              · subst hxy
                simp [c24_0, g2, g3, h2, h3, h5, hi, hi2, da, db, hw]
              · simp [c24_0, g2, g3, h2, h3, h5, hi, hi2, da, db, hxy])
            (by
              rintro ⟨env, h⟩ ⟨g2, g3, h2, h3, h5⟩
              simp only at g2 g3 h2 h3 h5
              simp [← hlen] at h5
              simp [c24_0, g2, g3, h2, h3, h5, ← hlen])
          simp [c1, c2, c3] at k1 k2
          simp [fn24, hlen, c1, c2, c3, k1, k2]
          generalize hx : codeD (cxT pp) 0 (ACode.loop c24_0) _ = X
          obtain ⟨e, env, h, rfl, q1⟩ := at_code hx (loop _ (by simp [hlen, c1, c2, c3]))
          simp only at q1
          have key : ∀ (p q : List ByteArray) (i : Nat), p.length = q.length → (findL (fun _ (x : ByteArray × ByteArray) => if x.1 = x.2 then none else some ()) (p.zip q) i).isNone = decide (p = q) := by
            intro p
            induction p with
            | nil => intro q i h; cases q <;> simp_all [findL]
            | cons a p ih =>
              intro q i h
              cases q with
              | nil => simp at h
              | cons b q =>
                have := ih q (i + 1) (by simpa using h)
                by_cases hab : a = b
                · simp [findL, hab, this]
                · simp [findL, hab]
          have hc := key a.vars b.vars 0 hlen
          have he : (a = b) = (a.vars = b.vars) := by
            cases a; cases b
            simp at c1 c2 c3
            simp [c1, c2, c3]
          simp only [he]
          revert q1 hc
          cases findL (fun _ (x : ByteArray × ByteArray) => if x.1 = x.2 then none else some ()) (a.vars.zip b.vars) 0 with
          | none => simp +contextual
          | some z => simp +contextual
        · have : ¬ a = b := fun e => c3 (by rw [e])
          simp [c3] at k2
          simp [c2] at k1
          simp [fn24, hlen, c1, c2, c3, k1, k2, this]
      · have : ¬ a = b := fun e => c2 (by rw [e])
        simp [c2] at k1
        simp [fn24, hlen, c1, c2, k1, this]
    · have : ¬ a = b := fun e => c1 (by rw [e])
      simp [fn24, hlen, c1, this]
  · have : ¬ a = b := fun e => hlen (by rw [e])
    have hl2 : ¬ ((a.vars.length : Int) = b.vars.length) := by omega
    simp [fn24, hl2, this]
end Go.Va
end
section
open Go.Proofs
namespace Go.Va
variable {pp : Option PrimFn}

/-! ### monomial -/
theorem mvalid_spec (a : Mono) : funD (cxT pp) 198 [.agg (ints a.l)] = some (.bool (mvalid a)) := by
  have hz := a.h
  have loop := loop_find (cx := cxT pp) (d := 0) (c := c198_0) a.l (fun _ x => if evalid x then none else some ())
    (fun i s => s.env 5 = .p (.agg (ints a.l)) ∧ s.env 6 = .p (.int .i64 i))
    (fun z a => a.1 = .ret ∧ a.2.env 2 = .p (.bool false)) (.ex 0) (by simp)
    (by
      rintro i ⟨env, h⟩ x rest hi hx hd ⟨h5, h6⟩
      simp only at h5 h6
      rw [hz] at hi
      have hw := inc_id hi (by omega)
      have hi' : (i : Int) < 8 := by omega
      have hi7 : (i : Int) ≤ 7 := by omega
      have hi1 : i + 1 ≤ 8 := by omega
      by_cases c1 : x < 0
      · simp [c198_0, h5, h6, hi, hi', hi7, hi1, hd, c1, evalid, show ¬ 0 ≤ x by omega]
      · by_cases c2 : 65535 < x
        · simp [c198_0, h5, h6, hi, hi', hi7, hi1, hd, c1, c2, evalid, show ¬ x ≤ 65535 by omega]
        · simp [c198_0, h5, h6, hi, hi', hi7, hi1, hd, c1, c2, evalid, hw, show 0 ≤ x by omega, show x ≤ 65535 by omega])
    (by
      rintro ⟨env, h⟩ ⟨h5, h6⟩
      rw [hz] at h6
      simp only at h5 h6
      simp [c198_0, h5, h6])
  rw [fun_198]
  unfold closedD bodyD mvalid
  simp [fn198]
  generalize hx : codeD (cxT pp) 0 (ACode.loop c198_0) _ = X
  obtain ⟨e, env, h, rfl, q⟩ := at_code hx (loop _ (by simp))
  simp only at q
  have hc := all_find evalid a.l 0
  revert q hc
  cases findL (fun _ x => if evalid x then none else some ()) a.l 0 with
  | none => simp +contextual
  | some z => simp +contextual

theorem mdeg_spec (a : Mono) (ha : mvalid a = true) : funD (cxT pp) 199 [.agg (ints a.l)] = some (.int .i64 (mdeg a)) := by
  have hz := a.h
  have hv : ∀ x ∈ a.l, 0 ≤ x ∧ x ≤ 65535 := by
    intro x hx
    have := List.all_eq_true.1 ha x hx
    simpa [evalid] using this
  have loop := loop_fold (cx := cxT pp) (d := 0) (c := c199_0) a.l (fun (n : Int) x => n + x)
    (fun i n s => (0 ≤ n ∧ n ≤ 65535 * i) ∧ s.env 6 = .p (.agg (ints a.l)) ∧ s.env 3 = .p (.int .i64 n) ∧ s.env 7 = .p (.int .i64 i)) (.ex 0) (by simp)
    (by
      rintro i n ⟨env, h⟩ x rest hi hx hd ⟨hn, h6, h3, h7⟩
      simp only at h6 h3 h7
      have hxv := hv x (List.mem_of_getElem? hx)
      rw [hz] at hi
      have hw := inc_id hi (by omega)
      have hi' : (i : Int) < 8 := by omega
      have hi7 : (i : Int) ≤ 7 := by omega
      have hi1 : i + 1 ≤ 8 := by omega
      have hs : IntKind.i64.wrap (n + x) = n + x := by rw [i64_id] <;> omega
      simp [c199_0, h6, h3, h7, hi, hi', hi7, hi1, hd, hw, hs]
      omega)
    (by
      rintro n ⟨env, h⟩ ⟨hn, h6, h3, h7⟩
      rw [hz] at h7 hn
      simp only at h6 h3 h7
      simp [c199_0, h6, h3, h7, hn, hz]
      omega)
  rw [fun_199]
  unfold closedD bodyD mdeg
  simp [fn199]
  generalize hx : codeD (cxT pp) 0 (ACode.loop c199_0) _ = X
  obtain ⟨e, env, h, rfl, q⟩ := at_code hx (loop 0 _ (by simp))
  simp only at q
  obtain ⟨rfl, -, -, q3, -⟩ := q
  have e : ∀ (l : List Int) (n : Int), l.foldl (fun n x => n + x) n = n + l.sum := by
    intro l; induction l with
    | nil => simp
    | cons x l ih => intro n; simp [ih, Int.add_assoc]
  rw [e] at q3
  simp [q3]

theorem or_pow {n i : Nat} (h : n < 2 ^ i) : n ||| 2 ^ i = n + 2 ^ i := by
  have := Nat.two_pow_add_eq_or_of_lt h 1
  simp only [Nat.mul_one] at this
  rw [Nat.or_comm, ← this]; omega
theorem msup_spec (a : Mono) : funD (cxT pp) 195 [.agg (ints a.l)] = some (.int .u8 (msup a : Nat)) := by
  have hz := a.h
  have loop := loop_foldI (cx := cxT pp) (d := 0) (c := c195_0) a.l (fun i (n : Nat) (x : Int) => if 0 < x then n + 2 ^ i else n)
    (fun i n s => n < 2 ^ i ∧ s.env 6 = .p (.agg (ints a.l)) ∧ s.env 3 = .p (.int .u8 (n : Nat)) ∧ s.env 7 = .p (.int .i64 i)) (.ex 0) (by simp)
    (by
      rintro i n ⟨env, h⟩ x rest hi hx hd ⟨hn, h6, h3, h7⟩
      simp only at h6 h3 h7
      rw [hz] at hi
      have hw := inc_id hi (by omega)
      have hi' : (i : Int) < 8 := by omega
      have hi7 : (i : Int) ≤ 7 := by omega
      have hi1 : i + 1 ≤ 8 := by omega
      have hp : (2 : Nat) ^ (i + 1) = 2 ^ i + 2 ^ i := by rw [Nat.pow_succ]; omega
      have h8 : (2 : Nat) ^ (i + 1) ≤ 2 ^ 8 := Nat.pow_le_pow_right (by decide) hi1
      have hmin : min i 8 = i := by omega
      have hneg : ¬ ((i : Int) < 0) := by omega
      have hsh : IntKind.u8.wrap ((2 : Int) ^ i) = ((2 ^ i : Nat) : Int) := by
        rw [show ((2 : Int) ^ i) = ((2 ^ i : Nat) : Int) by simp]
        rw [u8_id] <;> omega
      have ho := bin_or8 (a := n) (b := 2 ^ i) (by omega) (by omega)
      rw [or_pow hn] at ho
      by_cases c1 : 0 < x
      · simp [-Int.natCast_pow, c195_0, h6, h3, h7, hi, hi', hi7, hi1, hd, c1, hw, hmin, hneg, IntKind.bits, hsh, ho]
        omega
      · simp [c195_0, h6, h3, h7, hi, hi', hi7, hi1, hd, c1, hw]
        omega)
    (by
      rintro n ⟨env, h⟩ ⟨hn, h6, h3, h7⟩
      rw [hz] at h7 hn
      simp only at h6 h3 h7
      simp [c195_0, h6, h3, h7, hz]
      omega)
  rw [fun_195]
  unfold closedD bodyD msup
  simp [fn195]
  generalize hx : codeD (cxT pp) 0 (ACode.loop c195_0) _ = X
  obtain ⟨e, env, h, rfl, q⟩ := at_code hx (loop 0 _ (by simp))
  simp only at q
  obtain ⟨rfl, -, -, q3, -⟩ := q
  rw [supF_fold] at q3
  simp [q3]

theorem nan_spec (x : Int) : funD (cxT pp) 246 [.int .i64 x] = some (.bool false) := by
  rw [fun_246]
  unfold closedD bodyD
  simp [fn246]
theorem cmpI_spec (x y : Int) : funD (cxT pp) 232 [.int .i64 x, .int .i64 y] = some (.int .i64 (if x < y then -1 else if y < x then 1 else 0)) := by
  have k1 := nan_spec (pp := pp) x
  have k2 := nan_spec (pp := pp) y
  rw [fun_232]
  unfold closedD bodyD
  by_cases c1 : x < y
  · simp [fn232, k1, k2, c1]
  · by_cases c2 : y < x
    · simp [fn232, k1, k2, c1, c2]
    · simp [fn232, k1, k2, c1, c2]
theorem compare_spec (a b : Mono) : funD (cxT pp) 214 [.frz .any 8 (ints a.l), .frz .any 8 (ints b.l)] = some (.int .i64 (mcmp a b)) := by
  have hz : (a.l.zip b.l).length = 8 := by simp
  have loop := loop_find (cx := cxT pp) (d := 0) (c := c214_0) (a.l.zip b.l) (fun _ (x : Int × Int) => if x.1 < x.2 then some (-1 : Int) else if x.2 < x.1 then some 1 else none)
    (fun i s => s.env 9 = .p (.frz .any 8 (ints a.l)) ∧ s.env 1 = .p (.frz .any 8 (ints b.l)) ∧ s.env 0 = .p (.frz .any 8 (ints a.l)) ∧ s.env 10 = .p (.int .i64 8) ∧ s.env 11 = .p (.int .i64 i))
    (fun z a => a.1 = .ret ∧ a.2.env 4 = .p (.int .i64 z)) (.ex 0) (by simp)
    (by
      rintro i ⟨env, h⟩ ⟨x, y⟩ rest hi hx hd ⟨h9, h1, h0, h10, h11⟩
      simp only at h9 h1 h0 h10 h11
      rw [hz] at hi
      have hw := inc_id hi (by omega)
      have hi' : (i : Int) < 8 := by omega
      have hi7 : (i : Int) ≤ 7 := by omega
      have hi2 : ¬ (8 : Int) ≤ i := by omega
      have hi1 : i + 1 ≤ 8 := by omega
      obtain ⟨ra, rb, da, db⟩ := zip_drop' hd
      have k := cmpI_spec (pp := pp) x y
      by_cases c1 : x < y
      · simp [c1] at k
        simp [c214_0, h9, h1, h0, h10, h11, hi, hi', hi7, hi1, hi2, da, db, c1, k]
      · by_cases c2 : y < x
        · simp [c1, c2] at k
          simp [c214_0, h9, h1, h0, h10, h11, hi, hi', hi7, hi1, hi2, da, db, c1, c2, k]
        · simp [c1, c2] at k
          simp [c214_0, h9, h1, h0, h10, h11, hi, hi', hi7, hi1, hi2, da, db, c1, c2, hw, k])
    (by
      rintro ⟨env, h⟩ ⟨h9, h1, h0, h10, h11⟩
      rw [hz] at h11
      simp only at h9 h1 h0 h10 h11
      simp [c214_0, h9, h1, h0, h10, h11])
  rw [fun_214]
  unfold closedD bodyD mcmp
  simp [fn214]
  generalize hx : codeD (cxT pp) 0 (ACode.loop c214_0) _ = X
  obtain ⟨e, env, h, rfl, q⟩ := at_code hx (loop _ (by simp))
  simp only at q
  have hc := cmpL_find (a.l.zip b.l) 0
  revert q hc
  cases findL (fun _ (x : Int × Int) => if x.1 < x.2 then some (-1 : Int) else if x.2 < x.1 then some 1 else none) (a.l.zip b.l) 0 with
  | none => simp +contextual
  | some z => simp +contextual
theorem pcmp_spec (a b : Mono) : funD (cxT pp) 186 [.agg (ints a.l), .agg (ints b.l)] = some (.int .i64 (mcmp a b)) := by
  have k := compare_spec (pp := pp) a b
  rw [fun_186]
  unfold closedD bodyD
  simp [fn186, k]

/-! ### polynomial -/
set_option maxHeartbeats 1000000 in
theorem pvalid_spec (p : Poly) (hp : Sm 12 p) (hl : p.length < 2 ^ 30) : funD (cxT pp) 165 [poly p] = some (.bool (pvalid p)) := by
  have loop := loop_run (cx := cxT pp) (d := 0) (c := c165_0) p (fun _ (o : Option Mono) t => if tok o t then .inl (some t.m) else .inr ())
    (fun i o s => (s.env 0 = .p (poly p) ∧ s.env 5 = .p (poly p) ∧ s.env 6 = .p (.int .i64 p.length) ∧ s.env 7 = .p (.int .i64 i)) ∧ PrevP p i o)
    (fun _ a => a.1 = .ret ∧ a.2.env 2 = .p (.bool false)) (.ex 0) (by simp)
    (by
      rintro i o ⟨env, h⟩ x rest hi hx hd ⟨⟨h0, h5, h6, h7⟩, ho⟩
      simp only at h0 h5 h6 h7
      have hw := inc_id hi (by omega)
      have hc := hp x (mem_drop hd)
      have k1 := qvalid (pp := pp) x.c hc
      have k2 := qsign (pp := pp) x.c hc
      have k3 := mvalid_spec (pp := pp) x.m
      have hi2 : (i : Int) < p.length := by omega
      by_cases c1 : x.c = 0
      · have e : sgn x.c = 0 := by simp [c1, sgn]
        have ht : tok o x = false := by simp [tok, c1]
        rw [e] at k2
        simp [c165_0, h0, h5, h6, h7, hi, hi2, hd, cTerm, k1, k2, k3, ht]
      · cases c2 : mvalid x.m
        · have ht : tok o x = false := by simp [tok, c2]
          simp [c165_0, h0, h5, h6, h7, hi, hi2, hd, cTerm, k1, k2, k3, sgn0, c1, c2, ht]
        · rcases ho with ⟨hi0, rfl⟩ | ⟨k, t0, r0, hk, hd0, rfl⟩
          · have e0 : ¬ (0 < i) := by omega
            have ht : tok none x = true := by simp [tok, c1, c2]
            have ho' : PrevP p (i + 1) (some x.m) := .inr ⟨i, x, rest, rfl, hd, rfl⟩
            simp [c165_0, h0, h5, h6, h7, hi, hi2, hd, cTerm, k1, k2, k3, sgn0, c1, c2, ht, hw, e0, ho']
          · have k4 := pcmp_spec (pp := pp) t0.m x.m
            have e1 : IntKind.i64.wrap ((i : Int) - 1) = (k : Int) := by rw [i64_id] <;> omega
            have e2 : 0 < i := by omega
            have e3 : k < p.length := by omega
            have ho' : PrevP p (i + 1) (some x.m) := .inr ⟨i, x, rest, rfl, hd, rfl⟩
            by_cases c3 : 0 < mcmp t0.m x.m
            · have c3' : ¬ mcmp t0.m x.m ≤ 0 := by omega
              have ht : tok (some t0.m) x = true := by simp [tok, c1, c2, c3]
              simp [c165_0, h0, h5, h6, h7, hi, hi2, hd, hd0, cTerm, k1, k2, k3, k4, sgn0, c1, c2, c3', ht, hw, e1, e2, e3, ho']
            · have c3' : mcmp t0.m x.m ≤ 0 := by omega
              have ht : tok (some t0.m) x = false := by simp [tok, c3]
              simp [c165_0, h0, h5, h6, h7, hi, hi2, hd, hd0, cTerm, k1, k2, k3, k4, sgn0, c1, c2, c3', ht, e1, e2, e3])
    (by
      rintro o ⟨env, h⟩ ⟨⟨h0, h5, h6, h7⟩, ho⟩
      simp only at h0 h5 h6 h7
      simp [c165_0, h0, h5, h6, h7, ho])
  rw [fun_165]
  unfold closedD bodyD pvalid
  simp [fn165]
  generalize hx : codeD (cxT pp) 0 (ACode.loop c165_0) _ = X
  obtain ⟨e, env, h, rfl, q⟩ := at_code hx (loop none _ (by simp [PrevP]))
  simp only at q
  have hc := pvF_run p 0 none
  revert q hc
  cases runL (fun _ (o : Option Mono) t => if tok o t then .inl (some t.m) else .inr ()) p 0 none with
  | inl o =>
    rintro ⟨rfl, -, -⟩ hc
    simp [← hc]
  | inr u =>
    rintro ⟨rfl, q2⟩ hc
    simp [q2, ← hc]
theorem pdeg_spec (p : Poly) (hv : ∀ t ∈ p, mvalid t.m = true) (hl : p.length < 2 ^ 30) : funD (cxT pp) 166 [poly p] = some (.int .i64 (pdeg p)) := by
  have loop := loop_fold (cx := cxT pp) (d := 0) (c := c166_0) p (fun (d : Int) t => max d (mdeg t.m))
    (fun i d s => s.env 6 = .p (poly p) ∧ s.env 3 = .p (.int .i64 d) ∧ s.env 7 = .p (.int .i64 p.length) ∧ s.env 8 = .p (.int .i64 i)) (.ex 0) (by simp)
    (by
      rintro i d ⟨env, h⟩ x rest hi hx hd ⟨h6, h3, h7, h8⟩
      simp only at h6 h3 h7 h8
      have hw := inc_id hi (by omega)
      have hi2 : (i : Int) < p.length := by omega
      have k1 := mdeg_spec (pp := pp) x.m (hv x (mem_drop hd))
      by_cases c : d < mdeg x.m
      · have c' : max d (mdeg x.m) = mdeg x.m := by omega
        simp [c166_0, h6, h3, h7, h8, hi, hi2, hd, cTerm, k1, hw, c, c']
      · have c' : max d (mdeg x.m) = d := by omega
        simp [c166_0, h6, h3, h7, h8, hi, hi2, hd, cTerm, k1, hw, c, c'])
    (by
      rintro d ⟨env, h⟩ ⟨h6, h3, h7, h8⟩
      simp only at h6 h3 h7 h8
      simp [c166_0, h6, h3, h7, h8])
  rw [fun_166]
  unfold closedD bodyD pdeg
  simp [fn166]
  generalize hx : codeD (cxT pp) 0 (ACode.loop c166_0) _ = X
  obtain ⟨e, env, h, rfl, q⟩ := at_code hx (loop (-1) _ (by simp))
  simp only at q
  obtain ⟨rfl, -, q3, -⟩ := q
  simp [q3]
theorem puse_spec (p : Poly) (hl : p.length < 2 ^ 30) : funD (cxT pp) 163 [poly p] = some (.int .u8 (puse p : Nat)) := by
  have loop := loop_fold (cx := cxT pp) (d := 0) (c := c163_0) p (fun (n : Nat) t => n ||| msup t.m)
    (fun i n s => n < 256 ∧ s.env 6 = .p (poly p) ∧ s.env 3 = .p (.int .u8 (n : Nat)) ∧ s.env 7 = .p (.int .i64 p.length) ∧ s.env 8 = .p (.int .i64 i)) (.ex 0) (by simp)
    (by
      rintro i n ⟨env, h⟩ x rest hi hx hd ⟨hn, h6, h3, h7, h8⟩
      simp only at h6 h3 h7 h8
      have hw := inc_id hi (by omega)
      have hi2 : (i : Int) < p.length := by omega
      have k1 := msup_spec (pp := pp) x.m
      have ho := bin_or8 hn (msup_lt x.m)
      have hlt : n ||| msup x.m < 2 ^ 8 := Nat.or_lt_two_pow hn (msup_lt x.m)
      simp [c163_0, h6, h3, h7, h8, hi, hi2, hd, cTerm, k1, hw, ho]
      exact hlt)
    (by
      rintro d ⟨env, h⟩ ⟨hn, h6, h3, h7, h8⟩
      simp only at h6 h3 h7 h8
      simp [c163_0, h6, h3, h7, h8, hn])
  rw [fun_163]
  unfold closedD bodyD puse
  simp [fn163]
  generalize hx : codeD (cxT pp) 0 (ACode.loop c163_0) _ = X
  obtain ⟨e, env, h, rfl, q⟩ := at_code hx (loop 0 _ (by simp))
  simp only at q
  obtain ⟨rfl, -, -, q3, -⟩ := q
  simp [q3]

/-! ### fits, of an edit's work -/
/-- An edit's work: a system and an edit. -/
abbrev cWork (s : Sys) (e : Edt) : List PV := cSys s ++ cEdt e
theorem wfits_spec (s : Sys) (hs : s.vars.length ≤ 4) (e : Edt) (hp : PW e.p) : funD (cxT pp) 127 [.agg (cWork s e)] = some (.bool (fits e.p s.vars.length)) := by
  obtain ⟨h1, h2, h3⟩ := hp
  have k1 := pvalid_spec (pp := pp) e.p h1 (by omega)
  have k2 := puse_spec (pp := pp) e.p (by omega)
  have k3 := pdeg_spec (pp := pp) e.p h2 (by omega)
  have hu := use64 e.p
  have hmin : min s.vars.length 64 = s.vars.length := by omega
  have hneg : ¬ ((s.vars.length : Int) < 0) := by omega
  rw [fun_127]
  unfold closedD bodyD fits
  cases c1 : pvalid e.p
  · simp [fn127, k1, c1]
  · by_cases c2 : (puse e.p : Int).fdiv (2 ^ s.vars.length) = 0
    · simp [fn127, k1, k2, k3, c1, c2, hu, hmin, hneg, IntKind.bits]
    · simp [fn127, k1, k2, k3, c1, c2, hu, hmin, hneg, IntKind.bits]
end Go.Va
end
section
open Go.Proofs
namespace Go.Va
variable {pp : Option PrimFn}

/-! ### IndexFunc -/
def indexP (p : Eqn → Bool) (l : List Eqn) : Int := (findL (fun i (x : Eqn) => if p x then some (i : Int) else none) l 0).getD (-1)
/-- A function value answers as a predicate does. -/
def Pred (pp : Option PrimFn) (f : FuncId) (b : List PV) (P : Eqn → Bool) (l : List Eqn) : Prop :=
  ∀ x ∈ l, ∀ (d : Nat) (h : Hp) (key : Key), callD (cxT pp) d f (.p (.agg (cEqn x)) :: b.map .p) h key = some (.p (.bool (P x)), h)
theorem pred_closed {f : FuncId} {b : List PV} (hf : (cxT pp).prim f = none) (hf2 : (cxT pp).pol f = .closed) (hb : PV.erL b = b) {P : Eqn → Bool} {l : List Eqn} (hP : ∀ x ∈ l, funD (cxT pp) f (.agg (cEqn x) :: b) = some (.bool (P x))) : Pred pp f b P l := by
  intro x hx d h key
  have k := hP x hx
  simp at k
  rw [call_cl hf hf2]
  simp [hb, k]
theorem indexFunc_spec (f : FuncId) (b : List PV) (hb : PV.erL b = b) (P : Eqn → Bool) (l : List Eqn) (hl : l.length < 2 ^ 30) (hP : Pred pp f b P l) :
    funD (cxT pp) 176 [sl cEqn l, .func f [] b] = some (.int .i64 (indexP P l)) := by
  have hcall := fun x hx => hP x hx 0
  have loop := loop_find (cx := cxT pp) (d := 0) (c := c176_0) l (fun i (x : Eqn) => if P x then some (i : Int) else none)
    (fun i s => s.h = Hp.none ∧ s.env 0 = .p (sl cEqn l) ∧ s.env 1 = .p (.func f [] b) ∧ s.env 7 = .p (.int .i64 l.length) ∧ s.env 8 = .p (.int .i64 i))
    (fun z a => a.1 = .ret ∧ a.2.h = Hp.none ∧ a.2.env 4 = .p (.int .i64 z)) (.ex 0) (by simp)
    (by
      rintro i ⟨env, h⟩ x rest hi hx hd ⟨rfl, h0, h1, h7, h8⟩
      simp only at h0 h1 h7 h8
      have hw := inc_id hi (by omega)
      have hi2 : (i : Int) < l.length := by omega
      have hc := hcall x (mem_drop hd)
      simp at hc
      cases c : P x
      · simp [c176_0, h0, h1, h7, h8, hi, hi2, hd, c, hw, hc]
      · simp [c176_0, h0, h1, h7, h8, hi, hi2, hd, c, hw, hc])
    (by
      rintro ⟨env, h⟩ ⟨rfl, h0, h1, h7, h8⟩
      simp only at h0 h1 h7 h8
      simp [c176_0, h0, h1, h7, h8])
  rw [fun_176]
  unfold closedD bodyD indexP
  simp [fn176]
  generalize hx : codeD (cxT pp) 0 (ACode.loop c176_0) _ = X
  obtain ⟨e, env, h, rfl, q⟩ := at_code hx (loop _ (by simp))
  simp only at q
  revert q
  cases findL (fun i (x : Eqn) => if P x then some (i : Int) else none) l 0 with
  | none => simp +contextual
  | some z => simp +contextual
theorem where_spec (f : FuncId) (b : List PV) (hb : PV.erL b = b) (P : Eqn → Bool) (l : List Eqn) (hl : l.length < 2 ^ 30) (hP : Pred pp f b P l) :
    funD (cxT pp) 139 [sl cEqn l, .func f [] b] = some (.int .i64 (indexP P l)) := by
  have k := indexFunc_spec (pp := pp) f b hb P l hl hP
  simp at k
  rw [fun_139]
  unfold closedD bodyD
  simp [fn139, hb, k]

/-! ### byId, exists -/
theorem byId1_spec (x : Eqn) (id : Int) : funD (cxT pp) 140 [.agg (cEqn x), .cptr [.int .i64 id]] = some (.bool (decide (x.id = id))) := by
  rw [fun_140]
  unfold closedD bodyD
  simp [fn140]
theorem byId_spec (l : List Eqn) (hl : l.length < 2 ^ 30) (id : Int) : funD (cxT pp) 71 [sl cEqn l, .int .i64 id] = some (.int .i64 (find l id)) := by
  have k := where_spec (pp := pp) 140 [.cptr [.int .i64 id]] (by simp) (fun x => decide (x.id = id)) l hl (pred_closed (by simp) (by simp) (by simp) (fun x _ => byId1_spec x id))
  have e : indexP (fun x => decide (x.id = id)) l = find l id := by simp [indexP, find]
  rw [e] at k
  simp at k
  rw [fun_71]
  unfold closedD bodyD
  simp [fn71, k]
theorem exists_spec (s : Sys) (h1 : s.eqs.length < 2 ^ 30) (h2 : s.neqs.length < 2 ^ 30) (e : Edt) : funD (cxT pp) 125 [.agg (cWork s e)] = some (.bool (has s e.id)) := by
  have k1 := byId_spec (pp := pp) s.eqs h1 e.id
  have k2 := byId_spec (pp := pp) s.neqs h2 e.id
  rw [fun_125]
  unfold closedD bodyD has
  by_cases h : 0 ≤ find s.eqs e.id <;> simp [fn125, k1, k2, h]

/-! ### DeleteFunc -/
def zEqn : List PV := [.int .i64 0, .frz .nil 0 []]
theorem pflat_take {l : List Eqn} {i : Nat} : ((l.flatMap cEqn).map AV.p).take (i * 2) = ((l.take i).flatMap cEqn).map AV.p := by rw [← List.map_take, eqs_take]
theorem pflat_drop {l : List Eqn} {i : Nat} : ((l.flatMap cEqn).map AV.p).drop (i * 2) = ((l.drop i).flatMap cEqn).map AV.p := by rw [← List.map_drop, eqs_drop]
/-- What is kept. -/
def keepP (P : Eqn → Bool) (l : List Eqn) : List Eqn := l.filter fun x => !P x

theorem index_split (P : Eqn → Bool) : ∀ (l : List Eqn) (i : Nat), (findL (fun i (x : Eqn) => if P x then some (i : Int) else none) l i = none ∧ keepP P l = l) ∨
    ∃ A d R, l = A ++ d :: R ∧ findL (fun i (x : Eqn) => if P x then some (i : Int) else none) l i = some ((i + A.length : Nat) : Int) ∧ keepP P l = A ++ keepP P R
  | [], i => .inl ⟨rfl, rfl⟩
  | x :: l, i => by
    cases hx : P x
    · rcases index_split P l (i + 1) with ⟨h1, h2⟩ | ⟨A, d, R, h1, h2, h3⟩
      · refine .inl ⟨by simp [findL, hx, h1], ?_⟩
        unfold keepP at h2 ⊢
        simp [hx]
        simpa using h2
      · refine .inr ⟨x :: A, d, R, by simp [h1], by simp [findL, hx, h2]; omega, ?_⟩
        unfold keepP at h3 ⊢
        simp [hx, h3]
    · exact .inr ⟨[], x, l, rfl, by simp [findL, hx], by simp [keepP, hx]⟩
theorem keep_fold (P : Eqn → Bool) : ∀ (l K : List Eqn), l.foldl (fun K x => if P x then K else K ++ [x]) K = K ++ keepP P l
  | [], K => by simp [keepP]
  | x :: l, K => by
    rw [List.foldl_cons, keep_fold P l]
    cases hx : P x <;> simp [keepP, hx]
theorem keep_len (P : Eqn → Bool) (l : List Eqn) : (keepP P l).length ≤ l.length := List.length_filter_le ..
theorem cs_store {M : List Eqn} {s0 x : Eqn} {T : List Eqn} {cs : List AV} (h : cs = ((M ++ s0 :: T).flatMap cEqn).map AV.p) :
    cs.take (M.length * 2) ++ (AV.p (.int .i64 x.id) :: AV.p (.frz .any x.p.length (x.p.flatMap cTerm)) :: cs.drop (M.length * 2 + 2)) = ((M ++ x :: T).flatMap cEqn).map AV.p := by
  have e : M.length * 2 + 2 = (M.length + 1) * 2 := by omega
  subst h
  rw [pflat_take, e, pflat_drop]
  have e1 : (M ++ s0 :: T).take M.length = M := List.take_left' rfl
  have e2 : (M ++ s0 :: T).drop (M.length + 1) = T := by simp
  rw [e1, e2]; simp
theorem cs_load {M : List Eqn} {x : Eqn} {T : List Eqn} {cs : List AV} {n : Nat} (hn : n = M.length) (h : cs = ((M ++ x :: T).flatMap cEqn).map AV.p) :
    cs.drop (n * 2) = AV.p (.int .i64 x.id) :: AV.p (.frz .any x.p.length (x.p.flatMap cTerm)) :: (T.flatMap cEqn).map AV.p := by
  subst h; subst hn
  rw [pflat_drop, List.drop_left' rfl]
  simp
set_option maxHeartbeats 4000000 in
theorem delete_spec (f : FuncId) (b : List PV) (hb : PV.erL b = b) (P : Eqn → Bool) (l : List Eqn) (hl : l.length < 2 ^ 30) (hP : Pred pp f b P l)
    (k : Key) (hk : k.d = 0) (ver : Nat) (h : Hp) (hg : h.get k = ⟨ver, false, some (.cells ((l.flatMap cEqn).map .p))⟩) :
    ∃ h' J, bodyD (cxT pp) 1 fn169 [.ref k ver 0 l.length 2 false, .p (.func f [] b)] h = some (.ref k ver 0 (keepP P l).length 2 false, h') ∧
      h'.get k = ⟨ver, false, some (.cells (((keepP P l).flatMap cEqn).map .p ++ J))⟩ ∧ (∀ k' : Key, k'.d = 0 → k' ≠ k → h'.get k' = h.get k') := by
  have hki : ∀ t, ¬ k = ⟨1, t⟩ := fun t e => by rw [e] at hk; simp at hk
  have hki' : ∀ t, ¬ (⟨1, t⟩ : Key) = k := fun t e => hki t e.symm
  have hix := indexFunc_spec (pp := pp) f b hb P l hl hP
  simp at hix
  have hcall := fun x hx => hP x hx 1
  rcases index_split P l 0 with ⟨h1, h2⟩ | ⟨A, d, R, hlA, h1, h2⟩
  · refine ⟨h, [], ?_, by rw [h2]; simpa using hg, fun _ _ _ => rfl⟩
    unfold bodyD
    simp [indexP, h1] at hix
    rw [h2]
    simp [fn169, hg, hix, hb]
  · have hlen : l.length = A.length + 1 + R.length := by rw [hlA]; simp; omega
    have loop := loop_fold (cx := cxT pp) (d := 1) (c := c169_0) R (fun (K : List Eqn) x => if P x then K else K ++ [x])
      (fun i K s => K.length ≤ i ∧ (∃ cs S, S.length + K.length = i + 1 ∧ cs = (((A ++ K) ++ (S ++ R.drop i)).flatMap cEqn).map .p ∧ s.h.get k = ⟨ver, false, some (.cells cs)⟩) ∧ s.env 0 = .ref k ver 0 l.length 2 false ∧ s.env 1 = .p (.func f [] b) ∧
        s.env 5 = .p (.int .i64 (A.length + K.length : Nat)) ∧ s.env 6 = .p (.int .i64 (A.length + 1 + i : Nat)) ∧ (∀ k' : Key, k'.d = 0 → k' ≠ k → s.h.get k' = h.get k')) (.ex 0) (by simp)
      (by
        rintro i K ⟨env, hh⟩ x rest hi hx hd ⟨hKi, ⟨cs, S, hSK, hcs, g⟩, h0, h1', h5, h6, hfr⟩
        simp only at g h0 h1' h5 h6 hfr
        have hxl : x ∈ l := by rw [hlA]; simp [mem_drop hd]
        have hc := hcall x hxl
        simp at hc
        obtain ⟨s0, S', rfl⟩ : ∃ s0 S', S = s0 :: S' := by
          cases S with
          | nil => simp at hSK; omega
          | cons a b => exact ⟨a, b, rfl⟩
        simp at hSK
        have hcl : cs.length = l.length * 2 := by
          rw [hcs]; simp [hd, hlen]
          have := congrArg List.length hd
          simp at this
          omega
        have hload := cs_load (M := A ++ K ++ s0 :: S') (x := x) (T := rest) (cs := cs) (n := A.length + 1 + i) (by simp; omega) (by rw [hcs, hd]; simp)
        have hw : IntKind.i64.wrap (((A.length + 1 + i : Nat) : Int) + 1) = ((A.length + 1 + (i + 1) : Nat) : Int) := by rw [i64_id] <;> omega
        have hw2 : IntKind.i64.wrap (((A.length + K.length : Nat) : Int) + 1) = ((A.length + (K.length + 1) : Nat) : Int) := by rw [i64_id] <;> omega
        have t1 : ((A.length + 1 + i : Nat) : Int) < l.length := by omega
        have t2 : A.length + 1 + i < l.length := by omega
        have t3 : (A.length + 1 + i) * 2 + 2 ≤ l.length * 2 := by omega
        have t4 : A.length + K.length < l.length := by omega
        have t5 : (A.length + K.length) * 2 + 2 ≤ l.length * 2 := by omega
        cases c : P x
        · have hst := cs_store (M := A ++ K) (s0 := s0) (x := x) (T := S' ++ x :: rest) (cs := cs) (by rw [hcs, hd]; simp)
          simp only [List.length_append] at hst
          generalize hN : A.length + 1 + i = N at *
          generalize hM : A.length + K.length = m at *
          simp [-Prod.exists, c169_0, g, h0, h1', h5, h6, hki, hki', hcl, hload, hw, hw2, t1, t2, t3, t4, t5, hc, c]
          refine ⟨hKi, ⟨_, S' ++ [x], ?_, ?_, rfl⟩, ?_⟩
          · simp; omega
          · rw [hst, drop_next hd]; simp
          · intro k' e1 e2
            have e3 : ∀ t, ¬ k' = ⟨1, t⟩ := fun t e => by rw [e] at e1; simp at e1
            simp [e2, e3, hfr k' e1 e2]
        · generalize hN : A.length + 1 + i = N at *
          generalize hM : A.length + K.length = m at *
          simp [-Prod.exists, c169_0, g, h0, h1', h5, h6, hki, hki', hcl, hload, hw, hw2, t1, t2, t3, t4, t5, hc, c]
          refine ⟨by omega, ⟨cs, s0 :: S' ++ [x], ?_, ?_, rfl⟩, by omega, ?_⟩
          · simp; omega
          · rw [hcs, hd, drop_next hd]; simp
          · intro k' e1 e2
            have e3 : ∀ t, ¬ k' = ⟨1, t⟩ := fun t e => by rw [e] at e1; simp at e1
            simp [e3, hfr k' e1 e2])
      (by
        rintro K ⟨env, hh⟩ ⟨hKi, ⟨cs, S, hSK, hcs, g⟩, h0, h1', h5, h6, hfr⟩
        simp only at g h0 h1' h5 h6 hfr
        have t1 : ¬ ((A.length + 1 + R.length : Nat) : Int) < l.length := by omega
        generalize hN : A.length + 1 + R.length = N at *
        simp [-Prod.exists, c169_0, h0, h6, t1]
        exact ⟨hKi, ⟨cs, S, hSK, by simpa using hcs, g⟩, h1', by simpa using h5, hfr⟩)
    have hfold := keep_fold P R []
    rw [List.nil_append] at hfold
    unfold bodyD
    simp [indexP, h1] at hix
    have hw : IntKind.i64.wrap ((A.length : Int) + 1) = ((A.length + 1 : Nat) : Int) := by rw [i64_id] <;> omega
    have hne : ¬ ((A.length : Int) = -1) := by omega
    simp [fn169, hg, hix, hb, hne, hw]
    generalize hX : codeD (cxT pp) 1 (ACode.loop c169_0) _ = X
    obtain ⟨e, env, hh, rfl, q⟩ := at_code hX (loop [] _ (by
      refine ⟨by simp, ⟨(l.flatMap cEqn).map .p, [d], by simp, by rw [hlA]; simp, by simpa using hg⟩, by simp, by simp, by simp, by simp, fun _ _ _ => rfl⟩))
    rw [hfold] at q
    simp only at q
    obtain ⟨rfl, hKi, ⟨cs, S, hSK, hcs, g⟩, q0, q1, q5, q6, hfr⟩ := q
    try simp only at g q0 q1 q5 q6 hfr
    have hS : 0 < S.length := by omega
    have hcl : cs.length = l.length * 2 := by
      rw [hcs]; simp [hlen]; omega
    have htk : cs.take ((A.length + (keepP P R).length) * 2) = (((A ++ keepP P R).flatMap cEqn).map .p) := by
      have e1 : (A ++ keepP P R ++ (S ++ R.drop R.length)).take (A.length + (keepP P R).length) = A ++ keepP P R := List.take_left' (by simp)
      rw [hcs, pflat_take, e1]
    rw [h2]
    generalize hm : A.length + (keepP P R).length = m at *
    have t1 : m < l.length := by omega
    have t2 : m ≤ l.length := by omega
    have t3 : ¬ l.length ≤ m := by omega
    have t4 : ¬ l.length - m = 0 := by omega
    have t5 : m * 2 + (l.length - m) * 2 = l.length * 2 := by omega
    have t6 : ¬ m = l.length := by omega
    have t7 : m * 2 ≤ l.length * 2 := by omega
    simp [g, q0, q5, hcl, t1, t2, t3, t4, t5, t6, t7]
    refine ⟨_, ⟨hm.symm, rfl⟩, ⟨(List.replicate (l.length - m) [AV.p (.int .i64 0), AV.p (.frz .nil 0 [])]).flatten ++ cs.drop (l.length * 2), ?_⟩, ?_⟩
    · rw [set_getk, if_pos rfl, htk]
      simp only [List.flatMap_append, List.map_append, List.append_assoc]
    · intro k' e1 e2
      rw [set_getk, if_neg e2]
      exact hfr k' e1 e2

/-! ### without -/
theorem without1_spec (x : Eqn) (id : Int) : ownD (cxT pp) 171 [.agg (cEqn x), .cptr [.int .i64 id]] = some (.inl (.bool (decide (x.id = id)))) := by
  rw [ownD_of fns_171]
  unfold bodyD
  simp [fn171, ownR]
theorem without1_pred (l : List Eqn) (id : Int) : Pred pp 171 [.cptr [.int .i64 id]] (fun x => decide (x.id = id)) l := by
  intro x _ d h key
  have k := without1_spec (pp := pp) x id
  simp at k
  simp [k]
theorem drop_keep (l : List Eqn) (id : Int) : keepP (fun x => decide (x.id = id)) l = drop l id := rfl
theorem without_spec (l : List Eqn) (hl : l.length < 2 ^ 20) (id : Int) : ownD (cxT pp) 129 [sl cEqn l, .int .i64 id] = some (.inr ((drop l id).length, 2, false, (drop l id).flatMap cEqn)) := by
  have k := fun h hg => delete_spec (pp := pp) 171 [.cptr [.int .i64 id]] (by simp) (fun x => decide (x.id = id)) l (by omega) (without1_pred l id) ⟨0, 6⟩ rfl 1 h hg
  have hl20 : l.length ≤ 1048576 := by omega
  rw [ownD_of fns_129]
  unfold bodyD
  simp [fn129, specClone, hl20]
  generalize hH : markRO _ _ = H
  obtain ⟨h', J, h1, h2, -⟩ := k H (by rw [← hH]; simp)
  rw [drop_keep] at h1 h2
  simp [h1, h2, ownR, drop_keep]

/-! ### with -/
theorem with1_spec (y x : Eqn) : funD (cxT pp) 167 [.agg (cEqn y), .cptr (cEqn x)] = some (.bool (decide (x.id < y.id))) := by
  rw [fun_167]
  unfold closedD bodyD
  simp [fn167]
/-- The list with an element at its place by Id. -/
def withE (l : List Eqn) (x : Eqn) : List Eqn :=
  let out := drop l x.id
  let i := indexP (fun y => decide (x.id < y.id)) out
  let j := if i < 0 then out.length else i.toNat
  out.take j ++ [x] ++ out.drop j
theorem indexP_lt (P : Eqn → Bool) (l : List Eqn) : indexP P l < l.length ∧ -1 ≤ indexP P l := by
  rcases index_split P l 0 with ⟨h1, -⟩ | ⟨A, d, R, hl, h1, -⟩
  · have e : indexP P l = -1 := by simp [indexP, h1]
    omega
  · have e : indexP P l = A.length := by simp [indexP, h1]
    have e2 : l.length = A.length + (R.length + 1) := by rw [hl]; simp
    omega
theorem with_spec (l : List Eqn) (hl : l.length < 2 ^ 19) (x : Eqn) : funD (cxT pp) 128 [sl cEqn l, .agg (cEqn x)] = some (sl cEqn (withE l x)) := by
  have k1 := without_spec (pp := pp) l (by omega) x.id
  have hd : (drop l x.id).length ≤ l.length := List.length_filter_le ..
  have k2 := where_spec (pp := pp) 167 [.cptr (cEqn x)] (by simp) (fun y => decide (x.id < y.id)) (drop l x.id) (by omega) (pred_closed (by simp) (by simp) (by simp) (fun y _ => with1_spec y x))
  have hl20 : (drop l x.id).length + 1 ≤ 1048576 := by omega
  have hi := indexP_lt (fun y => decide (x.id < y.id)) (drop l x.id)
  simp at k1 k2
  rw [fun_128]
  unfold closedD bodyD
  by_cases c : indexP (fun y => decide (x.id < y.id)) (drop l x.id) < 0
  · have hm : ((drop l x.id).length + 1) * 2 = (drop l x.id).length * 2 + 2 := by omega
    have hwE : withE l x = drop l x.id ++ [x] := by simp [withE, c]
    rw [hwE]
    simp [fn128, k1, k2, c, specInsert, hm, hl20]
  · have c2 : 0 ≤ indexP (fun y => decide (x.id < y.id)) (drop l x.id) := by omega
    have c3 : (indexP (fun y => decide (x.id < y.id)) (drop l x.id)).toNat ≤ (drop l x.id).length := by omega
    have hwE : withE l x = (drop l x.id).take (indexP (fun y => decide (x.id < y.id)) (drop l x.id)).toNat ++ [x] ++ (drop l x.id).drop (indexP (fun y => decide (x.id < y.id)) (drop l x.id)).toNat := by simp [withE, c]
    rw [hwE]
    generalize indexP (fun y => decide (x.id < y.id)) (drop l x.id) = I at *
    have hm : ((drop l x.id).length + 1) * 2 = I.toNat * 2 + (((drop l x.id).length - I.toNat) * 2 + 1 + 1) := by omega
    have hm2 : min I.toNat (drop l x.id).length = I.toNat := by omega
    have hm3 : (drop l x.id).length + 1 = I.toNat + ((drop l x.id).length - I.toNat + 1) := by omega
    have hm4 : (I.toNat + ((drop l x.id).length - I.toNat + 1)) * 2 = I.toNat * 2 + (((drop l x.id).length - I.toNat) * 2 + 1 + 1) := by omega
    simp [fn128, k1, k2, c, c2, c3, specInsert, pflat_take, pflat_drop, hm2, hm3, hm4, show I.toNat + ((drop l x.id).length - I.toNat + 1) ≤ 1048576 by omega]
end Go.Va
end
section
open Go.Proofs
namespace Go.Va
variable {pp : Option PrimFn}

@[simp] theorem beq_ptr {k : Key} {v o : Nat} : AV.beq (.ptr k v o) (.ptr k v o) = true := by simp [AV.beq]
/-! ### first -/
structure Tst where
  e : Int
  f : FuncId
  a : List PV
  b : List PV
  r : Bool
def cTst (t : Tst) : List PV := [.int .i64 t.e, .func t.f t.a t.b]
@[simp] theorem cTst_len (t : Tst) : (cTst t).length = 2 := by simp [cTst]
@[simp high] theorem tsts_len (p : List Tst) : (p.flatMap cTst).length = p.length * 2 := flat_len cTst_len p
@[simp] theorem tsts_drop (p : List Tst) (i : Nat) : (p.flatMap cTst).drop (i * 2) = (p.drop i).flatMap cTst := flat_drop cTst_len p i
structure TstOK (pp : Option PrimFn) (t : Tst) : Prop where
  call : ∀ (h : Hp) (key : Key), callD (cxT pp) 0 t.f (t.a.map .p ++ t.b.map .p) h key = some (.p (.bool t.r), h)
/-- The first error. -/
def firstE (l : List Tst) : Int := (findL (fun _ (t : Tst) => if t.r then none else some t.e) l 0).getD 0
theorem first_spec (l : List Tst) (hl : l.length < 2 ^ 30) (hP : ∀ t ∈ l, TstOK pp t) : funD (cxT pp) 108 [.frz .any l.length (l.flatMap cTst)] = some (.int .i64 (firstE l)) := by
  have loop := loop_find (cx := cxT pp) (d := 0) (c := c108_0) l (fun _ (t : Tst) => if t.r then none else some t.e)
    (fun i s => s.env 5 = .p (.frz .any l.length (l.flatMap cTst)) ∧ s.env 6 = .p (.int .i64 l.length) ∧ s.env 7 = .p (.int .i64 i))
    (fun z a => a.1 = .ret ∧ a.2.env 2 = .p (.int .i64 z)) (.ex 0) (by simp)
    (by
      rintro i ⟨env, h⟩ t rest hi hx hd ⟨h5, h6, h7⟩
      simp only at h5 h6 h7
      have hw := inc_id hi (by omega)
      have hi2 : (i : Int) < l.length := by omega
      have hc := (hP t (mem_drop hd)).call
      cases c : t.r
      · rw [c] at hc
        simp [c108_0, h5, h6, h7, hi, hi2, hd, cTst, hc, c]
      · rw [c] at hc
        simp [c108_0, h5, h6, h7, hi, hi2, hd, cTst, hc, c, hw])
    (by
      rintro ⟨env, h⟩ ⟨h5, h6, h7⟩
      simp only at h5 h6 h7
      simp [c108_0, h5, h6, h7])
  rw [fun_108]
  unfold closedD bodyD firstE
  simp [fn108]
  generalize hx : codeD (cxT pp) 0 (ACode.loop c108_0) _ = X
  obtain ⟨e, env, h, rfl, q⟩ := at_code hx (loop _ (by simp))
  simp only at q
  revert q
  cases findL (fun _ (t : Tst) => if t.r then none else some t.e) l 0 with
  | none => simp +contextual
  | some z => simp +contextual
theorem tst_closed {e : Int} {f : FuncId} {a b : List PV} {r : Bool} (hf : (cxT pp).prim f = none) (hf2 : (cxT pp).pol f = .closed) (ha : PV.erL a = a) (hb : PV.erL b = b) (hk : funD (cxT pp) f (a ++ b) = some (.bool r)) : TstOK pp ⟨e, f, a, b, r⟩ := by
  refine ⟨fun h key => ?_⟩
  rw [call_cl hf hf2]
  simp [ha, hb, hk]

/-! ### The closures -/
def okId (s : Sys) (e : Edt) : Bool := decide (e.id = 0) || (decide (0 < e.id) && decide (e.id < 1000000) && !has s e.id)
theorem add1_spec (s : Sys) (h1 : s.eqs.length < 2 ^ 30) (h2 : s.neqs.length < 2 ^ 30) (e : Edt) : funD (cxT pp) 124 [.cptr (cWork s e)] = some (.bool (okId s e)) := by
  have k := exists_spec (pp := pp) s h1 h2 e
  simp at k
  rw [fun_124]
  unfold closedD bodyD okId
  by_cases a1 : e.id = 0
  · simp [fn124, a1]
  · by_cases a2 : 0 < e.id
    · by_cases a3 : e.id < 1000000
      · cases a4 : has s e.id <;> simp [fn124, a1, a2, a3, k, a4]
      · simp [fn124, a1, a2, a3]
    · simp [fn124, a1, a2]
def okBig (s : Sys) (e : Edt) (n : Nat) : Bool := decide (n < 12) && (decide (0 < e.id) || decide (s.next < 1000000))
theorem add2_spec (s : Sys) (e : Edt) (l : List Eqn) (R : List PV) (hR : PV.erL R = R) : funD (cxT pp) 126 [.cptr [.cptr (sl cEqn l :: R)], .cptr (cWork s e)] = some (.bool (okBig s e l.length)) := by
  rw [fun_126]
  unfold closedD bodyD okBig
  by_cases a1 : l.length < 12
  · have a1' : (l.length : Int) < 12 := by omega
    by_cases a2 : 0 < e.id
    · simp [fn126, a1, a1', a2]
    · simp [fn126, a1, a1', a2]
  · have a1' : ¬ (l.length : Int) < 12 := by omega
    simp [fn126, a1, a1']
def okFlip (i k : Int) (s : Sys) : Bool := (decide (0 ≤ i) && decide (s.neqs.length < 12)) || (decide (0 ≤ k) && decide (s.eqs.length < 12))
theorem flip1_spec (s : Sys) (e : Edt) (i k : Int) : funD (cxT pp) 130 [.cptr [.int .i64 i], .cptr (cWork s e), .cptr [.int .i64 k]] = some (.bool (okFlip i k s)) := by
  rw [fun_130]
  unfold closedD bodyD okFlip
  by_cases a1 : 0 ≤ i
  · by_cases a2 : s.neqs.length < 12
    · have a2' : (s.neqs.length : Int) < 12 := by omega
      simp [fn130, a1, a2, a2']
    · have a2' : ¬ (s.neqs.length : Int) < 12 := by omega
      by_cases a3 : 0 ≤ k
      · by_cases a4 : s.eqs.length < 12
        · have a4' : (s.eqs.length : Int) < 12 := by omega
          simp [fn130, a1, a2, a2', a3, a4, a4']
        · have a4' : ¬ (s.eqs.length : Int) < 12 := by omega
          simp [fn130, a1, a2, a2', a3, a4, a4']
      · simp [fn130, a1, a2, a2', a3]
  · by_cases a3 : 0 ≤ k
    · by_cases a4 : s.eqs.length < 12
      · have a4' : (s.eqs.length : Int) < 12 := by omega
        simp [fn130, a1, a3, a4, a4']
      · have a4' : ¬ (s.eqs.length : Int) < 12 := by omega
        simp [fn130, a1, a3, a4, a4']
    · simp [fn130, a1, a3]

/-! ### add -/
def eqnsAddW (s : Sys) (e : Edt) : Sys :=
  if e.neq = true then { s with neqs := withE s.neqs ⟨if e.id = 0 then s.next else e.id, e.p⟩, next := max s.next ((if e.id = 0 then s.next else e.id) + 1) }
  else { s with eqs := withE s.eqs ⟨if e.id = 0 then s.next else e.id, e.p⟩, next := max s.next ((if e.id = 0 then s.next else e.id) + 1) }
theorem first_add (s : Sys) (hs : SW s) (e : Edt) (he : PW e.p) (l : List Eqn) (R : List PV) (hR : PV.erL R = R) :
    funD (cxT pp) 108 [.frz .any 3 [.int .i64 332, .func 124 [] [.cptr (cWork s e)], .int .i64 2, .func 126 [] [.cptr [.cptr (sl cEqn l :: R)], .cptr (cWork s e)], .int .i64 320, .func 127 [.agg (cWork s e)] []]] =
      some (.int .i64 (if okId s e = false then 332 else if okBig s e l.length = false then 2 else if fits e.p s.vars.length = false then 320 else 0)) := by
  have b1 := hs.eqs.1
  have b2 := hs.neqs.1
  have k := first_spec (pp := pp) [⟨332, 124, [], [.cptr (cWork s e)], okId s e⟩, ⟨2, 126, [], [.cptr [.cptr (sl cEqn l :: R)], .cptr (cWork s e)], okBig s e l.length⟩, ⟨320, 127, [.agg (cWork s e)], [], fits e.p s.vars.length⟩] (by simp) (by
    intro t ht
    simp only [List.mem_cons, List.not_mem_nil, or_false] at ht
    rcases ht with rfl | rfl | rfl
    · exact tst_closed (by simp) (by simp) (by simp) (by simp) (add1_spec s (by omega) (by omega) e)
    · exact tst_closed (by simp) (by simp) (by simp) (by simp [hR]) (add2_spec s e l R hR)
    · exact tst_closed (by simp) (by simp) (by simp) (by simp) (wfits_spec s hs.vars e he))
  have e : (if okId s e = false then 332 else if okBig s e l.length = false then 2 else if fits e.p s.vars.length = false then 320 else 0) = firstE [⟨332, 124, [], [.cptr (cWork s e)], okId s e⟩, ⟨2, 126, [], [.cptr [.cptr (sl cEqn l :: R)], .cptr (cWork s e)], okBig s e l.length⟩, ⟨320, 127, [.agg (cWork s e)], [], fits e.p s.vars.length⟩] := by
    cases okId s e <;> cases okBig s e l.length <;> cases fits e.p s.vars.length <;> simp [firstE, findL]
  rw [e]
  exact k

theorem checkAdd_first (s : Sys) (e : Edt) : (if okId s e = false then 332 else if okBig s e (if e.neq = true then s.neqs else s.eqs).length = false then 2 else if fits e.p s.vars.length = false then 320 else 0) = checkAdd s e := by
  unfold checkAdd
  by_cases c1 : e.id < 0 ∨ 999999 < e.id ∨ (0 < e.id ∧ has s e.id = true)
  · have : okId s e = false := by
      simp only [okId, Bool.or_eq_false_iff, Bool.and_eq_false_iff, decide_eq_false_iff_not, Bool.not_eq_false']
      refine ⟨by rcases c1 with h | h | ⟨h, -⟩ <;> omega, ?_⟩
      rcases c1 with h | h | ⟨h, h2⟩
      · exact .inl (.inl (by omega))
      · exact .inl (.inr (by omega))
      · exact .inr h2
    rw [if_pos this, if_pos c1]
  · have : okId s e = true := by
      simp only [not_or, not_and] at c1
      simp only [okId, Bool.or_eq_true, Bool.and_eq_true, decide_eq_true_eq, Bool.not_eq_true']
      by_cases h : e.id = 0
      · exact .inl h
      · exact .inr ⟨⟨by omega, by omega⟩, by simpa using c1.2.2 (by omega)⟩
    rw [if_neg (by simp [this]), if_neg c1]
    simp only [not_or, not_and] at c1
    by_cases c2 : (e.neq = false ∧ 12 ≤ s.eqs.length) ∨ (e.neq = true ∧ 12 ≤ s.neqs.length) ∨ (e.id = 0 ∧ 1000000 ≤ s.next)
    · have : okBig s e (if e.neq = true then s.neqs else s.eqs).length = false := by
        simp only [okBig, Bool.and_eq_false_iff, Bool.or_eq_false_iff, decide_eq_false_iff_not]
        rcases c2 with ⟨h, h2⟩ | ⟨h, h2⟩ | ⟨h, h2⟩
        · left; rw [if_neg (by simp [h])]; omega
        · left; rw [if_pos h]; omega
        · right; omega
      rw [if_pos this, if_pos c2]
    · have : okBig s e (if e.neq = true then s.neqs else s.eqs).length = true := by
        simp only [not_or, not_and] at c2
        simp only [okBig, Bool.and_eq_true, Bool.or_eq_true, decide_eq_true_eq]
        refine ⟨?_, ?_⟩
        · cases h : e.neq
          · have := c2.1 h; simp; omega
          · have := c2.2.1 h; simp; omega
        · by_cases h : e.id = 0
          · have := c2.2.2 h; right; omega
          · left; omega
      rw [if_neg (by simp [this]), if_neg c2]
      cases fits e.p s.vars.length <;> simp

set_option maxHeartbeats 4000000 in
theorem add_spec (s : Sys) (hs : SW s) (e : Edt) (he : PW e.p) : funD (cxT pp) 63 [.agg (cWork s e)] = some (.tup (if checkAdd s e = 0 then [.agg (cSys (eqnsAddW s e)), .int .i64 0] else [.agg (cSys sys0), .int .i64 (checkAdd s e)])) := by
  have b1 := hs.eqs.1
  have b2 := hs.neqs.1
  have b3 := hs.lo
  have b4 := hs.hi
  have hca := checkAdd_first s e
  have w1 : IntKind.i64.wrap (s.next + 1) = s.next + 1 := by rw [i64_id] <;> omega
  have p1 := fun x => with_spec (pp := pp) s.eqs (by omega) x
  have p2 := fun x => with_spec (pp := pp) s.neqs (by omega) x
  simp at p1 p2
  rw [fun_63]
  unfold closedD bodyD
  cases a2 : e.neq
  · have kf := first_add (pp := pp) s hs e he s.eqs ([sl cEqn s.neqs, .int .i64 s.next] ++ cEdt e) (by simp)
    simp only [a2, Bool.false_eq_true, if_false] at hca
    rw [hca] at kf
    simp [a2] at kf
    by_cases c0 : checkAdd s e = 0
    · have hid : e.id = 0 ∨ (0 < e.id ∧ e.id < 1000000) := by
        unfold checkAdd at c0
        split at c0
        · simp at c0
        · omega
      by_cases a1 : e.id = 0
      · have q := p1 ⟨s.next, e.p⟩
        have m1 : max s.next (s.next + 1) = s.next + 1 := by omega
        have m2 : ¬ s.next + 1 ≤ s.next := by omega
        simp at q
        simp [a1] at kf
        simp [fn63, a2, kf, c0, a1, q, w1, m1, m2, eqnsAddW]
      · have q := p1 ⟨e.id, e.p⟩
        have w2 : IntKind.i64.wrap (e.id + 1) = e.id + 1 := by rw [i64_id] <;> omega
        simp at q
        by_cases a3 : s.next < e.id + 1
        · have m1 : max s.next (e.id + 1) = e.id + 1 := by omega
          simp [fn63, a2, kf, c0, a1, q, w2, m1, a3, eqnsAddW]
        · have m1 : max s.next (e.id + 1) = s.next := by omega
          simp [fn63, a2, kf, c0, a1, q, w2, m1, a3, eqnsAddW]
    · simp [fn63, a2, kf, c0, sys0]
  · have kf := first_add (pp := pp) s hs e he s.neqs ([.int .i64 s.next] ++ cEdt e) (by simp)
    simp only [a2, if_true] at hca
    rw [hca] at kf
    simp [a2] at kf
    by_cases c0 : checkAdd s e = 0
    · have hid : e.id = 0 ∨ (0 < e.id ∧ e.id < 1000000) := by
        unfold checkAdd at c0
        split at c0
        · simp at c0
        · omega
      by_cases a1 : e.id = 0
      · have q := p2 ⟨s.next, e.p⟩
        have m1 : max s.next (s.next + 1) = s.next + 1 := by omega
        have m2 : ¬ s.next + 1 ≤ s.next := by omega
        simp at q
        simp [a1] at kf
        simp [fn63, a2, kf, c0, a1, q, w1, m1, m2, eqnsAddW]
      · have q := p2 ⟨e.id, e.p⟩
        have w2 : IntKind.i64.wrap (e.id + 1) = e.id + 1 := by rw [i64_id] <;> omega
        simp at q
        by_cases a3 : s.next < e.id + 1
        · have m1 : max s.next (e.id + 1) = e.id + 1 := by omega
          simp [fn63, a2, kf, c0, a1, q, w2, m1, a3, eqnsAddW]
        · have m1 : max s.next (e.id + 1) = s.next := by omega
          simp [fn63, a2, kf, c0, a1, q, w2, m1, a3, eqnsAddW]
    · simp [fn63, a2, kf, c0, sys0]

/-! ### drop -/
theorem wdrop_spec (s : Sys) (hs : SW s) (e : Edt) : funD (cxT pp) 64 [.agg (cWork s e)] = some (.tup (if has s e.id = true then [.agg (cSys { s with eqs := drop s.eqs e.id, neqs := drop s.neqs e.id }), .int .i64 0] else [.agg (cSys sys0), .int .i64 332])) := by
  have b1 := hs.eqs.1
  have b2 := hs.neqs.1
  have kx := exists_spec (pp := pp) s (by omega) (by omega) e
  have k1 := without_spec (pp := pp) s.eqs (by omega) e.id
  have k2 := without_spec (pp := pp) s.neqs (by omega) e.id
  simp at kx k1 k2
  rw [fun_64]
  unfold closedD bodyD
  cases c : has s e.id
  · simp [fn64, kx, c, sys0]
  · simp [fn64, kx, c, k1, k2]

/-! ### set -/
def eqnsSetW (s : Sys) (e : Edt) : Sys := if 0 ≤ find s.eqs e.id then { s with eqs := withE s.eqs ⟨e.id, e.p⟩ } else { s with neqs := withE s.neqs ⟨e.id, e.p⟩ }
theorem first_set (s : Sys) (hs : SW s) (e : Edt) (he : PW e.p) :
    funD (cxT pp) 108 [.frz .any 2 [.int .i64 332, .func 125 [.agg (cWork s e)] [], .int .i64 320, .func 127 [.agg (cWork s e)] []]] =
      some (.int .i64 (if has s e.id = false then 332 else if fits e.p s.vars.length = false then 320 else 0)) := by
  have b1 := hs.eqs.1
  have b2 := hs.neqs.1
  have k := first_spec (pp := pp) [⟨332, 125, [.agg (cWork s e)], [], has s e.id⟩, ⟨320, 127, [.agg (cWork s e)], [], fits e.p s.vars.length⟩] (by simp) (by
    intro t ht
    simp only [List.mem_cons, List.not_mem_nil, or_false] at ht
    rcases ht with rfl | rfl
    · exact tst_closed (by simp) (by simp) (by simp) (by simp) (exists_spec s (by omega) (by omega) e)
    · exact tst_closed (by simp) (by simp) (by simp) (by simp) (wfits_spec s hs.vars e he))
  have e : (if has s e.id = false then 332 else if fits e.p s.vars.length = false then 320 else 0) = firstE [⟨332, 125, [.agg (cWork s e)], [], has s e.id⟩, ⟨320, 127, [.agg (cWork s e)], [], fits e.p s.vars.length⟩] := by
    cases has s e.id <;> cases fits e.p s.vars.length <;> simp [firstE, findL]
  rw [e]
  exact k
set_option maxHeartbeats 4000000 in
theorem set_spec (s : Sys) (hs : SW s) (e : Edt) (he : PW e.p) : funD (cxT pp) 65 [.agg (cWork s e)] = some (.tup (if has s e.id = false then [.agg (cSys sys0), .int .i64 332] else if fits e.p s.vars.length = false then [.agg (cSys sys0), .int .i64 320] else [.agg (cSys (eqnsSetW s e)), .int .i64 0])) := by
  have b1 := hs.eqs.1
  have b2 := hs.neqs.1
  have kf := first_set (pp := pp) s hs e he
  have k1 := byId_spec (pp := pp) s.eqs (by omega) e.id
  have p1 := with_spec (pp := pp) s.eqs (by omega) ⟨e.id, e.p⟩
  have p2 := with_spec (pp := pp) s.neqs (by omega) ⟨e.id, e.p⟩
  simp at kf p1 p2
  rw [fun_65]
  unfold closedD bodyD
  cases c1 : has s e.id
  · simp [fn65, kf, c1, sys0]
  · cases c2 : fits e.p s.vars.length
    · simp [fn65, kf, c1, c2, sys0]
    · by_cases c3 : 0 ≤ find s.eqs e.id
      · simp [fn65, kf, c1, c2, k1, c3, p1, eqnsSetW]
      · simp [fn65, kf, c1, c2, k1, c3, p2, eqnsSetW]

/-! ### flip -/
def eqnsFlipW (s : Sys) (e : Edt) : Sys :=
  if 0 ≤ find s.eqs e.id then { s with eqs := drop s.eqs e.id, neqs := withE s.neqs (getE s.eqs e.id) } else { s with eqs := withE s.eqs (getE s.neqs e.id), neqs := drop s.neqs e.id }
theorem first_flip (s : Sys) (hs : SW s) (e : Edt) (i k : Int) :
    funD (cxT pp) 108 [.frz .any 2 [.int .i64 332, .func 125 [.agg (cWork s e)] [], .int .i64 2, .func 130 [] [.cptr [.int .i64 i], .cptr (cWork s e), .cptr [.int .i64 k]]]] =
      some (.int .i64 (if has s e.id = false then 332 else if okFlip i k s = false then 2 else 0)) := by
  have b1 := hs.eqs.1
  have b2 := hs.neqs.1
  have kk := first_spec (pp := pp) [⟨332, 125, [.agg (cWork s e)], [], has s e.id⟩, ⟨2, 130, [], [.cptr [.int .i64 i], .cptr (cWork s e), .cptr [.int .i64 k]], okFlip i k s⟩] (by simp) (by
    intro t ht
    simp only [List.mem_cons, List.not_mem_nil, or_false] at ht
    rcases ht with rfl | rfl
    · exact tst_closed (by simp) (by simp) (by simp) (by simp) (exists_spec s (by omega) (by omega) e)
    · exact tst_closed (by simp) (by simp) (by simp) (by simp) (flip1_spec s e i k))
  have e : (if has s e.id = false then 332 else if okFlip i k s = false then 2 else 0) = firstE [⟨332, 125, [.agg (cWork s e)], [], has s e.id⟩, ⟨2, 130, [], [.cptr [.int .i64 i], .cptr (cWork s e), .cptr [.int .i64 k]], okFlip i k s⟩] := by
    cases has s e.id <;> cases okFlip i k s <;> simp [firstE, findL]
  rw [e]
  exact kk
set_option maxHeartbeats 4000000 in
theorem flip_spec (s : Sys) (hs : SW s) (e : Edt) : funD (cxT pp) 66 [.agg (cWork s e)] = some (.tup (if has s e.id = false then [.agg (cSys sys0), .int .i64 332] else if okFlip (find s.eqs e.id) (find s.neqs e.id) s = false then [.agg (cSys sys0), .int .i64 2] else [.agg (cSys (eqnsFlipW s e)), .int .i64 0])) := by
  have b1 := hs.eqs.1
  have b2 := hs.neqs.1
  have kf := first_flip (pp := pp) s hs e (find s.eqs e.id) (find s.neqs e.id)
  have k1 := byId_spec (pp := pp) s.eqs (by omega) e.id
  have k2 := byId_spec (pp := pp) s.neqs (by omega) e.id
  have k3 := without_spec (pp := pp) s.eqs (by omega) e.id
  have k4 := without_spec (pp := pp) s.neqs (by omega) e.id
  have p1 := fun x => with_spec (pp := pp) s.eqs (by omega) x
  have p2 := fun x => with_spec (pp := pp) s.neqs (by omega) x
  simp at kf k3 k4 p1 p2
  rw [fun_66]
  unfold closedD bodyD
  cases c1 : has s e.id
  · simp [fn66, kf, k1, k2, c1, sys0]
  · cases c2 : okFlip (find s.eqs e.id) (find s.neqs e.id) s
    · simp [fn66, kf, k1, k2, c1, c2, sys0]
    · by_cases c3 : 0 ≤ find s.eqs e.id
      · obtain ⟨r, hr⟩ := find_get c3
        have hl := drop_lt hr
        have hl' : find s.eqs e.id < s.eqs.length := by omega
        have q := p2 (getE s.eqs e.id)
        simp [fn66, kf, k1, k2, k3, k4, c1, c2, c3, hr, hl', q, eqnsFlipW]
      · have c4 : 0 ≤ find s.neqs e.id := by
          simp [has, c3] at c1
          exact c1
        obtain ⟨r, hr⟩ := find_get c4
        have hl := drop_lt hr
        have hl' : find s.neqs e.id < s.neqs.length := by omega
        have q := p1 (getE s.neqs e.id)
        simp [fn66, kf, k1, k2, k3, k4, c1, c2, c3, c4, hr, hl', q, eqnsFlipW]

/-! ### Apply -/
def equationsW (s : Sys) (e : Edt) : Sys :=
  if e.kind = 5 then eqnsAddW s e
  else if e.kind = 6 then { s with eqs := drop s.eqs e.id, neqs := drop s.neqs e.id }
  else if e.kind = 7 then eqnsSetW s e
  else eqnsFlipW s e
attribute [simp] mapPut mapFind sameK
set_option maxHeartbeats 4000000 in
theorem wapply_spec (s : Sys) (hs : SW s) (e : Edt) (he : PW e.p) (hdis : ¬ (0 ≤ find s.eqs e.id ∧ 0 ≤ find s.neqs e.id)) (hk : e.kind = 5 ∨ e.kind = 6 ∨ e.kind = 7 ∨ e.kind = 8) :
    funD (cxT pp) 20 [.agg (cSys s), .agg (cEdt e)] = some (.tup (if check s e = 0 then [.agg (cSys (equationsW s e)), .int .i64 0] else [.agg (cSys sys0), .int .i64 (check s e)])) := by
  rw [fun_20]
  unfold closedD bodyD
  rcases hk with hk | hk | hk | hk
  · have k := add_spec (pp := pp) s hs e he
    have hc : check s e = checkAdd s e := by simp [check, hk]
    rw [hc]
    simp [hk] at k
    by_cases c : checkAdd s e = 0
    · simp [c] at k
      simp [fn20, hk, k, c, equationsW]
    · simp [c] at k
      simp [fn20, hk, k, c]
  · have k := wdrop_spec (pp := pp) s hs e
    have hc : check s e = if has s e.id = true then 0 else 332 := by cases h : has s e.id <;> simp [check, hk, checkId, h]
    rw [hc]
    simp [hk] at k
    cases c : has s e.id
    · simp [c] at k
      simp [fn20, hk, k, c]
    · simp [c] at k
      simp [fn20, hk, k, c, equationsW]
  · have k := set_spec (pp := pp) s hs e he
    have hc : check s e = if has s e.id = false then 332 else if fits e.p s.vars.length = false then 320 else 0 := by
      cases h : has s e.id <;> cases h2 : fits e.p s.vars.length <;> simp [check, hk, checkId, h, h2]
    rw [hc]
    simp [hk] at k
    cases c : has s e.id
    · simp [c] at k
      simp [fn20, hk, k, c]
    · cases c2 : fits e.p s.vars.length
      · simp [c, c2] at k
        simp [fn20, hk, k, c, c2]
      · simp [c, c2] at k
        simp [fn20, hk, k, c, c2, equationsW]
  · have k := flip_spec (pp := pp) s hs e
    have hc : check s e = if has s e.id = false then 332 else if okFlip (find s.eqs e.id) (find s.neqs e.id) s = false then 2 else 0 := by
      cases h : has s e.id
      · simp [check, hk, checkId, h]
      · have hh : 0 ≤ find s.eqs e.id ∨ 0 ≤ find s.neqs e.id := by simpa [has] using h
        by_cases c1 : 0 ≤ find s.eqs e.id
        · have c2 : ¬ 0 ≤ find s.neqs e.id := fun h => hdis ⟨c1, h⟩
          by_cases c3 : 12 ≤ s.neqs.length
          · have c4 : ¬ s.neqs.length < 12 := by omega
            simp [check, hk, checkId, h, okFlip, c1, c2, c3, c4]
          · have c4 : s.neqs.length < 12 := by omega
            simp [check, hk, checkId, h, okFlip, c1, c2, c3, c4]
        · have c2 : 0 ≤ find s.neqs e.id := by omega
          by_cases c3 : 12 ≤ s.eqs.length
          · have c4 : ¬ s.eqs.length < 12 := by omega
            simp [check, hk, checkId, h, okFlip, c1, c2, c3, c4]
          · have c4 : s.eqs.length < 12 := by omega
            simp [check, hk, checkId, h, okFlip, c1, c2, c3, c4]
    rw [hc]
    simp [hk] at k
    cases c : has s e.id
    · simp [c] at k
      simp [fn20, hk, k, c]
    · cases c2 : okFlip (find s.eqs e.id) (find s.neqs e.id) s
      · simp [c, c2] at k
        simp [fn20, hk, k, c, c2]
      · simp [c, c2] at k
        simp [fn20, hk, k, c, c2, equationsW]
end Go.Va
end
section
open Go.Proofs
namespace Go.Va
variable {pp : Option PrimFn}

theorem others_spec (l : List Eqn) (hl : l.length < 2 ^ 30) (id : Int) : ownD (cxT pp) 33 [sl cEqn l, .int .i64 id] = some (.inr ((drop l id).length, 2, false, (drop l id).flatMap cEqn)) := by
  have loop := loop_fold (cx := cxT pp) (d := 0) (c := c33_0) l (fun out x => if x.id = id then out else out ++ [x])
    (fun i (out : List Eqn) s => out.length ≤ i ∧ Row s 5 ⟨0, 7⟩ 2 out.length (out.flatMap cEqn) ∧ s.env 0 = .p (sl cEqn l) ∧ s.env 1 = .p (.int .i64 id) ∧ s.env 6 = .p (.int .i64 i)) (.ex 0) (by simp)
    (by
      rintro i out ⟨env, h⟩ x rest hi hx hd ⟨hle, ⟨v, h5, hh⟩, h0, h1, h6⟩
      simp only at h0 h1 h5 h6 hh
      have hw := inc_id hi (by omega)
      have hr := @roomy_ok (out.length + 1) 32 (by omega) (by decide)
      by_cases hid : x.id = id
      · simp [-Prod.exists, c33_0, h0, h1, h5, h6, hh, hi, hd, cEqn, hid, hw, Row]
        omega
      · simp [-Prod.exists, c33_0, h0, h1, h5, h6, hh, hi, hd, cEqn, hid, hw, hr, Row, hle])
    (by
      rintro out ⟨env, h⟩ ⟨hle, ⟨v, h5, hh⟩, h0, h1, h6⟩
      simp only at h0 h1 h5 h6 hh
      simp [-Prod.exists, c33_0, h0, h1, h5, h6, hh, Row, hle])
  rw [ownD_of fns_33]
  unfold bodyD
  simp [fn33, ownR]
  generalize hx : codeD (cxT pp) 0 (ACode.loop c33_0) _ = X
  obtain ⟨e, env, h, rfl, q⟩ := at_code hx (loop [] _ (by simp [Row]))
  simp only at q
  obtain ⟨rfl, -, ⟨v, q2, q3⟩, -⟩ := q
  rw [drop_fold] at q2 q3
  simp only [List.nil_append] at q2 q3
  simp [q2, q3, ownR]
end Go.Va
end
section
open Go.Proofs
namespace Go.Va
variable {pp : Option PrimFn}
set_option maxRecDepth 1000000
theorem sanity_run : runIs pp 16 fn16 [] (.bool true) = true := by kernel_rfl
theorem sanity_spec : funD (cxT pp) 16 [] = some (.bool true) := runIs_fun fns_16 sanity_run
theorem names_run : ([0, 1, 2, 3, 4, 5].all fun (i : Int) => runIs pp 76 fn76 [.str (nameAt i)] (.bool (nameOK (nameAt i)))) = true := by kernel_rfl
theorem name_ok (i : Int) (h0 : 0 ≤ i) (h6 : i < 6) : NameK pp (nameAt i) := by
  have h : i ∈ [0, 1, 2, 3, 4, 5] := by simp; omega
  exact runIs_fun fns_76 (List.all_eq_true.1 names_run i h)
end Go.Va
end
section
open Go.Proofs
namespace Go.Va
variable {pp : Option PrimFn}
def idE (s : Sys) (e : Edt) : Int := if e.id = 0 then s.next else e.id
def wasE (s : Sys) (id : Int) : Bool := decide ((drop s.eqs id).length < s.eqs.length)
def wasN (s : Sys) (id : Int) : Bool := decide ((drop s.neqs id).length < s.neqs.length)
structure LawE (s : Sys) (e : Edt) (t : Sys) (id : Int) : Prop where
  next : s.next ≤ t.next
  vars : t.vars = s.vars
  eqs : drop t.eqs id = drop s.eqs id
  neqs : drop t.neqs id = drop s.neqs id
  leq : t.eqs.length < 2 ^ 30
  lne : t.neqs.length < 2 ^ 30
  poly : (e.kind = 5 ∨ e.kind = 7) → ∀ x ∈ t.eqs, x.id = id → x.p = e.p
  k5 : e.kind = 5 → (wasE t id || wasN t id) = true ∧ wasE t id = !e.neq
  k6 : e.kind = 6 → (wasE t id || wasN t id) = false
  k7 : e.kind = 7 → (wasE t id || wasN t id) = true ∧ wasE t id = wasE s id
  k8 : e.kind = 8 → (wasE t id || wasN t id) = true ∧ wasE t id = !wasE s id
def LawInv (e : Edt) (t : Sys) (id : Int) (W N R : Bool) (vs : PV) (eid : Int) (i : Nat) (st : St) : Prop :=
  st.env 17 = .p (.int .i64 i) ∧ st.env 9 = .ptr ⟨0, 9⟩ 1 0 ∧ st.env 8 = .ptr ⟨0, 8⟩ 1 0 ∧ st.env 11 = .p (.int .i64 id) ∧ st.env 5 = .p (.bool true) ∧ st.env 14 = .p (.bool W) ∧ st.env 15 = .p (.bool N) ∧ st.env 16 = .p (.bool R) ∧
      st.h.get ⟨0, 9⟩ = ⟨1, false, some (.cells [.p vs, .p (sl cEqn t.eqs), .p (sl cEqn t.neqs), .p (.int .i64 t.next)])⟩ ∧
      st.h.get ⟨0, 8⟩ = ⟨1, false, some (.cells [.p (.int .i64 e.kind), .p (.str e.name), .p (.int .i64 e.at_), .p (.int .i64 e.to), .p (.int .i64 eid), .p (poly e.p), .p (.bool e.neq)])⟩
theorem lawloop (e : Edt) (hpe : PW e.p) (t : Sys) (id : Int) (ht : t.eqs.length < 2 ^ 30) (hp : (e.kind = 5 ∨ e.kind = 7) → ∀ x ∈ t.eqs, x.id = id → x.p = e.p) (W N R : Bool) (vs : PV) (eid : Int) (st : St) (hst : LawInv e t id W N R vs eid 0 st) :
    ∃ r, codeD (cxT pp) 0 (.loop c7_0) st = some r ∧ r.1 = .ex 0 ∧ LawInv e t id W N R vs eid t.eqs.length r.2 :=
  loop_fold (cx := cxT pp) (d := 0) (c := c7_0) t.eqs (fun (u : Unit) _ => u)
    (fun i _ st => LawInv e t id W N R vs eid i st) (.ex 0) (by simp)
    (by
      rintro i u ⟨env, h⟩ x rest hi hx hd ⟨h17, h9, h8, h11, h5, h14, h15, h16, g9, g8⟩
      simp only at h17 h9 h8 h11 h5 h14 h15 h16 g9 g8
      have hw := inc_id hi (by omega)
      by_cases c1 : x.id = id
      · by_cases c2 : e.kind = 5
        · have hpx := hp (.inl c2) x (mem_drop hd) c1
          have k := r6same_spec (pp := pp) e.p e.p hpe.1 hpe.1 (by have := hpe.2.2; omega)
          simp at k
          simp [LawInv, c7_0, h17, h9, h8, h11, h5, h14, h15, h16, g9, g8, hi, hd, hw, cEqn, c1, c2, hpx, k]
        · by_cases c3 : e.kind = 7
          · have hpx := hp (.inr c3) x (mem_drop hd) c1
            have k := r6same_spec (pp := pp) e.p e.p hpe.1 hpe.1 (by have := hpe.2.2; omega)
            simp at k
            simp [LawInv, c7_0, h17, h9, h8, h11, h5, h14, h15, h16, g9, g8, hi, hd, hw, cEqn, c1, c2, c3, hpx, k]
          · simp [LawInv, c7_0, h17, h9, h8, h11, h5, h14, h15, h16, g9, g8, hi, hd, hw, cEqn, c1, c2, c3]
      · simp [LawInv, c7_0, h17, h9, h8, h11, h5, h14, h15, h16, g9, g8, hi, hd, hw, cEqn, c1])
    (by
      rintro u ⟨env, h⟩ ⟨h17, h9, h8, h11, h5, h14, h15, h16, g9, g8⟩
      simp only at h17 h9 h8 h11 h5 h14 h15 h16 g9 g8
      simp [LawInv, c7_0, h17, h9, h8, h11, h5, h14, h15, h16, g9, g8]) () st hst
set_option maxHeartbeats 4000000 in
theorem law_spec {G : Sys → Prop} (hG : Keeps33 pp G) (l m : List Raw33) (hl : ∀ x ∈ l, R33OK x) (hlen : l.length < 2 ^ 63) (hm : ∀ x ∈ m, R33OK x) (hmlen : m.length < 2 ^ 63)
    (H : ∀ e rest, editsS (madeS l 12) m 1 = e :: rest → 5 ≤ e.kind → PW e.p ∧ (e.kind = 5 ∨ e.kind = 6 ∨ e.kind = 7 ∨ e.kind = 8) ∧ check (madeS l 12) e = 0 ∧ ¬ (0 ≤ find (madeS l 12).eqs e.id ∧ 0 ≤ find (madeS l 12).neqs e.id) ∧ LawE (madeS l 12) e (equationsW (madeS l 12) e) (idE (madeS l 12) e)) :
    funD (cxT pp) 7 [sl cRaw l, sl cRaw m] = some (.bool true) := by
  obtain ⟨km, hg⟩ := made33_spec hG l hl hlen 12
  have ke := edits_spec hG (madeS l 12) hg m hm hmlen 1 (by omega)
  have hs := hG.sw _ hg
  have k0 := sanity_spec (pp := pp)
  simp at km ke
  generalize madeS l 12 = s at *
  have b1 := hs.eqs.1
  have b2 := hs.neqs.1
  rw [fun_7]
  unfold closedD bodyD
  cases hes : editsS s m 1 with
  | nil =>
    rw [hes] at ke
    simp at ke
    simp [fn7, k0, km, ke]
  | cons e rest =>
    rw [hes] at ke
    simp at ke
    have hz : ¬ ((rest.length : Int) + 1 = 0) := by omega
    by_cases c1 : e.kind < 5
    · simp [fn7, k0, km, ke, c1, cE, hz]
    · obtain ⟨hpe, hk, hc, hdis, hL⟩ := H e rest hes (by omega)
      have ka := wapply_spec (pp := pp) s hs e hpe hdis hk
      generalize equationsW s e = t at *
      generalize hid : idE s e = id at *
      have o1 := others_spec (pp := pp) s.eqs (by omega) id
      have o2 := others_spec (pp := pp) s.neqs (by omega) id
      have o3 := others_spec (pp := pp) t.eqs hL.leq id
      have o4 := others_spec (pp := pp) t.neqs hL.lne id
      have bn : ¬ t.next < s.next := by have := hL.next; omega
      have bv := hL.vars
      rw [hL.eqs] at o3
      rw [hL.neqs] at o4
      simp [hc, bv] at ka
      simp at o1 o2 o3 o4
      have hew : ∀ l : List Eqn, EW l → EW (drop l id) := fun l h => ⟨by have := h.1; have := List.length_filter_le (fun x : Eqn => !decide (x.id = id)) l; unfold drop; omega, fun x hx => h.2 x (List.mem_filter.1 hx).1⟩
      have ks := same32_spec (pp := pp) ⟨s.vars, drop s.eqs id, drop s.neqs id, 1⟩ ⟨s.vars, drop s.eqs id, drop s.neqs id, 1⟩ (by have := hs.vars; simp only; omega) (hew _ hs.eqs) (hew _ hs.neqs) (hew _ hs.eqs) (hew _ hs.neqs)
      simp at ks
      have hW : decide ((drop s.eqs id).length < s.eqs.length) = wasE s id := rfl
      have hN : decide ((drop s.eqs id).length < t.eqs.length) = wasE t id := by rw [← hL.eqs]; rfl
      have hR : decide ((drop s.neqs id).length < t.neqs.length) = wasN t id := by rw [← hL.neqs]; rfl
      obtain ⟨-, -, -, -, hleq, -, hpoly, h5, h6, h7, h8⟩ := hL
      have loop := fun W N R => lawloop (pp := pp) e hpe t id hleq hpoly W N R (.frz .any s.vars.length (strs s.vars))
      cases d1 : wasE t id
      · rw [d1] at hN
        have n1 : t.eqs.length ≤ (drop s.eqs id).length := by simpa using hN
        have n1' : ¬ (drop s.eqs id).length < t.eqs.length := by omega
        cases d2 : wasN t id
        · rw [d2] at hR
          have n2 : t.neqs.length ≤ (drop s.neqs id).length := by simpa using hR
          have n2' : ¬ (drop s.neqs id).length < t.neqs.length := by omega
          by_cases c2 : e.id = 0
          · have hid2 : s.next = id := by simpa [idE, c2] using hid
            subst hid2
            simp [c2] at ka
            simp [fn7, k0, km, ke, c1, cE, hz, ka, c2, bn, bv, o1, o2, o3, o4, ks, n1, n1', n2, n2']
            generalize hX : codeD (cxT pp) 0 (ACode.loop c7_0) _ = X
            obtain ⟨x, env, h, rfl, q⟩ := at_code hX (loop (wasE s s.next) false false 0 _ (by simp [LawInv, hW]))
            simp only [LawInv] at q
            obtain ⟨rfl, q17, q9, q8, q11, q5, q14, q15, q16, g9, g8⟩ := q
            simp [d1, d2] at h5 h6 h7 h8
            rcases hk with hk | hk | hk | hk
            · exact absurd hk h5
            · simp [q9, q8, q11, q5, q14, q15, q16, g9, g8, hk]
            · exact absurd hk h7
            · exact absurd hk h8
          · have hid2 : e.id = id := by simpa [idE, c2] using hid
            subst hid2
            simp [fn7, k0, km, ke, c1, cE, hz, ka, c2, bn, bv, o1, o2, o3, o4, ks, n1, n1', n2, n2']
            generalize hX : codeD (cxT pp) 0 (ACode.loop c7_0) _ = X
            obtain ⟨x, env, h, rfl, q⟩ := at_code hX (loop (wasE s e.id) false false e.id _ (by simp [LawInv, hW]))
            simp only [LawInv] at q
            obtain ⟨rfl, q17, q9, q8, q11, q5, q14, q15, q16, g9, g8⟩ := q
            simp [d1, d2] at h5 h6 h7 h8
            rcases hk with hk | hk | hk | hk
            · exact absurd hk h5
            · simp [q9, q8, q11, q5, q14, q15, q16, g9, g8, hk]
            · exact absurd hk h7
            · exact absurd hk h8
        · rw [d2] at hR
          have n2 : (drop s.neqs id).length < t.neqs.length := by simpa using hR
          have n2' : ¬ t.neqs.length ≤ (drop s.neqs id).length := by omega
          by_cases c2 : e.id = 0
          · have hid2 : s.next = id := by simpa [idE, c2] using hid
            subst hid2
            simp [c2] at ka
            simp [fn7, k0, km, ke, c1, cE, hz, ka, c2, bn, bv, o1, o2, o3, o4, ks, n1, n1', n2, n2']
            generalize hX : codeD (cxT pp) 0 (ACode.loop c7_0) _ = X
            obtain ⟨x, env, h, rfl, q⟩ := at_code hX (loop (wasE s s.next) false true 0 _ (by simp [LawInv, hW]))
            simp only [LawInv] at q
            obtain ⟨rfl, q17, q9, q8, q11, q5, q14, q15, q16, g9, g8⟩ := q
            simp [d1, d2] at h5 h6 h7 h8
            rcases hk with hk | hk | hk | hk
            · simp [q9, q8, q11, q5, q14, q15, q16, g9, g8, hk, h5 hk]
            · exact absurd hk h6
            · simp [q9, q8, q11, q5, q14, q15, q16, g9, g8, hk, h7 hk]
            · simp [q9, q8, q11, q5, q14, q15, q16, g9, g8, hk, h8 hk]
          · have hid2 : e.id = id := by simpa [idE, c2] using hid
            subst hid2
            simp [fn7, k0, km, ke, c1, cE, hz, ka, c2, bn, bv, o1, o2, o3, o4, ks, n1, n1', n2, n2']
            generalize hX : codeD (cxT pp) 0 (ACode.loop c7_0) _ = X
            obtain ⟨x, env, h, rfl, q⟩ := at_code hX (loop (wasE s e.id) false true e.id _ (by simp [LawInv, hW]))
            simp only [LawInv] at q
            obtain ⟨rfl, q17, q9, q8, q11, q5, q14, q15, q16, g9, g8⟩ := q
            simp [d1, d2] at h5 h6 h7 h8
            rcases hk with hk | hk | hk | hk
            · simp [q9, q8, q11, q5, q14, q15, q16, g9, g8, hk, h5 hk]
            · exact absurd hk h6
            · simp [q9, q8, q11, q5, q14, q15, q16, g9, g8, hk, h7 hk]
            · simp [q9, q8, q11, q5, q14, q15, q16, g9, g8, hk, h8 hk]
      · rw [d1] at hN
        have n1 : (drop s.eqs id).length < t.eqs.length := by simpa using hN
        have n1' : ¬ t.eqs.length ≤ (drop s.eqs id).length := by omega
        by_cases c2 : e.id = 0
        · have hid2 : s.next = id := by simpa [idE, c2] using hid
          subst hid2
          simp [c2] at ka
          simp [fn7, k0, km, ke, c1, cE, hz, ka, c2, bn, bv, o1, o2, o3, o4, ks, n1, n1']
          generalize hX : codeD (cxT pp) 0 (ACode.loop c7_0) _ = X
          obtain ⟨x, env, h, rfl, q⟩ := at_code hX (loop (wasE s s.next) true true 0 _ (by simp [LawInv, hW]))
          simp only [LawInv] at q
          obtain ⟨rfl, q17, q9, q8, q11, q5, q14, q15, q16, g9, g8⟩ := q
          simp [d1] at h5 h6 h7 h8
          rcases hk with hk | hk | hk | hk
          · simp [q9, q8, q11, q5, q14, q15, q16, g9, g8, hk, h5 hk]
          · exact absurd hk h6
          · simp [q9, q8, q11, q5, q14, q15, q16, g9, g8, hk, h7 hk]
          · simp [q9, q8, q11, q5, q14, q15, q16, g9, g8, hk, h8 hk]
        · have hid2 : e.id = id := by simpa [idE, c2] using hid
          subst hid2
          simp [fn7, k0, km, ke, c1, cE, hz, ka, c2, bn, bv, o1, o2, o3, o4, ks, n1, n1']
          generalize hX : codeD (cxT pp) 0 (ACode.loop c7_0) _ = X
          obtain ⟨x, env, h, rfl, q⟩ := at_code hX (loop (wasE s e.id) true true e.id _ (by simp [LawInv, hW]))
          simp only [LawInv] at q
          obtain ⟨rfl, q17, q9, q8, q11, q5, q14, q15, q16, g9, g8⟩ := q
          simp [d1] at h5 h6 h7 h8
          rcases hk with hk | hk | hk | hk
          · simp [q9, q8, q11, q5, q14, q15, q16, g9, g8, hk, h5 hk]
          · exact absurd hk h6
          · simp [q9, q8, q11, q5, q14, q15, q16, g9, g8, hk, h7 hk]
          · simp [q9, q8, q11, q5, q14, q15, q16, g9, g8, hk, h8 hk]
end Go.Va
end
section
open Go.Proofs
namespace Go.Va

/-! ### mcmp -/
theorem cmpL_eq : ∀ {a b : List Int}, a.length = b.length → cmpL (a.zip b) = 0 → a = b
  | [], [], _, _ => rfl
  | [], _ :: _, h, _ => by simp at h
  | _ :: _, [], h, _ => by simp at h
  | x :: a, y :: b, h, hc => by
    simp only [List.zip_cons_cons, cmpL] at hc
    split at hc
    · simp at hc
    · split at hc
      · simp at hc
      · have : x = y := by omega
        subst this
        rw [cmpL_eq (by simpa using h) hc]
theorem mcmp_eq {a b : Mono} (h : mcmp a b = 0) : a = b := by
  obtain ⟨a, ha⟩ := a
  obtain ⟨b, hb⟩ := b
  have : a = b := cmpL_eq (by rw [ha, hb]) h
  subst this; rfl
theorem cmpL_self : ∀ (a : List Int), cmpL (a.zip a) = 0
  | [] => rfl
  | x :: a => by simp [cmpL, cmpL_self a]
theorem cmpL_trans : ∀ {a b c : List Int}, a.length = b.length → b.length = c.length → 0 < cmpL (a.zip b) → 0 < cmpL (b.zip c) → 0 < cmpL (a.zip c)
  | [], [], [], _, _, h, _ => by simp [cmpL] at h
  | [], _ :: _, _, h, _, _, _ => by simp at h
  | _ :: _, [], _, h, _, _, _ => by simp at h
  | _, [], _ :: _, _, h, _, _ => by simp at h
  | _, _ :: _, [], _, h, _, _ => by simp at h
  | x :: a, y :: b, z :: c, h1, h2, h3, h4 => by
    simp only [List.zip_cons_cons, cmpL] at h3 h4 ⊢
    split at h3
    · simp at h3
    · rename_i g1
      split at h4
      · simp at h4
      · rename_i g2
        by_cases g3 : x < z
        · omega
        · rw [if_neg g3]
          by_cases g4 : z < x
          · rw [if_pos g4]; decide
          · rw [if_neg g4]
            have e1 : x = z := by omega
            have e2 : x = y := by omega
            subst e1; subst e2
            simp at h3 h4
            exact cmpL_trans (by simpa using h1) (by simpa using h2) h3 h4
theorem mcmp_trans {a b c : Mono} (h1 : 0 < mcmp a b) (h2 : 0 < mcmp b c) : 0 < mcmp a c :=
  cmpL_trans (by rw [a.h, b.h]) (by rw [b.h, c.h]) h1 h2
theorem mcmp_ne {a b : Mono} (h : 0 < mcmp a b) : a ≠ b := by
  rintro rfl
  have := cmpL_self a.l
  unfold mcmp at h; omega

/-! ### Valid polynomials have different monomials -/
abbrev monos (p : Poly) : List Mono := p.map (·.m)
theorem pvF_nodup : ∀ (p : Poly) (o : Option Mono), pvF o p = true → (monos p).Nodup ∧ ∀ m, o = some m → ∀ t ∈ p, 0 < mcmp m t.m
  | [], _, _ => by simp
  | t :: p, o, h => by
    simp only [pvF, Bool.and_eq_true] at h
    obtain ⟨h1, h2⟩ := pvF_nodup p (some t.m) h.2
    refine ⟨?_, ?_⟩
    · simp only [List.map_cons, List.nodup_cons]
      refine ⟨?_, h1⟩
      intro hm
      obtain ⟨u, hu, he⟩ := List.mem_map.1 hm
      exact mcmp_ne (h2 _ rfl u hu) he.symm
    · rintro m rfl u hu
      have h3 : 0 < mcmp m t.m := by
        have := h.1
        simp [tok] at this
        exact this.2
      rcases List.mem_cons.1 hu with rfl | hu
      · exact h3
      · exact mcmp_trans h3 (h2 _ rfl u hu)
theorem pvalid_nodup {p : Poly} (h : pvalid p = true) : (monos p).Nodup := (pvF_nodup p none h).1

/-! ### Adding a term that is not there -/
theorem padd_one : ∀ (p : Poly) (b : Term), (∀ a ∈ p, mcmp a.m b.m ≠ 0) → List.Perm (padd p [b]) (p ++ [b])
  | [], b, _ => by simp [padd]
  | a :: p, b, h => by
    unfold padd
    split
    · exact List.Perm.cons a (padd_one p b fun x hx => h x (List.mem_cons_of_mem _ hx))
    · rename_i h1
      split
      · rw [padd_nil]
        exact (List.perm_append_singleton b (a :: p)).symm
      · rename_i h2
        exact absurd (show mcmp a.m b.m = 0 by omega) (h a (List.mem_cons_self ..))

/-! ### Permutations of variables -/
theorem permG_ne : ∀ (P M : List Int) (acc : List Int) (x : Nat), (∀ y ∈ P, y.toNat ≠ x) → ((P.zip M).foldl permG acc)[x]? = acc[x]?
  | [], _, _, _, _ => rfl
  | _ :: _, [], _, _, _ => rfl
  | p :: P, m :: M, acc, x, h => by
    rw [List.zip_cons_cons, List.foldl_cons, permG_ne P M _ x fun y hy => h y (List.mem_cons_of_mem _ hy)]
    unfold permG
    rw [List.getElem?_set_ne (h p (List.mem_cons_self ..))]
theorem permG_get : ∀ (P M : List Int) (acc : List Int), P.Nodup → (∀ y ∈ P, 0 ≤ y ∧ y.toNat < acc.length) → P.length = M.length → ∀ (i : Nat) (p : Int), P[i]? = some p → ((P.zip M).foldl permG acc)[p.toNat]? = M[i]?
  | [], _, _, _, _, _, i, p, h => by simp at h
  | _ :: _, [], _, _, _, h, _, _, _ => by simp at h
  | q :: P, m :: M, acc, hn, hr, hl, i, p, h => by
    rw [List.zip_cons_cons, List.foldl_cons]
    rw [List.nodup_cons] at hn
    have hq := hr q (List.mem_cons_self ..)
    match i with
    | 0 =>
      simp at h
      subst h
      rw [permG_ne P M _ _ (by
        intro y hy he
        have := hr y (List.mem_cons_of_mem _ hy)
        exact hn.1 (by rwa [show q = y by omega]))]
      unfold permG
      rw [List.getElem?_set_self hq.2]; rfl
    | i + 1 =>
      simp only [List.getElem?_cons_succ] at h ⊢
      exact permG_get P M _ hn.2 (by
        intro y hy
        have := hr y (List.mem_cons_of_mem _ hy)
        unfold permG
        rw [List.length_set]; exact this) (by simpa using hl) i p h
theorem nodup_all : (nat4.all fun a => nat4.all fun b => decide (rotL a b).Nodup && decide (swpL a b).Nodup) = true := by decide
theorem isPerm_nodup {l : List Int} (h : IsPerm l) : l.Nodup := by
  obtain ⟨a, b, ha, hb, h⟩ := h
  have := List.all_eq_true.1 (List.all_eq_true.1 nodup_all a (mem_nat4 ha.1 ha.2)) b (mem_nat4 hb.1 hb.2)
  simp only [Bool.and_eq_true, decide_eq_true_eq] at this
  rcases h with rfl | rfl
  · exact this.1
  · exact this.2
theorem permM_inj {pm a b : Mono} (hp : IsPerm pm.l) (h : permM pm a = permM pm b) : a = b := by
  have hn := isPerm_nodup hp
  have hr : ∀ y ∈ pm.l, 0 ≤ y ∧ y.toNat < mono1.l.length := by
    intro y hy
    have := isPerm_range hp y hy
    have e : mono1.l.length = 8 := mono1.h
    omega
  have hl : (permM pm a).l = (permM pm b).l := by rw [h]
  have : a.l = b.l := by
    apply List.ext_getElem?
    intro i
    by_cases hi : i < 8
    · have hi' : i < pm.l.length := by rw [pm.h]; exact hi
      have g := List.getElem?_eq_getElem hi'
      rw [← permG_get pm.l a.l mono1.l hn hr (by rw [pm.h, a.h]) i _ g, ← permG_get pm.l b.l mono1.l hn hr (by rw [pm.h, b.h]) i _ g]
      exact congrArg (·[_]?) hl
    · rw [List.getElem?_eq_none (by rw [a.h]; omega), List.getElem?_eq_none (by rw [b.h]; omega)]
  obtain ⟨a, ha⟩ := a
  obtain ⟨b, hb⟩ := b
  simp only at this
  subst this; rfl
theorem permG_mem : ∀ (l : List (Int × Int)) (acc : List Int) (x : Int), x ∈ l.foldl permG acc → x ∈ acc ∨ ∃ y ∈ l, y.2 = x
  | [], _, _, h => .inl h
  | y :: l, acc, x, h => by
    rw [List.foldl_cons] at h
    rcases permG_mem l _ x h with h | ⟨z, hz, e⟩
    · unfold permG at h
      rcases List.mem_or_eq_of_mem_set h with h | h
      · exact .inl h
      · exact .inr ⟨y, List.mem_cons_self .., h.symm⟩
    · exact .inr ⟨z, List.mem_cons_of_mem _ hz, e⟩
theorem permM_valid {pm m : Mono} (h : mvalid m = true) : mvalid (permM pm m) = true := by
  unfold mvalid at *
  rw [List.all_eq_true] at *
  intro x hx
  rcases permG_mem _ _ x hx with hx | ⟨⟨p, y⟩, hy, rfl⟩
  · simp [mono1] at hx
    subst hx; rfl
  · exact h _ (List.of_mem_zip hy).2
abbrev pT (pm : Mono) (t : Term) : Term := ⟨t.c, permM pm t.m⟩
theorem permute_go {pm : Mono} (hp : IsPerm pm.l) : ∀ (q out : Poly), (∀ t ∈ q, ∀ a ∈ out, a.m ≠ permM pm t.m) → (monos q).Nodup → List.Perm (q.foldl (permT pm) out) (out ++ q.map (pT pm))
  | [], out, _, _ => by simp
  | t :: q, out, h, hn => by
    rw [List.foldl_cons, List.map_cons]
    simp only [List.map_cons, List.nodup_cons] at hn
    have h1 : List.Perm (permT pm out t) (out ++ [pT pm t]) := padd_one out _ fun a ha he => h t (List.mem_cons_self ..) a ha (mcmp_eq he)
    refine (permute_go hp q _ ?_ hn.2).trans ?_
    · intro u hu a ha
      have := h1.mem_iff.1 ha
      rw [List.mem_append, List.mem_singleton] at this
      rcases this with ha | rfl
      · exact h u (List.mem_cons_of_mem _ hu) a ha
      · intro he
        have := permM_inj hp he
        exact hn.1 (by rw [this]; exact List.mem_map_of_mem hu)
    · have := h1.append_right (q.map (pT pm))
      rwa [List.append_assoc] at this
theorem permute_perm {pm : Mono} (hp : IsPerm pm.l) {p : Poly} (hn : (monos p).Nodup) : List.Perm (permute pm p) (p.map (pT pm)) := by
  have := permute_go hp p [] (by simp) hn
  rwa [List.nil_append] at this
/-- .. with different monomials. -/
def PG (p : Poly) : Prop := PW p ∧ (monos p).Nodup
theorem nodup_pT {pm : Mono} (hp : IsPerm pm.l) {p : Poly} (hn : (monos p).Nodup) : (monos (p.map (pT pm))).Nodup := by
  induction p with
  | nil => simp
  | cons t p ih =>
    simp only [List.map_cons, List.nodup_cons] at hn ⊢
    refine ⟨?_, ih hn.2⟩
    intro h
    simp only [List.map_map, List.mem_map, Function.comp] at h
    obtain ⟨u, hu, he⟩ := h
    exact hn.1 (by rw [← permM_inj hp he]; exact List.mem_map_of_mem hu)
theorem permute_PG {pm : Mono} (hp : IsPerm pm.l) {p : Poly} (h : PG p) : PG (permute pm p) := by
  obtain ⟨⟨h1, h2, h3⟩, h4⟩ := h
  have hq := permute_perm hp h4
  refine ⟨⟨?_, ?_, ?_⟩, ?_⟩
  · intro t ht
    obtain ⟨u, hu, rfl⟩ := List.mem_map.1 (hq.mem_iff.1 ht)
    exact h1 u hu
  · intro t ht
    obtain ⟨u, hu, rfl⟩ := List.mem_map.1 (hq.mem_iff.1 ht)
    exact permM_valid (h2 u hu)
  · rw [hq.length_eq]; simpa using h3
  · exact (hq.map (·.m)).nodup_iff.2 (nodup_pT hp h4)
theorem apart_PG {pm : Mono} (hp : IsPerm pm.l) {p : Poly} (h : PG p) : Apart pm p := by
  intro i t rest hd a ha he
  have hs : p = p.take i ++ t :: rest := by rw [← hd, List.take_append_drop]
  have hn := h.2
  rw [hs] at hn
  simp only [List.map_append, List.map_cons, List.nodup_append] at hn
  have hq := permute_go hp (p.take i) [] (by simp) hn.1
  have := hq.mem_iff.1 ha
  rw [List.nil_append] at this
  obtain ⟨u, hu, rfl⟩ := List.mem_map.1 this
  have e := permM_inj hp (mcmp_eq he)
  exact hn.2.2 _ (List.mem_map_of_mem hu) _ (List.mem_cons_self ..) e

/-! ### Made polynomials -/
theorem padd_mem : ∀ (p q : Poly) (t : Term), t ∈ padd p q → (∃ a ∈ p, t.m = a.m) ∨ (∃ a ∈ q, t.m = a.m)
  | [], q, t, h => by simp only [padd] at h; exact .inr ⟨t, h, rfl⟩
  | a :: p, [], t, h => by simp only [padd] at h; exact .inl ⟨t, h, rfl⟩
  | a :: p, b :: q, t, h => by
    unfold padd at h
    have c1 : ∀ {r : Poly}, (∃ x ∈ r, t.m = x.m) → ∀ {y : Term}, ∃ x ∈ y :: r, t.m = x.m := by
      rintro r ⟨x, hx, e⟩ y
      exact ⟨x, List.mem_cons_of_mem _ hx, e⟩
    split at h
    · rcases List.mem_cons.1 h with rfl | h
      · exact .inl ⟨_, List.mem_cons_self .., rfl⟩
      · rcases padd_mem p (b :: q) t h with h | h
        · exact .inl (c1 h)
        · exact .inr h
    · split at h
      · rcases List.mem_cons.1 h with rfl | h
        · exact .inr ⟨_, List.mem_cons_self .., rfl⟩
        · rcases padd_mem (a :: p) q t h with h | h
          · exact .inl h
          · exact .inr (c1 h)
      · split at h
        · rcases padd_mem p q t h with h | h
          · exact .inl (c1 h)
          · exact .inr (c1 h)
        · rcases List.mem_cons.1 h with rfl | h
          · exact .inl ⟨_, List.mem_cons_self .., rfl⟩
          · rcases padd_mem p q t h with h | h
            · exact .inl (c1 h)
            · exact .inr (c1 h)
  termination_by p q => p.length + q.length
theorem made_go (n : Nat) (deg : Int) (h0 : 0 ≤ deg) (h1 : deg ≤ 13) : ∀ (l : List R5) (out : Poly) (k : Nat), Sm (3 * k) out → (∀ t ∈ out, mvalid t.m = true) → out.length ≤ k →
    Sm (3 * (k + l.length)) (l.foldl (madd n deg) out) ∧ (∀ t ∈ l.foldl (madd n deg) out, mvalid t.m = true) ∧ (l.foldl (madd n deg) out).length ≤ k + l.length
  | [], out, k, a, b, c => ⟨a, b, c⟩
  | r :: l, out, k, a, b, c => by
    rw [List.foldl_cons]
    have hs := padd_sm out _ a (scale1_sm (r.c.tmod 4) (tmod4 r.c) [⟨1, rmono r n deg⟩])
    have hl := padd_len out (scale1 (r.c.tmod 4) [⟨1, rmono r n deg⟩])
    have hl2 := scale1_len (r.c.tmod 4) [⟨1, rmono r n deg⟩]
    simp only [List.length_cons, List.length_nil] at hl2
    have hm : ∀ t ∈ madd n deg out r, mvalid t.m = true := by
      intro t ht
      rcases padd_mem _ _ t ht with ⟨u, hu, e⟩ | ⟨u, hu, e⟩
      · rw [e]; exact b u hu
      · unfold scale1 at hu
        split at hu
        · simp at hu
        · simp at hu
          subst hu
          rw [e]; exact rmono_valid r n deg h0 h1
    have := made_go n deg h0 h1 l (madd n deg out r) (k + 1) (by rw [show 3 * (k + 1) = 3 * k + 3 by omega]; exact hs) hm (by unfold madd; omega)
    rw [List.length_cons, show k + (l.length + 1) = k + 1 + l.length by omega]
    exact this
theorem made_PW (x : RawP) (n : Nat) (deg : Int) (h0 : 0 ≤ deg) (h1 : deg ≤ 13) (terms : Nat) (ht : terms ≤ 4) : PW (made x n deg terms) := by
  have := made_go n deg h0 h1 (x.take terms) [] 0 (by intro t ht; simp at ht) (by simp) (by simp)
  have hl : (x.take terms).length ≤ terms := by simp; omega
  refine ⟨?_, this.2.1, ?_⟩
  · intro t ht
    have := this.1 t ht
    omega
  · have := this.2.2
    unfold made; omega
end Go.Va
end
section
open Go.Proofs
namespace Go.Va

/-! ### Lists of equations -/
theorem mem_dropE {l : List Eqn} {id : Int} {x : Eqn} : x ∈ drop l id ↔ x ∈ l ∧ x.id ≠ id := by simp [drop]
theorem drop_drop (l : List Eqn) (id : Int) : drop (drop l id) id = drop l id := by simp [drop]
theorem drop_len (l : List Eqn) (id : Int) : (drop l id).length ≤ l.length := List.length_filter_le _ _
theorem drop_none {l : List Eqn} {id : Int} (h : ∀ x ∈ l, x.id ≠ id) : drop l id = l := by
  unfold drop
  rw [List.filter_eq_self]
  intro x hx
  simpa using h x hx
theorem drop_some {l : List Eqn} {id : Int} {x : Eqn} (h : x ∈ l) (hx : x.id = id) : (drop l id).length < l.length := by
  unfold drop
  have := List.length_filter_lt_length_iff_exists (p := fun x : Eqn => !decide (x.id = id)) (l := l)
  exact this.2 ⟨x, h, by simp [hx]⟩
theorem findL_mem (id : Int) : ∀ (l : List Eqn) (i : Nat), (findL (fun i (x : Eqn) => if x.id = id then some (i : Int) else none) l i = none ↔ ∀ x ∈ l, x.id ≠ id) ∧ ∀ z, findL (fun i (x : Eqn) => if x.id = id then some (i : Int) else none) l i = some z → 0 ≤ z
  | [], _ => by simp [findL]
  | x :: l, i => by
    obtain ⟨h1, h2⟩ := findL_mem id l (i + 1)
    unfold findL
    by_cases hx : x.id = id
    · simp [hx]
    · simp only [hx, if_false]
      refine ⟨?_, h2⟩
      rw [h1]
      simp [hx]
theorem find_pos {l : List Eqn} {id : Int} : 0 ≤ find l id ↔ ∃ x ∈ l, x.id = id := by
  obtain ⟨h1, h2⟩ := findL_mem id l 0
  unfold find
  cases h : findL (fun i (x : Eqn) => if x.id = id then some (i : Int) else none) l 0 with
  | none =>
    have := h1.1 h
    simp only [Option.getD_none]
    constructor
    · intro h; omega
    · rintro ⟨x, hx, he⟩; exact absurd he (this x hx)
  | some z =>
    have hz := h2 z h
    simp only [Option.getD_some]
    refine ⟨fun _ => ?_, fun _ => hz⟩
    apply Classical.byContradiction
    intro hn
    have : ∀ x ∈ l, x.id ≠ id := fun x hx he => hn ⟨x, hx, he⟩
    rw [h1.2 this] at h
    cases h
theorem getE_mem {l : List Eqn} {id : Int} (h : 0 ≤ find l id) : getE l id ∈ l ∧ (getE l id).id = id := by
  obtain ⟨x, hx, he⟩ := find_pos.1 h
  unfold getE
  cases hf : l.find? fun x => decide (x.id = id) with
  | none =>
    have := List.find?_eq_none.1 hf x hx
    simp [he] at this
  | some y =>
    simp only [Option.getD_some]
    exact ⟨List.mem_of_find?_eq_some hf, by simpa using List.find?_some hf⟩
theorem putF_mem (x y : Eqn) : ∀ (l : List Eqn) (b : Bool), y ∈ putF x l b → y = x ∨ (y ∈ l ∧ y.id ≠ x.id)
  | [], b, h => by
    unfold putF at h
    cases b <;> simp at h
    exact .inl h
  | z :: l, b, h => by
    unfold putF at h
    rw [List.mem_append, List.mem_append] at h
    rcases h with (h | h) | h
    · split at h
      · simp at h; exact .inl h
      · simp at h
    · split at h
      · simp at h
      · rename_i hz
        simp at h
        subst h
        exact .inr ⟨List.mem_cons_self .., hz⟩
    · rcases putF_mem x y l _ h with h | h
      · exact .inl h
      · exact .inr ⟨List.mem_cons_of_mem _ h.1, h.2⟩
theorem put_mem {x y : Eqn} {l : List Eqn} (h : y ∈ put l x) : y = x ∨ (y ∈ l ∧ y.id ≠ x.id) := putF_mem x y l false h
theorem putF_len (x : Eqn) : ∀ (l : List Eqn) (b : Bool), (putF x l b).length = (drop l x.id).length + (if b then 0 else 1)
  | [], b => by cases b <;> rfl
  | z :: l, b => by
    unfold putF
    rw [List.length_append, List.length_append, putF_len x l]
    by_cases h1 : z.id = x.id
    · cases b <;> simp [drop, h1, Nat.add_comm]
    · cases b
      · by_cases h2 : x.id ≤ z.id
        · simp [drop, h1, h2]; omega
        · simp [drop, h1, h2]; omega
      · simp [drop, h1]; omega
theorem put_len (l : List Eqn) (x : Eqn) : (put l x).length = (drop l x.id).length + 1 := putF_len x l false
theorem withE_eq (l : List Eqn) (x : Eqn) : ∃ j, withE l x = (drop l x.id).take j ++ [x] ++ (drop l x.id).drop j := ⟨_, rfl⟩
theorem withE_mem {l : List Eqn} {x y : Eqn} : y ∈ withE l x ↔ y = x ∨ (y ∈ l ∧ y.id ≠ x.id) := by
  obtain ⟨j, e⟩ := withE_eq l x
  rw [e]
  simp only [List.mem_append, List.mem_singleton]
  rw [← mem_dropE]
  have : y ∈ drop l x.id ↔ y ∈ (drop l x.id).take j ∨ y ∈ (drop l x.id).drop j := by
    rw [← List.mem_append, List.take_append_drop]
  rw [this]
  constructor
  · rintro ((h | h) | h)
    · exact .inr (.inl h)
    · exact .inl h
    · exact .inr (.inr h)
  · rintro (h | h | h)
    · exact .inl (.inr h)
    · exact .inl (.inl h)
    · exact .inr h
theorem drop_app (a b : List Eqn) (id : Int) : drop (a ++ b) id = drop a id ++ drop b id := by simp [drop]
theorem withE_drop (l : List Eqn) (x : Eqn) : drop (withE l x) x.id = drop l x.id := by
  obtain ⟨j, e⟩ := withE_eq l x
  rw [e, drop_app, drop_app, show drop [x] x.id = [] by simp [drop], List.append_nil, ← drop_app, List.take_append_drop, drop_drop]
theorem withE_len (l : List Eqn) (x : Eqn) : (withE l x).length = (drop l x.id).length + 1 := by
  obtain ⟨j, e⟩ := withE_eq l x
  rw [e]
  have := congrArg List.length (List.take_append_drop j (drop l x.id))
  simp only [List.length_append, List.length_cons, List.length_nil] at this ⊢
  omega

/-! ### Good systems -/
structure Good (s : Sys) : Prop where
  vars : s.vars.length ≤ 4
  leqs : s.eqs.length ≤ 12
  lneqs : s.neqs.length ≤ 12
  pe : ∀ x ∈ s.eqs, PG x.p
  pn : ∀ x ∈ s.neqs, PG x.p
  ie : ∀ x ∈ s.eqs, 1 ≤ x.id ∧ x.id < s.next
  iN : ∀ x ∈ s.neqs, 1 ≤ x.id ∧ x.id < s.next
  dis : ∀ x ∈ s.eqs, ∀ y ∈ s.neqs, x.id ≠ y.id
  lo : 1 ≤ s.next
  hi : s.next ≤ 1000000
theorem Good.sw {s : Sys} (h : Good s) : SW s :=
  ⟨h.vars, ⟨h.leqs, fun x hx => (h.pe x hx).1⟩, ⟨h.lneqs, fun x hx => (h.pn x hx).1⟩, by have := h.lo; omega, by have := h.hi; omega⟩
theorem Good.sa {s : Sys} (h : Good s) : SA s := by
  intro pm hpm x hx
  rcases List.mem_append.1 hx with hx | hx
  · exact apart_PG hpm (h.pe x hx)
  · exact apart_PG hpm (h.pn x hx)
theorem Good.two {s : Sys} (h : Good s) (id : Int) : ¬ (0 ≤ find s.eqs id ∧ 0 ≤ find s.neqs id) := by
  rintro ⟨h1, h2⟩
  obtain ⟨x, hx, ex⟩ := find_pos.1 h1
  obtain ⟨y, hy, ey⟩ := find_pos.1 h2
  exact h.dis x hx y hy (by rw [ex, ey])
theorem fits_PG {p : Poly} {n : Nat} (hp : PW p) (h : fits p n = true) : PG p := by
  unfold fits at h
  simp only [Bool.and_eq_true] at h
  exact ⟨hp, pvalid_nodup h.1.1⟩
theorem good_one : Good sys1 := by
  constructor <;> simp [sys1]
theorem moved_good {s : Sys} (h : Good s) {pm : Mono} (hp : IsPerm pm.l) (v : List ByteArray) (hv : v.length ≤ 4) : Good ⟨v, moved pm s.eqs, moved pm s.neqs, s.next⟩ := by
  obtain ⟨h1, h2, h3, h4, h5, h6, h7, h8, h9, h10⟩ := h
  have m : ∀ {l : List Eqn} {x : Eqn}, x ∈ moved pm l → ∃ y ∈ l, x.id = y.id ∧ x.p = permute pm y.p := by
    intro l x hx
    obtain ⟨y, hy, rfl⟩ := List.mem_map.1 hx
    exact ⟨y, hy, rfl, rfl⟩
  refine ⟨hv, by simpa [moved] using h2, by simpa [moved] using h3, ?_, ?_, ?_, ?_, ?_, h9, h10⟩
  · intro x hx
    obtain ⟨y, hy, -, e⟩ := m hx
    rw [e]; exact permute_PG hp (h4 y hy)
  · intro x hx
    obtain ⟨y, hy, -, e⟩ := m hx
    rw [e]; exact permute_PG hp (h5 y hy)
  · intro x hx
    obtain ⟨y, hy, e, -⟩ := m hx
    rw [e]; exact h6 y hy
  · intro x hx
    obtain ⟨y, hy, e, -⟩ := m hx
    rw [e]; exact h7 y hy
  · intro x hx y hy
    obtain ⟨x', hx', e, -⟩ := m hx
    obtain ⟨y', hy', e', -⟩ := m hy
    rw [e, e']; exact h8 x' hx' y' hy'

/-- What an edit of equations makes, however it puts: the facts of 'put' and of 'withE'. -/
structure Puts (P : List Eqn → Eqn → List Eqn) : Prop where
  mem : ∀ {l : List Eqn} {x y : Eqn}, y ∈ P l x → y = x ∨ (y ∈ l ∧ y.id ≠ x.id)
  len : ∀ (l : List Eqn) (x : Eqn), (P l x).length = (drop l x.id).length + 1
theorem puts_put : Puts put := ⟨put_mem, put_len⟩

theorem check_kinds {s : Sys} {e : Edt} (h : check s e = 0) (h1 : e.kind ≠ 1) (h2 : e.kind ≠ 2) (h3 : e.kind ≠ 3) (h4 : e.kind ≠ 4) : e.kind = 5 ∨ e.kind = 6 ∨ e.kind = 7 ∨ e.kind = 8 := by
  unfold check at h
  rw [if_neg h1, if_neg h2, if_neg h3, if_neg h4] at h
  split at h
  · exact .inl ‹_›
  · split at h
    · exact .inr ‹_›
    · cases h
theorem checkAdd_ok {s : Sys} {e : Edt} (h : checkAdd s e = 0) : 0 ≤ e.id ∧ e.id ≤ 999999 ∧ (0 < e.id → has s e.id = false) ∧ (e.neq = false → s.eqs.length < 12) ∧ (e.neq = true → s.neqs.length < 12) ∧ (e.id = 0 → s.next < 1000000) ∧ fits e.p s.vars.length = true := by
  unfold checkAdd at h
  split at h
  · cases h
  · rename_i g1
    split at h
    · cases h
    · rename_i g2
      split at h
      · rename_i g3
        simp only [not_or, not_and] at g1 g2
        refine ⟨by omega, by omega, fun hp => ?_, fun hp => ?_, fun hp => ?_, fun hp => ?_, g3⟩
        · simpa using g1.2.2 hp
        · have := g2.1 hp; omega
        · have := g2.2.1 hp; omega
        · have := g2.2.2 hp; omega
      · cases h
theorem checkId_ok {s : Sys} {e : Edt} (h : checkId s e = 0) : has s e.id = true ∧ (e.kind = 7 → fits e.p s.vars.length = true) ∧ (e.kind = 8 → (0 ≤ find s.eqs e.id → s.neqs.length < 12) ∧ (¬ 0 ≤ find s.eqs e.id → s.eqs.length < 12)) := by
  unfold checkId at h
  split at h
  · cases h
  · rename_i g1
    split at h
    · cases h
    · rename_i g2
      split at h
      · cases h
      · rename_i g3
        refine ⟨by simpa using g1, fun hk => ?_, fun hk => ⟨fun hp => ?_, fun hp => ?_⟩⟩
        · simp only [not_and] at g2
          simpa using g2 hk
        · simp only [not_and, not_or] at g3
          have := (g3 hk).1 hp; omega
        · simp only [not_and, not_or] at g3
          have := (g3 hk).2 hp; omega
theorem has_or {s : Sys} {id : Int} : has s id = true ↔ 0 ≤ find s.eqs id ∨ 0 ≤ find s.neqs id := by simp [has]
theorem has_not {s : Sys} {id : Int} (h : has s id = false) : (∀ x ∈ s.eqs, x.id ≠ id) ∧ (∀ x ∈ s.neqs, x.id ≠ id) := by
  have h' : ¬ (0 ≤ find s.eqs id ∨ 0 ≤ find s.neqs id) := by rw [← has_or]; simp [h]
  rw [not_or, find_pos, find_pos] at h'
  exact ⟨fun x hx he => h'.1 ⟨x, hx, he⟩, fun x hx he => h'.2 ⟨x, hx, he⟩⟩
end Go.Va
end
section
open Go.Proofs
namespace Go.Va
variable {pp : Option PrimFn}

theorem good_mk {s : Sys} (h : Good s) {l1 l2 : List Eqn} {n : Int} (hn : 1 ≤ n) (hn2 : n ≤ 1000000) (k1 : l1.length ≤ 12) (k2 : l2.length ≤ 12)
    (H1 : ∀ y ∈ l1, PG y.p ∧ 1 ≤ y.id ∧ y.id < n) (H2 : ∀ y ∈ l2, PG y.p ∧ 1 ≤ y.id ∧ y.id < n) (D : ∀ x ∈ l1, ∀ y ∈ l2, x.id ≠ y.id) : Good ⟨s.vars, l1, l2, n⟩ :=
  ⟨h.vars, k1, k2, fun x hx => (H1 x hx).1, fun x hx => (H2 x hx).1, fun x hx => (H1 x hx).2, fun x hx => (H2 x hx).2, D, hn, hn2⟩
theorem Good.all1 {s : Sys} (h : Good s) : ∀ y ∈ s.eqs, PG y.p ∧ 1 ≤ y.id ∧ y.id < s.next := fun y hy => ⟨h.pe y hy, h.ie y hy⟩
theorem Good.all2 {s : Sys} (h : Good s) : ∀ y ∈ s.neqs, PG y.p ∧ 1 ≤ y.id ∧ y.id < s.next := fun y hy => ⟨h.pn y hy, h.iN y hy⟩
/-- The Id that an added equation gets. -/
theorem new_id {s : Sys} (h : Good s) {e : Edt} (hc : checkAdd s e = 0) : 1 ≤ (if e.id = 0 then s.next else e.id) ∧ (if e.id = 0 then s.next else e.id) ≤ 999999 ∧ (∀ x ∈ s.eqs, x.id ≠ if e.id = 0 then s.next else e.id) ∧ (∀ x ∈ s.neqs, x.id ≠ if e.id = 0 then s.next else e.id) := by
  obtain ⟨c1, c2, c3, -, -, c6, -⟩ := checkAdd_ok hc
  have hlo := h.lo
  split
  · rename_i h0
    have := c6 h0
    refine ⟨hlo, by omega, fun x hx => ?_, fun x hx => ?_⟩
    · have := (h.ie x hx).2; omega
    · have := (h.iN x hx).2; omega
  · have := has_not (c3 (by omega))
    exact ⟨by omega, by omega, this.1, this.2⟩
theorem equations_good {s : Sys} (h : Good s) {e : Edt} (he : PW e.p) (hc : check s e = 0) (hk : e.kind = 5 ∨ e.kind = 6 ∨ e.kind = 7 ∨ e.kind = 8) : Good (equations s e) := by
  have hlo := h.lo
  have hhi := h.hi
  have l1 := h.leqs
  have l2 := h.lneqs
  have a1 := h.all1
  have a2 := h.all2
  have dd := h.dis
  unfold equations
  by_cases h5 : e.kind = 5
  · rw [if_pos h5]
    have hca : checkAdd s e = 0 := by simpa [check, h5] using hc
    obtain ⟨i1, i2, i3, i4⟩ := new_id h hca
    obtain ⟨-, -, -, c4, c5, -, c7⟩ := checkAdd_ok hca
    have hp := fits_PG he c7
    unfold eqnsAdd
    generalize (if e.id = 0 then s.next else e.id) = id at *
    have up : ∀ {y : Eqn}, PG y.p ∧ 1 ≤ y.id ∧ y.id < s.next → PG y.p ∧ 1 ≤ y.id ∧ y.id < max s.next (id + 1) := fun h => ⟨h.1, h.2.1, by omega⟩
    split
    · rename_i hneq
      have := put_len s.neqs ⟨id, e.p⟩
      have := drop_len s.neqs (Eqn.mk id e.p).id
      have := c5 hneq
      refine good_mk h (by omega) (by omega) l1 (by omega) (fun y hy => up (a1 y hy)) (fun y hy => ?_) (fun x hx y hy => ?_)
      · rcases put_mem hy with rfl | hy
        · exact ⟨hp, i1, by simp only; omega⟩
        · exact up (a2 y hy.1)
      · rcases put_mem hy with rfl | hy
        · exact i3 x hx
        · exact dd x hx y hy.1
    · rename_i hneq
      have hneq' : e.neq = false := by simpa using hneq
      have := put_len s.eqs ⟨id, e.p⟩
      have := drop_len s.eqs (Eqn.mk id e.p).id
      have := c4 hneq'
      refine good_mk h (by omega) (by omega) (by omega) l2 (fun y hy => ?_) (fun y hy => up (a2 y hy)) (fun x hx y hy => ?_)
      · rcases put_mem hy with rfl | hy
        · exact ⟨hp, i1, by simp only; omega⟩
        · exact up (a1 y hy.1)
      · rcases put_mem hx with rfl | hx
        · exact (i4 y hy).symm
        · exact dd x hx.1 y hy
  have hci : checkId s e = 0 := by
    have : e.kind = 6 ∨ e.kind = 7 ∨ e.kind = 8 := by rcases hk with hk | hk; exact absurd hk h5; exact hk
    unfold check at hc
    rw [if_neg (by omega), if_neg (by omega), if_neg (by omega), if_neg (by omega), if_neg h5, if_pos this] at hc
    exact hc
  obtain ⟨c1, c2, c3⟩ := checkId_ok hci
  have d1 := drop_len s.eqs e.id
  have d2 := drop_len s.neqs e.id
  rw [if_neg h5]
  by_cases h6 : e.kind = 6
  · rw [if_pos h6]
    exact good_mk h hlo hhi (by omega) (by omega) (fun y hy => a1 y (mem_dropE.1 hy).1) (fun y hy => a2 y (mem_dropE.1 hy).1) (fun x hx y hy => dd x (mem_dropE.1 hx).1 y (mem_dropE.1 hy).1)
  rw [if_neg h6]
  by_cases h7 : e.kind = 7
  · rw [if_pos h7]
    have hp := fits_PG he (c2 h7)
    unfold eqnsSet
    split
    · rename_i hf
      obtain ⟨z, hz, ez⟩ := find_pos.1 hf
      have := put_len s.eqs ⟨e.id, e.p⟩
      have := drop_some hz ez
      have iz := a1 z hz
      refine good_mk h hlo hhi (by simp only at *; omega) l2 (fun y hy => ?_) a2 (fun x hx y hy => ?_)
      · rcases put_mem hy with rfl | hy
        · exact ⟨hp, by simp only; omega, by simp only; omega⟩
        · exact a1 y hy.1
      · rcases put_mem hx with rfl | hx
        · have := dd z hz y hy
          simp only; rwa [← ez]
        · exact dd x hx.1 y hy
    · rename_i hf
      have hf2 := (has_or.1 c1).resolve_left hf
      obtain ⟨z, hz, ez⟩ := find_pos.1 hf2
      have := put_len s.neqs ⟨e.id, e.p⟩
      have := drop_some hz ez
      have iz := a2 z hz
      refine good_mk h hlo hhi l1 (by simp only at *; omega) a1 (fun y hy => ?_) (fun x hx y hy => ?_)
      · rcases put_mem hy with rfl | hy
        · exact ⟨hp, by simp only; omega, by simp only; omega⟩
        · exact a2 y hy.1
      · rcases put_mem hy with rfl | hy
        · have := dd x hx z hz
          simp only; rwa [← ez]
        · exact dd x hx y hy.1
  rw [if_neg h7]
  have h8 : e.kind = 8 := by omega
  obtain ⟨c4, c5⟩ := c3 h8
  unfold eqnsFlip
  split
  · rename_i hf
    obtain ⟨gm, gi⟩ := getE_mem hf
    have := put_len s.neqs (getE s.eqs e.id)
    have := drop_len s.neqs (getE s.eqs e.id).id
    have := c4 hf
    refine good_mk h hlo hhi (by omega) (by omega) (fun y hy => a1 y (mem_dropE.1 hy).1) (fun y hy => ?_) (fun x hx y hy => ?_)
    · rcases put_mem hy with rfl | hy
      · exact a1 _ gm
      · exact a2 y hy.1
    · obtain ⟨hx1, hx2⟩ := mem_dropE.1 hx
      rcases put_mem hy with rfl | hy
      · rw [gi]; exact hx2
      · exact dd x hx1 y hy.1
  · rename_i hf
    have hf2 := (has_or.1 c1).resolve_left hf
    obtain ⟨gm, gi⟩ := getE_mem hf2
    have := put_len s.eqs (getE s.neqs e.id)
    have := drop_len s.eqs (getE s.neqs e.id).id
    have := c5 hf
    refine good_mk h hlo hhi (by omega) (by omega) (fun y hy => ?_) (fun y hy => a2 y (mem_dropE.1 hy).1) (fun x hx y hy => ?_)
    · rcases put_mem hy with rfl | hy
      · exact a2 _ gm
      · exact a1 y hy.1
    · obtain ⟨hy1, hy2⟩ := mem_dropE.1 hy
      rcases put_mem hx with rfl | hx
      · rw [gi]; exact hy2.symm
      · exact dd x hx.1 y hy1
theorem isV_iff {s : Sys} {i : Int} : isV s i = true ↔ 0 ≤ i ∧ i < s.vars.length := by simp [isV]
theorem applyV_good {s : Sys} (h : Good s) {e : Edt} (he : PW e.p) (hc : check s e = 0) : Good (applyV s e) := by
  have hv := h.vars
  have hc' := hc
  unfold applyV
  by_cases h1 : e.kind = 1
  · rw [if_pos h1]
    unfold check at hc
    rw [if_pos h1] at hc
    have b1 : s.vars.length < 4 ∧ 0 ≤ e.at_ ∧ e.at_ ≤ s.vars.length := by
      split at hc
      · cases hc
      · split at hc
        · cases hc
        · omega
    exact moved_good h (isPerm_rot (by omega) (by omega)) _ (by simp; omega)
  rw [if_neg h1]
  by_cases h2 : e.kind = 2
  · rw [if_pos h2]
    unfold check at hc
    rw [if_neg h1, if_pos h2] at hc
    have b1 : isV s e.at_ = true := by
      split at hc
      · cases hc
      · simpa using ‹¬ isV s e.at_ = false›
    have b2 := isV_iff.1 b1
    exact moved_good h (isPerm_rot (by omega) (by omega)) _ (by simp; omega)
  rw [if_neg h2]
  by_cases h3 : e.kind = 3
  · rw [if_pos h3]
    obtain ⟨g1, g2, g3, g4, g5, g6, g7, g8, g9, g10⟩ := h
    exact ⟨by simpa using g1, g2, g3, g4, g5, g6, g7, g8, g9, g10⟩
  rw [if_neg h3]
  by_cases h4 : e.kind = 4
  · rw [if_pos h4]
    unfold check at hc
    rw [if_neg h1, if_neg h2, if_neg h3, if_pos h4] at hc
    have b1 : isV s e.at_ = true ∧ isV s e.to = true := by
      split at hc
      · cases hc
      · rename_i g
        simpa using g
    have b2 := isV_iff.1 b1.1
    have b3 := isV_iff.1 b1.2
    exact moved_good h (isPerm_swp (by omega) (by omega)) _ (by simpa using hv)
  rw [if_neg h4]
  exact equations_good h he hc' (check_kinds hc' h1 h2 h3 h4)
theorem edit_PW (s : Sys) (x : Raw33) : PW (editOf s x).p := made_PW _ _ _ (by decide) (by decide) _ (by decide)
theorem step_good {s : Sys} (h : Good s) (x : Raw33) : Good (stepS s x) := by
  unfold stepS
  split
  · rename_i hz
    unfold apply at hz ⊢
    by_cases c : check s (editOf s x) = 0
    · rw [if_pos c]
      exact applyV_good h (edit_PW s x) c
    · rw [if_neg c] at hz
      exact absurd hz c
  · exact h
theorem keeps (pp : Option PrimFn) : Keeps33 pp Good :=
  ⟨fun _ h => h.sw, fun _ h => h.sa, fun s x _ _ => edit_PW s x, fun i h0 h6 => name_ok i h0 h6, fun _ x h _ => step_good h x, good_one⟩
end Go.Va
end
section
open Go.Proofs
namespace Go.Va
variable {pp : Option PrimFn}

theorem edits_one {s : Sys} {m : List Raw33} {e : Edt} {rest : List Edt} (h : editsS s m 1 = e :: rest) : ∃ x, e = editOf s x ∧ check s e = 0 := by
  unfold editsS at h
  cases m with
  | nil => simp at h
  | cons x m =>
    simp only [List.take_succ_cons, List.take_zero, List.foldl_cons, List.foldl_nil] at h
    unfold stepE at h
    split at h
    · rename_i hz
      simp at h
      obtain ⟨rfl, -⟩ := h
      refine ⟨x, rfl, ?_⟩
      unfold apply at hz
      by_cases c : check s (editOf s x) = 0
      · exact c
      · rw [if_neg c] at hz; exact absurd hz c
    · simp at h
theorem was_with (l : List Eqn) (x : Eqn) : (drop (withE l x) x.id).length < (withE l x).length := by
  rw [withE_drop, withE_len]; omega
theorem lawE {s : Sys} (h : Good s) {e : Edt} (hc : check s e = 0) (hk : e.kind = 5 ∨ e.kind = 6 ∨ e.kind = 7 ∨ e.kind = 8) : LawE s e (equationsW s e) (idE s e) := by
  have l1 := h.leqs
  have l2 := h.lneqs
  have hlo := h.lo
  unfold equationsW
  by_cases h5 : e.kind = 5
  · rw [if_pos h5]
    have hca : checkAdd s e = 0 := by simpa [check, h5] using hc
    obtain ⟨i1, i2, i3, i4⟩ := new_id h hca
    unfold eqnsAddW
    have hid : idE s e = if e.id = 0 then s.next else e.id := rfl
    rw [hid]
    generalize (if e.id = 0 then s.next else e.id) = id at *
    have n5 : e.kind ≠ 6 ∧ e.kind ≠ 7 ∧ e.kind ≠ 8 := by omega
    split
    · rename_i hneq
      have q1 := was_with s.neqs ⟨id, e.p⟩
      have q2 := withE_len s.neqs ⟨id, e.p⟩
      have q3 := withE_drop s.neqs ⟨id, e.p⟩
      have q4 := drop_len s.neqs (Eqn.mk id e.p).id
      have q5 := drop_none i3
      simp only at q1 q2 q3 q4
      refine ⟨by simp only; omega, rfl, rfl, q3, by simp only; omega, by simp only; omega, fun _ x hx he => absurd he (i3 x hx), fun _ => ?_, fun k => absurd k n5.1, fun k => absurd k n5.2.1, fun k => absurd k n5.2.2⟩
      simp [wasE, wasN, q1, q5, hneq]
    · rename_i hneq
      have hneq' : e.neq = false := by simpa using hneq
      have q1 := was_with s.eqs ⟨id, e.p⟩
      have q2 := withE_len s.eqs ⟨id, e.p⟩
      have q3 := withE_drop s.eqs ⟨id, e.p⟩
      have q4 := drop_len s.eqs (Eqn.mk id e.p).id
      simp only at q1 q2 q3 q4
      refine ⟨by simp only; omega, rfl, q3, rfl, by simp only; omega, by simp only; omega, fun _ x hx he => ?_, fun _ => ?_, fun k => absurd k n5.1, fun k => absurd k n5.2.1, fun k => absurd k n5.2.2⟩
      · rcases withE_mem.1 hx with rfl | hx
        · rfl
        · exact absurd he hx.2
      · simp [wasE, wasN, q1, hneq']
  have hci : checkId s e = 0 := by
    have : e.kind = 6 ∨ e.kind = 7 ∨ e.kind = 8 := by rcases hk with hk | hk; exact absurd hk h5; exact hk
    unfold check at hc
    rw [if_neg (by omega), if_neg (by omega), if_neg (by omega), if_neg (by omega), if_neg h5, if_pos this] at hc
    exact hc
  obtain ⟨c1, -, -⟩ := checkId_ok hci
  have hid : idE s e = e.id := by
    unfold idE
    rw [if_neg]
    intro h0
    rw [h0] at c1
    rcases has_or.1 c1 with hf | hf
    · obtain ⟨z, hz, ez⟩ := find_pos.1 hf
      have := (h.ie z hz).1; omega
    · obtain ⟨z, hz, ez⟩ := find_pos.1 hf
      have := (h.iN z hz).1; omega
  rw [hid]
  have d1 := drop_len s.eqs e.id
  have d2 := drop_len s.neqs e.id
  rw [if_neg h5]
  by_cases h6 : e.kind = 6
  · rw [if_pos h6]
    have n6 : e.kind ≠ 7 ∧ e.kind ≠ 8 := by omega
    refine ⟨Int.le_refl _, rfl, drop_drop .., drop_drop .., by simp only; omega, by simp only; omega, fun k => by omega, fun k => absurd k h5, fun _ => ?_, fun k => absurd k n6.1, fun k => absurd k n6.2⟩
    simp [wasE, wasN, drop_drop]
  rw [if_neg h6]
  by_cases h7 : e.kind = 7
  · rw [if_pos h7]
    have n7 : e.kind ≠ 8 := by omega
    unfold eqnsSetW
    split
    · rename_i hf
      obtain ⟨z, hz, ez⟩ := find_pos.1 hf
      have q0 := drop_some hz ez
      have q1 := was_with s.eqs ⟨e.id, e.p⟩
      have q2 := withE_len s.eqs ⟨e.id, e.p⟩
      have q3 := withE_drop s.eqs ⟨e.id, e.p⟩
      simp only at q1 q2 q3
      refine ⟨Int.le_refl _, rfl, q3, rfl, by simp only; omega, by simp only; omega, fun _ x hx he => ?_, fun k => absurd k h5, fun k => absurd k h6, fun _ => ?_, fun k => absurd k n7⟩
      · rcases withE_mem.1 hx with rfl | hx
        · rfl
        · exact absurd he hx.2
      · simp [wasE, wasN, q1, q0]
    · rename_i hf
      have hno : ∀ x ∈ s.eqs, x.id ≠ e.id := fun x hx he => hf (find_pos.2 ⟨x, hx, he⟩)
      have q1 := was_with s.neqs ⟨e.id, e.p⟩
      have q2 := withE_len s.neqs ⟨e.id, e.p⟩
      have q3 := withE_drop s.neqs ⟨e.id, e.p⟩
      simp only at q1 q2 q3
      refine ⟨Int.le_refl _, rfl, rfl, q3, by simp only; omega, by simp only; omega, fun _ x hx he => absurd he (hno x hx), fun k => absurd k h5, fun k => absurd k h6, fun _ => ?_, fun k => absurd k n7⟩
      simp [wasE, wasN, q1]
  rw [if_neg h7]
  unfold eqnsFlipW
  split
  · rename_i hf
    obtain ⟨z, hz, ez⟩ := find_pos.1 hf
    obtain ⟨gm, gi⟩ := getE_mem hf
    have q0 := drop_some hz ez
    have q1 := was_with s.neqs (getE s.eqs e.id)
    have q2 := withE_len s.neqs (getE s.eqs e.id)
    have q3 := withE_drop s.neqs (getE s.eqs e.id)
    have d3 := drop_drop s.eqs e.id
    rw [gi] at q1 q2 q3
    refine ⟨Int.le_refl _, rfl, d3, q3, by simp only; omega, by simp only; omega, fun k => by omega, fun k => absurd k h5, fun k => absurd k h6, fun k => absurd k h7, fun _ => ?_⟩
    simp [wasE, wasN, q1, q0, d3]
  · rename_i hf
    have hno : ∀ x ∈ s.eqs, x.id ≠ e.id := fun x hx he => hf (find_pos.2 ⟨x, hx, he⟩)
    have hf2 := (has_or.1 c1).resolve_left hf
    obtain ⟨gm, gi⟩ := getE_mem hf2
    have q0 := drop_none hno
    have q1 := was_with s.eqs (getE s.neqs e.id)
    have q2 := withE_len s.eqs (getE s.neqs e.id)
    have q3 := withE_drop s.eqs (getE s.neqs e.id)
    have d3 := drop_drop s.neqs e.id
    rw [gi] at q1 q2 q3
    refine ⟨Int.le_refl _, rfl, q3, d3, by simp only; omega, by simp only; omega, fun k => by omega, fun k => absurd k h5, fun k => absurd k h6, fun k => absurd k h7, fun _ => ?_⟩
    simp [wasE, wasN, q1, q0]
/-- EditEquations answers true. -/
theorem editEquations (l m : List Raw33) (hl : ∀ x ∈ l, R33OK x) (hlen : l.length < 2 ^ 63) (hm : ∀ x ∈ m, R33OK x) (hmlen : m.length < 2 ^ 63) : funD (cxT pp) 7 [sl cRaw l, sl cRaw m] = some (.bool true) := by
  have hg := (made33_spec (keeps pp) l hl hlen 12).2
  refine law_spec (keeps pp) l m hl hlen hm hmlen ?_
  intro e rest he h5
  obtain ⟨x, rfl, hc⟩ := edits_one he
  have hk := check_kinds hc (by omega) (by omega) (by omega) (by omega)
  exact ⟨edit_PW _ x, hk, hc, hg.two _, lawE hg hc hk⟩
end Go.Va
end
section
open Go Go.Proofs Go.RowKit Go.Lib
namespace Go.Va

theorem copy_put {P : Program} {w : World} {dT sT elem : TypeId} {s g o dLen sLen : Nat} {A : Addr} {vs0 : Array Value} {T : TypeId} {us : List Value} (hu : P.underlying dT = some (.slice elem)) (hs : szOf P elem = some s)
    (hg : w.heap[g]? = some (.cells vs0 T (0, 0))) (hn : us.length = min sLen dLen * s) (hsrc : ∀ j v, us[j]? = some v → w.cell? (A.add j) = some v) (hfit : o + us.length ≤ vs0.size) (h1 : ∀ v ∈ us, v.oneCell' = true) :
    ∃ w', PutAt w w' g (setR vs0.toList o us).toArray ∧ ∀ ty dCap sCap, (Builtin.copy_ #[dT, sT] ty #[.slice (some ⟨g, o, none⟩) dLen dCap, .slice (some A) sLen sCap]).run P w = .ok (goInt (min sLen dLen : Nat)) w' := by
  obtain ⟨w', h2, h3⟩ := run_storeCells (P := P) us w g o 0 vs0 T hg h1 (by simpa using hfit)
  refine ⟨w', by simpa using h3, fun ty dCap sCap => ?_⟩
  have hf := run_firstCells_some (P := P) w s (min sLen dLen) A sLen sCap us hn hsrc
  simp [Builtin.copy_, r_und hu, Builtin.lenOf, r_size hs, hf, h2]
end Go.Va
end
section
open Go Go.Proofs Go.RowKit Go.Lib
namespace Go.Va

set_option maxHeartbeats 4000000 in
set_option maxRecDepth 100000 in
theorem ins_room_115 (b n c i vb voff m vc : Nat) (w : World) (hi : i < n) (hm : 0 < m) (hroom : n + m ≤ c) (hsm : n + m ≤ 1048576)
    (hov : ∀ lb cb, (callFunc 157 #[.slice (some ⟨vb, voff, none⟩) m vc, .slice (some ⟨b, i + m, none⟩) lb cb]).run Tryz.prog w = .ok (.value (.bool false)) w)
    (W1 W2 : World)
    (hcp1 : ∀ ty dc sc, (Builtin.copy_ #[30, 30] ty #[.slice (some ⟨b, i + m, none⟩) (n + m - (i + m)) dc, .slice (some ⟨b, i, none⟩) (n + m - i) sc]).run Tryz.prog w.drew = .ok (goInt (n - i : Nat)) W1)
    (hcp2 : ∀ ty dc, (Builtin.copy_ #[30, 30] ty #[.slice (some ⟨b, i, none⟩) (n + m - i) dc, .slice (some ⟨vb, voff, none⟩) m vc]).run Tryz.prog W1 = .ok (goInt m) W2) :
    Calls Tryz.prog 115 #[.slice (some ⟨b, 0, none⟩) n c, .int .i64 i, .slice (some ⟨vb, voff, none⟩) m vc] w fun e w' =>
      e = .returned (.slice (some ⟨b, 0, none⟩) (n + m) c) ∧ w' = W2 := by
  have hz1 : ¬ ((m : Int) = 0) := by omega
  have hz2 : ¬ ((i : Int) = (n : Int)) := by omega
  have hw1 : IntKind.i64.wrap ((i : Int) + (m : Int)) = (i : Int) + (m : Int) := by rw [IntKind.wrap_i64]; omega
  have hb1 : (0 : Int) ≤ (i : Int) + (m : Int) := by omega
  have hin : i ≤ n := by omega
  have htn : ((i : Int) + (m : Int)).toNat = i + m := by omega
  have hb2 : ¬ (c = i + m) := by omega
  have hb3 : (i : Int) ≤ (n : Int) + (m : Int) := by omega
  have hb4 : ¬ (c = i) := by omega
  have mixed : Tryz.prog.follows .mixedOrders = true := by kernel_rfl
  go_enter Tryz.func115, Tryz.ntmps115
  go_wp2_with (simp only [hov])
  go_region_law_o (refine step_copy_runI rfl _ _ 30 30 rfl _ _ (by simp [Act.eval, Act.put]) (by simp [Act.eval, Act.put]) (hcp1 _ _ _) ?_)
  go_wp2_with (at_builtin; refine wpList_copy_runI _ rfl _ _ 30 30 rfl _ _ rfl rfl (hcp2 _ _) ?_)
  go_ret
  exact ⟨rfl, rfl⟩

set_option maxHeartbeats 4000000 in
set_option maxRecDepth 100000 in
theorem ins_room_159 (b n c i vb voff m vc : Nat) (w : World) (hi : i < n) (hm : 0 < m) (hroom : n + m ≤ c) (hsm : n + m ≤ 1048576)
    (hov : ∀ lb cb, (callFunc 192 #[.slice (some ⟨vb, voff, none⟩) m vc, .slice (some ⟨b, i + m, none⟩) lb cb]).run Tryz.prog w = .ok (.value (.bool false)) w)
    (W1 W2 : World)
    (hcp1 : ∀ ty dc sc, (Builtin.copy_ #[195, 195] ty #[.slice (some ⟨b, i + m, none⟩) (n + m - (i + m)) dc, .slice (some ⟨b, i, none⟩) (n + m - i) sc]).run Tryz.prog w.drew = .ok (goInt (n - i : Nat)) W1)
    (hcp2 : ∀ ty dc, (Builtin.copy_ #[195, 195] ty #[.slice (some ⟨b, i, none⟩) (n + m - i) dc, .slice (some ⟨vb, voff, none⟩) m vc]).run Tryz.prog W1 = .ok (goInt m) W2) :
    Calls Tryz.prog 159 #[.slice (some ⟨b, 0, none⟩) n c, .int .i64 i, .slice (some ⟨vb, voff, none⟩) m vc] w fun e w' =>
      e = .returned (.slice (some ⟨b, 0, none⟩) (n + m) c) ∧ w' = W2 := by
  have hz1 : ¬ ((m : Int) = 0) := by omega
  have hz2 : ¬ ((i : Int) = (n : Int)) := by omega
  have hw1 : IntKind.i64.wrap ((i : Int) + (m : Int)) = (i : Int) + (m : Int) := by rw [IntKind.wrap_i64]; omega
  have hb1 : (0 : Int) ≤ (i : Int) + (m : Int) := by omega
  have hin : i ≤ n := by omega
  have htn : ((i : Int) + (m : Int)).toNat = i + m := by omega
  have hb2 : ¬ (c = i + m) := by omega
  have hb3 : (i : Int) ≤ (n : Int) + (m : Int) := by omega
  have hb4 : ¬ (c = i) := by omega
  have mixed : Tryz.prog.follows .mixedOrders = true := by kernel_rfl
  go_enter Tryz.func159, Tryz.ntmps159
  go_wp2_with (simp only [hov])
  go_region_law_o (refine step_copy_runI rfl _ _ 195 195 rfl _ _ (by simp [Act.eval, Act.put]) (by simp [Act.eval, Act.put]) (hcp1 _ _ _) ?_)
  go_wp2_with (at_builtin; refine wpList_copy_runI _ rfl _ _ 195 195 rfl _ _ rfl rfl (hcp2 _ _) ?_)
  go_ret
  exact ⟨rfl, rfl⟩

set_option maxHeartbeats 4000000 in
set_option maxRecDepth 100000 in
theorem ins_room_168 (b n c i vb voff m vc : Nat) (w : World) (hi : i < n) (hm : 0 < m) (hroom : n + m ≤ c) (hsm : n + m ≤ 1048576)
    (hov : ∀ lb cb, (callFunc 200 #[.slice (some ⟨vb, voff, none⟩) m vc, .slice (some ⟨b, (i + m) * 2, none⟩) lb cb]).run Tryz.prog w = .ok (.value (.bool false)) w)
    (W1 W2 : World)
    (hcp1 : ∀ ty dc sc, (Builtin.copy_ #[31, 31] ty #[.slice (some ⟨b, (i + m) * 2, none⟩) (n + m - (i + m)) dc, .slice (some ⟨b, i * 2, none⟩) (n + m - i) sc]).run Tryz.prog w.drew = .ok (goInt (n - i : Nat)) W1)
    (hcp2 : ∀ ty dc, (Builtin.copy_ #[31, 31] ty #[.slice (some ⟨b, i * 2, none⟩) (n + m - i) dc, .slice (some ⟨vb, voff, none⟩) m vc]).run Tryz.prog W1 = .ok (goInt m) W2) :
    Calls Tryz.prog 168 #[.slice (some ⟨b, 0, none⟩) n c, .int .i64 i, .slice (some ⟨vb, voff, none⟩) m vc] w fun e w' =>
      e = .returned (.slice (some ⟨b, 0, none⟩) (n + m) c) ∧ w' = W2 := by
  have hz1 : ¬ ((m : Int) = 0) := by omega
  have hz2 : ¬ ((i : Int) = (n : Int)) := by omega
  have hw1 : IntKind.i64.wrap ((i : Int) + (m : Int)) = (i : Int) + (m : Int) := by rw [IntKind.wrap_i64]; omega
  have hb1 : (0 : Int) ≤ (i : Int) + (m : Int) := by omega
  have hin : i ≤ n := by omega
  have htn : ((i : Int) + (m : Int)).toNat = i + m := by omega
  have hb2 : ¬ (c = i + m) := by omega
  have hb3 : (i : Int) ≤ (n : Int) + (m : Int) := by omega
  have hb4 : ¬ (c = i) := by omega
  have mixed : Tryz.prog.follows .mixedOrders = true := by kernel_rfl
  go_enter Tryz.func168, Tryz.ntmps168
  go_wp2_with (simp only [hov])
  go_region_law_o (refine step_copy_runI rfl _ _ 31 31 rfl _ _ (by simp [Act.eval, Act.put]) (by simp [Act.eval, Act.put]) (hcp1 _ _ _) ?_)
  go_wp2_with (at_builtin; refine wpList_copy_runI _ rfl _ _ 31 31 rfl _ _ rfl rfl (hcp2 _ _) ?_)
  go_ret
  exact ⟨rfl, rfl⟩
end Go.Va
end
section
open Go Go.Proofs Go.RowKit Go.Lib
namespace Go.Va

set_option maxHeartbeats 4000000 in
set_option maxRecDepth 100000 in
theorem ins_grow_115 (b n c i vb voff m vc G : Nat) (w : World) (hi : i < n) (hm : 0 < m) (hnc : n ≤ c) (hroom : c < n + m) (hb63 : n + m ≤ 9223372036854775807) (hGn : n + m ≤ G) (hG63 : G ≤ 9223372036854775807)
    (N : Nat) (W0 W1 W2 : World)
    (hrz : ∀ ty, (Builtin.append_ #[30, 3] ty #[.slice (some ⟨b, 0, none⟩) i c, .int .i64 ((n : Int) + (m : Int) - (i : Int))]).run Tryz.prog w = .ok (.slice (some ⟨N, 0, none⟩) (n + m) G) W0)
    (hcpA : ∀ ty dc, (Builtin.copy_ #[30, 30] ty #[.slice (some ⟨N, i, none⟩) (n + m - i) dc, .slice (some ⟨vb, voff, none⟩) m vc]).run Tryz.prog W0 = .ok (goInt m) W1)
    (hcpB : ∀ ty dc sc, (Builtin.copy_ #[30, 30] ty #[.slice (some ⟨N, i + m, none⟩) (n + m - (i + m)) dc, .slice (some ⟨b, i, none⟩) (n - i) sc]).run Tryz.prog W1.drew = .ok (goInt (n - i : Nat)) W2) :
    Calls Tryz.prog 115 #[.slice (some ⟨b, 0, none⟩) n c, .int .i64 i, .slice (some ⟨vb, voff, none⟩) m vc] w fun e w' =>
      e = .returned (.slice (some ⟨N, 0, none⟩) (n + m) G) ∧ w' = W2 := by
  have hz1 : ¬ ((m : Int) = 0) := by omega
  have hz2 : ¬ ((i : Int) = (n : Int)) := by omega
  have hz3 : (c : Int) < (n : Int) + (m : Int) := by omega
  have hw1 : IntKind.i64.wrap ((i : Int) + (m : Int)) = (i : Int) + (m : Int) := by rw [IntKind.wrap_i64]; omega
  have hb1 : (0 : Int) ≤ (i : Int) + (m : Int) := by omega
  have hin : i ≤ n := by omega
  have htn : ((i : Int) + (m : Int)).toNat = i + m := by omega
  have hb3 : (i : Int) ≤ (n : Int) := by omega
  have hGi : ¬ (G = i) := by omega
  have hGim : ¬ (G = i + m) := by omega
  have hci : ¬ (c = i) := by omega
  have mixed : Tryz.prog.follows .mixedOrders = true := by kernel_rfl
  go_enter Tryz.func115, Tryz.ntmps115
  go_wp2_with (first
    | (at_builtin; refine Lib.wpList_append_run _ rfl _ _ _ _ rfl _ _ rfl rfl _ _ (hrz _) ?_)
    | (at_builtin; refine wpList_copy_runI _ rfl _ _ 30 30 rfl _ _ rfl rfl (hcpA _ _) ?_))
  go_region_law_o (refine step_copy_runI rfl _ _ 30 30 rfl (.slice (some ⟨N, i + m, none⟩) (n + m - (i + m)) (G - (i + m))) (.slice (some ⟨b, i, none⟩) (n - i) (c - i)) (by simp [Act.eval, Act.put]) (by simp [Act.eval, Act.put]) (hcpB 3 (G - (i + m)) (c - i)) ?_)
  go_wp2
  go_ret
  exact ⟨rfl, rfl⟩

set_option maxHeartbeats 4000000 in
set_option maxRecDepth 100000 in
theorem ins_grow_159 (b n c i vb voff m vc G : Nat) (w : World) (hi : i < n) (hm : 0 < m) (hnc : n ≤ c) (hroom : c < n + m) (hb63 : n + m ≤ 9223372036854775807) (hGn : n + m ≤ G) (hG63 : G ≤ 9223372036854775807)
    (N : Nat) (W0 W1 W2 : World)
    (hrz : ∀ ty, (Builtin.append_ #[195, 3] ty #[.slice (some ⟨b, 0, none⟩) i c, .int .i64 ((n : Int) + (m : Int) - (i : Int))]).run Tryz.prog w = .ok (.slice (some ⟨N, 0, none⟩) (n + m) G) W0)
    (hcpA : ∀ ty dc, (Builtin.copy_ #[195, 195] ty #[.slice (some ⟨N, i, none⟩) (n + m - i) dc, .slice (some ⟨vb, voff, none⟩) m vc]).run Tryz.prog W0 = .ok (goInt m) W1)
    (hcpB : ∀ ty dc sc, (Builtin.copy_ #[195, 195] ty #[.slice (some ⟨N, i + m, none⟩) (n + m - (i + m)) dc, .slice (some ⟨b, i, none⟩) (n - i) sc]).run Tryz.prog W1.drew = .ok (goInt (n - i : Nat)) W2) :
    Calls Tryz.prog 159 #[.slice (some ⟨b, 0, none⟩) n c, .int .i64 i, .slice (some ⟨vb, voff, none⟩) m vc] w fun e w' =>
      e = .returned (.slice (some ⟨N, 0, none⟩) (n + m) G) ∧ w' = W2 := by
  have hz1 : ¬ ((m : Int) = 0) := by omega
  have hz2 : ¬ ((i : Int) = (n : Int)) := by omega
  have hz3 : (c : Int) < (n : Int) + (m : Int) := by omega
  have hw1 : IntKind.i64.wrap ((i : Int) + (m : Int)) = (i : Int) + (m : Int) := by rw [IntKind.wrap_i64]; omega
  have hb1 : (0 : Int) ≤ (i : Int) + (m : Int) := by omega
  have hin : i ≤ n := by omega
  have htn : ((i : Int) + (m : Int)).toNat = i + m := by omega
  have hb3 : (i : Int) ≤ (n : Int) := by omega
  have hGi : ¬ (G = i) := by omega
  have hGim : ¬ (G = i + m) := by omega
  have hci : ¬ (c = i) := by omega
  have mixed : Tryz.prog.follows .mixedOrders = true := by kernel_rfl
  go_enter Tryz.func159, Tryz.ntmps159
  go_wp2_with (first
    | (at_builtin; refine Lib.wpList_append_run _ rfl _ _ _ _ rfl _ _ rfl rfl _ _ (hrz _) ?_)
    | (at_builtin; refine wpList_copy_runI _ rfl _ _ 195 195 rfl _ _ rfl rfl (hcpA _ _) ?_))
  go_region_law_o (refine step_copy_runI rfl _ _ 195 195 rfl (.slice (some ⟨N, i + m, none⟩) (n + m - (i + m)) (G - (i + m))) (.slice (some ⟨b, i, none⟩) (n - i) (c - i)) (by simp [Act.eval, Act.put]) (by simp [Act.eval, Act.put]) (hcpB 3 (G - (i + m)) (c - i)) ?_)
  go_wp2
  go_ret
  exact ⟨rfl, rfl⟩

set_option maxHeartbeats 4000000 in
set_option maxRecDepth 100000 in
theorem ins_grow_168 (b n c i vb voff m vc G : Nat) (w : World) (hi : i < n) (hm : 0 < m) (hnc : n ≤ c) (hroom : c < n + m) (hb63 : n + m ≤ 9223372036854775807) (hGn : n + m ≤ G) (hG63 : G ≤ 9223372036854775807)
    (N : Nat) (W0 W1 W2 : World)
    (hrz : ∀ ty, (Builtin.append_ #[31, 3] ty #[.slice (some ⟨b, 0, none⟩) i c, .int .i64 ((n : Int) + (m : Int) - (i : Int))]).run Tryz.prog w = .ok (.slice (some ⟨N, 0, none⟩) (n + m) G) W0)
    (hcpA : ∀ ty dc, (Builtin.copy_ #[31, 31] ty #[.slice (some ⟨N, i * 2, none⟩) (n + m - i) dc, .slice (some ⟨vb, voff, none⟩) m vc]).run Tryz.prog W0 = .ok (goInt m) W1)
    (hcpB : ∀ ty dc sc, (Builtin.copy_ #[31, 31] ty #[.slice (some ⟨N, (i + m) * 2, none⟩) (n + m - (i + m)) dc, .slice (some ⟨b, i * 2, none⟩) (n - i) sc]).run Tryz.prog W1.drew = .ok (goInt (n - i : Nat)) W2) :
    Calls Tryz.prog 168 #[.slice (some ⟨b, 0, none⟩) n c, .int .i64 i, .slice (some ⟨vb, voff, none⟩) m vc] w fun e w' =>
      e = .returned (.slice (some ⟨N, 0, none⟩) (n + m) G) ∧ w' = W2 := by
  have hz1 : ¬ ((m : Int) = 0) := by omega
  have hz2 : ¬ ((i : Int) = (n : Int)) := by omega
  have hz3 : (c : Int) < (n : Int) + (m : Int) := by omega
  have hw1 : IntKind.i64.wrap ((i : Int) + (m : Int)) = (i : Int) + (m : Int) := by rw [IntKind.wrap_i64]; omega
  have hb1 : (0 : Int) ≤ (i : Int) + (m : Int) := by omega
  have hin : i ≤ n := by omega
  have htn : ((i : Int) + (m : Int)).toNat = i + m := by omega
  have hb3 : (i : Int) ≤ (n : Int) := by omega
  have hGi : ¬ (G = i) := by omega
  have hGim : ¬ (G = i + m) := by omega
  have hci : ¬ (c = i) := by omega
  have mixed : Tryz.prog.follows .mixedOrders = true := by kernel_rfl
  go_enter Tryz.func168, Tryz.ntmps168
  go_wp2_with (first
    | (at_builtin; refine Lib.wpList_append_run _ rfl _ _ _ _ rfl _ _ rfl rfl _ _ (hrz _) ?_)
    | (at_builtin; refine wpList_copy_runI _ rfl _ _ 31 31 rfl _ _ rfl rfl (hcpA _ _) ?_))
  go_region_law_o (refine step_copy_runI rfl _ _ 31 31 rfl (.slice (some ⟨N, (i + m) * 2, none⟩) (n + m - (i + m)) (G - (i + m))) (.slice (some ⟨b, i * 2, none⟩) (n - i) (c - i)) (by simp [Act.eval, Act.put]) (by simp [Act.eval, Act.put]) (hcpB 3 (G - (i + m)) (c - i)) ?_)
  go_wp2
  go_ret
  exact ⟨rfl, rfl⟩
end Go.Va
end
section
open Go Go.Proofs Go.RowKit Go.Lib
namespace Go.Va

set_option maxHeartbeats 4000000 in
set_option maxRecDepth 100000 in
theorem ins_end_115 (A : Option Addr) (n c vb voff m vc : Nat) (w W1 : World) (r : Value) (hm : 0 < m) (hnc : n ≤ c) (hnil : A = none → n = 0 ∧ c = 0)
    (hap : (Builtin.append_ #[30, 30] 30 #[.slice A n c, .slice (some ⟨vb, voff, none⟩) m vc]).run Tryz.prog w = .ok r W1) :
    Calls Tryz.prog 115 #[.slice A n c, .int .i64 n, .slice (some ⟨vb, voff, none⟩) m vc] w fun e w' => e = .returned r ∧ w' = W1 := by
  have hz1 : ¬ ((m : Int) = 0) := by omega
  have mixed : Tryz.prog.follows .mixedOrders = true := by kernel_rfl
  go_enter Tryz.func115, Tryz.ntmps115
  cases A with
  | none =>
    obtain ⟨rfl, rfl⟩ := hnil rfl
    go_wp2_with (at_builtin; refine Lib.wpList_append_run _ rfl _ _ _ _ rfl _ _ rfl rfl _ _ hap ?_)
    go_ret
    exact ⟨rfl, rfl⟩
  | some a =>
    obtain ⟨ab, ao, asp⟩ := a
    go_wp2_with (at_builtin; refine Lib.wpList_append_run _ rfl _ _ _ _ rfl _ _ rfl rfl _ _ hap ?_)
    all_goals (go_ret; exact ⟨rfl, rfl⟩)

set_option maxHeartbeats 4000000 in
set_option maxRecDepth 100000 in
theorem ins_end_159 (A : Option Addr) (n c vb voff m vc : Nat) (w W1 : World) (r : Value) (hm : 0 < m) (hnc : n ≤ c) (hnil : A = none → n = 0 ∧ c = 0)
    (hap : (Builtin.append_ #[195, 195] 195 #[.slice A n c, .slice (some ⟨vb, voff, none⟩) m vc]).run Tryz.prog w = .ok r W1) :
    Calls Tryz.prog 159 #[.slice A n c, .int .i64 n, .slice (some ⟨vb, voff, none⟩) m vc] w fun e w' => e = .returned r ∧ w' = W1 := by
  have hz1 : ¬ ((m : Int) = 0) := by omega
  have mixed : Tryz.prog.follows .mixedOrders = true := by kernel_rfl
  go_enter Tryz.func159, Tryz.ntmps159
  cases A with
  | none =>
    obtain ⟨rfl, rfl⟩ := hnil rfl
    go_wp2_with (at_builtin; refine Lib.wpList_append_run _ rfl _ _ _ _ rfl _ _ rfl rfl _ _ hap ?_)
    go_ret
    exact ⟨rfl, rfl⟩
  | some a =>
    obtain ⟨ab, ao, asp⟩ := a
    go_wp2_with (at_builtin; refine Lib.wpList_append_run _ rfl _ _ _ _ rfl _ _ rfl rfl _ _ hap ?_)
    all_goals (go_ret; exact ⟨rfl, rfl⟩)

set_option maxHeartbeats 4000000 in
set_option maxRecDepth 100000 in
theorem ins_end_168 (A : Option Addr) (n c vb voff m vc : Nat) (w W1 : World) (r : Value) (hm : 0 < m) (hnc : n ≤ c) (hnil : A = none → n = 0 ∧ c = 0)
    (hap : (Builtin.append_ #[31, 31] 31 #[.slice A n c, .slice (some ⟨vb, voff, none⟩) m vc]).run Tryz.prog w = .ok r W1) :
    Calls Tryz.prog 168 #[.slice A n c, .int .i64 n, .slice (some ⟨vb, voff, none⟩) m vc] w fun e w' => e = .returned r ∧ w' = W1 := by
  have hz1 : ¬ ((m : Int) = 0) := by omega
  have mixed : Tryz.prog.follows .mixedOrders = true := by kernel_rfl
  go_enter Tryz.func168, Tryz.ntmps168
  cases A with
  | none =>
    obtain ⟨rfl, rfl⟩ := hnil rfl
    go_wp2_with (at_builtin; refine Lib.wpList_append_run _ rfl _ _ _ _ rfl _ _ rfl rfl _ _ hap ?_)
    go_ret
    exact ⟨rfl, rfl⟩
  | some a =>
    obtain ⟨ab, ao, asp⟩ := a
    go_wp2_with (at_builtin; refine Lib.wpList_append_run _ rfl _ _ _ _ rfl _ _ rfl rfl _ _ hap ?_)
    all_goals (go_ret; exact ⟨rfl, rfl⟩)
end Go.Va
end
section
open Go Go.Proofs Go.Lib
namespace Go.Va



/-- slices.Insert of a row of ours into another row of ours, of which all cells are known. -/
def specInsertX (s : Nat) : PrimFn := fun _ args h _ =>
  match args with
  | [.ref k ver off n s' clip, .p (.int .i64 i), .ref k2 ver2 off2 m s2 clip2] =>
    (srcCells h s (.ref k2 ver2 off2 m s2 clip2)).bind fun (_, new) => (h.wcells k ver).bind fun cs =>
      if off = 0 ∧ cs.length = n * s ∧ s' = s ∧ 0 < s ∧ 0 ≤ i ∧ i.toNat ≤ n ∧ k2 ≠ k ∧ 0 < m ∧ n + m ≤ 2 ^ 20 then
        some (.ref k (ver + 1) 0 (n + m) s false, h.set k ⟨ver + 1, false, some (.cells (cs.take (i.toNat * s) ++ new ++ cs.drop (i.toNat * s)))⟩) else none
  | _ => none

section
variable {P : Program} {κ : Kap} {h : Hp} {w : World} {M M0 : Nat → Prop}

theorem PutAt.comp {w1 w2 : World} {b : Nat} {x y : Array Value} (p : PutAt w w1 b x) (q : PutAt w1 w2 b y) : PutAt w w2 b y := by
  obtain ⟨vs, T, a1, a2, a3⟩ := p.row
  obtain ⟨vs', T', b1, b2, b3⟩ := q.row
  rw [a2] at b1; cases b1
  exact ⟨q.size.trans p.size, ⟨vs, T, a1, b2, b3.trans a3⟩, fun c hc => (q.old c hc).trans (p.old c hc), q.os.trans p.os, q.tape.trans p.tape, q.output.trans p.output⟩
theorem PutAt.of_drew {w1 : World} {b : Nat} {x : Array Value} (p : PutAt w.drew w1 b x) : PutAt w w1 b x := ⟨p.size, p.row, p.old, p.os, p.tape, p.output⟩
theorem Grew.put {w1 w2 : World} {x y : Array Value} {T : TypeId} (g : Grew w w1 (.cells x T (0, 0))) (q : PutAt w1 w2 w.heap.size y) : Grew w w2 (.cells y T (0, 0)) := by
  obtain ⟨vs', T', b1, b2, b3⟩ := q.row
  rw [g.new] at b1; cases b1
  exact ⟨q.size.trans g.size, b2, fun c hc => (q.old c (by omega)).trans (g.old c hc), q.os.trans g.os, q.tape.trans g.tape, q.output.trans g.output⟩
theorem cells_pre {cs : List AV} {us rest : List Value} (hv : Vs κ h w M cs us) (ho : ∀ c ∈ cs, c.one = true) : CellsRel κ h w M cs (us ++ rest).toArray := by
  intro j c hj
  obtain ⟨v, q1, q2⟩ := hv.get hj
  refine ⟨ho c (List.mem_of_getElem? hj), v, ?_, q2⟩
  have : j < us.length := (List.getElem?_eq_some_iff.1 q1).1
  simp [List.getElem?_append_left this, q1]
theorem Vs.drop {cs : List AV} {us : List Value} (hv : Vs κ h w M cs us) (n : Nat) : Vs κ h w M (cs.drop n) (us.drop n) := by
  apply Vs.of_get
  · simp [hv.length]
  · intro i c v h1 h2
    rw [List.getElem?_drop] at h1 h2
    obtain ⟨u, q1, q2⟩ := hv.get h1
    rw [h2] at q1; cases q1; exact q2
/-- Two writes, the second ahead of the first (in place). -/
theorem two_room {V U X : List Value} {p x N : Nat} (hU : U = V.take N) (hp : p ≤ N) (hN : N ≤ V.length) (hx : X.length = x) (hfit : N + x ≤ V.length) :
    ∃ rest, setR (setR V (p + x) (U.drop p)) p X = (U.take p ++ X ++ U.drop p) ++ rest := by
  have hUl : U.length = N := by rw [hU, List.length_take]; omega
  refine ⟨V.drop (N + x), ?_⟩
  have h1 : setR V (p + x) (U.drop p) = V.take (p + x) ++ U.drop p ++ V.drop (N + x) := by
    unfold setR
    rw [List.length_drop, hUl, show p + x + (N - p) = N + x by omega]
  rw [h1]
  unfold setR
  rw [hx]
  have e1 : (V.take (p + x) ++ U.drop p ++ V.drop (N + x)).take p = U.take p := by
    rw [List.append_assoc, List.take_append_of_le_length (by simp; omega), List.take_take, hU, List.take_take]
    congr 1; omega
  have e2 : (V.take (p + x) ++ U.drop p ++ V.drop (N + x)).drop (p + x) = U.drop p ++ V.drop (N + x) := by
    rw [List.append_assoc, List.drop_append_of_le_length (by simp; omega), List.drop_eq_nil_of_le (by simp; omega), List.nil_append]
  rw [e1, e2]
  simp
/-- Two writes, the second behind the first (a new row). -/
theorem two_grow {V U X : List Value} {p x N : Nat} (hV : V.take p = U.take p) (hU : U.length = N) (hp : p ≤ N) (hx : X.length = x) (hfit : N + x ≤ V.length) :
    ∃ rest, setR (setR V p X) (p + x) (U.drop p) = (U.take p ++ X ++ U.drop p) ++ rest := by
  refine ⟨(setR V p X).drop (N + x), ?_⟩
  have h1 : setR V p X = U.take p ++ X ++ V.drop (p + x) := by unfold setR; rw [hV, hx]
  have e1 : (setR V p X).take (p + x) = U.take p ++ X := by
    rw [h1, List.take_append_of_le_length (by simp; omega), List.take_of_length_le (by simp; omega)]
  rw [setR, e1, List.length_drop, hU, show p + x + (N - p) = N + x by omega]
end
end Go.Va
end
section
open Go Go.Proofs Go.Lib
namespace Go.Va
section
variable {κ : Kap} {h : Hp} {w : World} {M0 : Nat → Prop}

/-- What is asked of an instance of slices.Insert. -/
structure InsOK (P : Program) (f : FuncId) (T e ov s : Nat) (i : TypeInfo) (z : Value) : Prop where
  enter : ∀ (vals : Array Value) (w : World), (callFunc f vals).run P w = .ok (.enter f vals) w
  und : P.underlying T = some (.slice e)
  und3 : P.underlying 3 = some (.int .i64)
  info : P.info? e = some i
  zero : i.zero = some z
  size : i.size = s
  zs : z.cells.size = i.size
  bytes : i.bytes ≤ 64
  over : ∀ (x y : Value) (w : World), (callFunc ov #[x, y]).run P w = ((Extern.SlicesOverlaps.overlaps #[T, T] #[4] #[x, y]).run P w).andThen fun v w' => .ok (.value v) w'
  room : ∀ (b n c i vb voff m vc : Nat) (w : World), i < n → 0 < m → n + m ≤ c → n + m ≤ 1048576 →
    (∀ lb cb, (callFunc ov #[.slice (some ⟨vb, voff, none⟩) m vc, .slice (some ⟨b, (i + m) * s, none⟩) lb cb]).run P w = .ok (.value (.bool false)) w) → ∀ (W1 W2 : World),
    (∀ ty dc sc, (Builtin.copy_ #[T, T] ty #[.slice (some ⟨b, (i + m) * s, none⟩) (n + m - (i + m)) dc, .slice (some ⟨b, i * s, none⟩) (n + m - i) sc]).run P w.drew = .ok (goInt (n - i : Nat)) W1) →
    (∀ ty dc, (Builtin.copy_ #[T, T] ty #[.slice (some ⟨b, i * s, none⟩) (n + m - i) dc, .slice (some ⟨vb, voff, none⟩) m vc]).run P W1 = .ok (goInt m) W2) →
    Calls P f #[.slice (some ⟨b, 0, none⟩) n c, .int .i64 i, .slice (some ⟨vb, voff, none⟩) m vc] w fun e w' => e = .returned (.slice (some ⟨b, 0, none⟩) (n + m) c) ∧ w' = W2
  grow : ∀ (b n c i vb voff m vc G : Nat) (w : World), i < n → 0 < m → n ≤ c → c < n + m → n + m ≤ 9223372036854775807 → n + m ≤ G → G ≤ 9223372036854775807 → ∀ (N : Nat) (W0 W1 W2 : World),
    (∀ ty, (Builtin.append_ #[T, 3] ty #[.slice (some ⟨b, 0, none⟩) i c, .int .i64 ((n : Int) + (m : Int) - (i : Int))]).run P w = .ok (.slice (some ⟨N, 0, none⟩) (n + m) G) W0) →
    (∀ ty dc, (Builtin.copy_ #[T, T] ty #[.slice (some ⟨N, i * s, none⟩) (n + m - i) dc, .slice (some ⟨vb, voff, none⟩) m vc]).run P W0 = .ok (goInt m) W1) →
    (∀ ty dc sc, (Builtin.copy_ #[T, T] ty #[.slice (some ⟨N, (i + m) * s, none⟩) (n + m - (i + m)) dc, .slice (some ⟨b, i * s, none⟩) (n - i) sc]).run P W1.drew = .ok (goInt (n - i : Nat)) W2) →
    Calls P f #[.slice (some ⟨b, 0, none⟩) n c, .int .i64 i, .slice (some ⟨vb, voff, none⟩) m vc] w fun e w' => e = .returned (.slice (some ⟨N, 0, none⟩) (n + m) G) ∧ w' = W2
  atEnd : ∀ (A : Option Addr) (n c vb voff m vc : Nat) (w W1 : World) (r : Value), 0 < m → n ≤ c → (A = none → n = 0 ∧ c = 0) →
    ((Builtin.append_ #[T, T] T #[.slice A n c, .slice (some ⟨vb, voff, none⟩) m vc]).run P w = .ok r W1) →
    Calls P f #[.slice A n c, .int .i64 n, .slice (some ⟨vb, voff, none⟩) m vc] w fun e w' => e = .returned r ∧ w' = W1

theorem szOf_of {P : Program} {e : Nat} {i : TypeInfo} (h : P.info? e = some i) : szOf P e = some i.size := by simp [szOf, h]

theorem insert_okX {P : Program} {f : FuncId} {T e ov s : Nat} {i0 : TypeInfo} {z : Value} (F : InsOK P f T e ov s i0 z) : CallOK1 P f (specInsertX s) := by
  intro d args h key r h' hspec κ w M0 vals hr hv
  unfold specInsertX at hspec
  split at hspec
  · rename_i k ver off n s' clip i k2 ver2 off2 m s2 clip2
    simp only [Option.bind_eq_some_iff] at hspec
    obtain ⟨⟨m', new⟩, hsrc, cs, hca, hspec⟩ := hspec
    simp only at hspec
    split at hspec
    · rename_i hh
      obtain ⟨rfl, hlen, rfl, hs0, hi0, hin, hne, hm, hbig⟩ := hh
      cases hspec
      obtain ⟨j, rfl⟩ := Int.eq_ofNat_of_zero_le hi0
      simp only [Int.ofNat_eq_natCast, Int.toNat_natCast] at *
      have hcc := (wcells_some hca).2
      have hro := (wcells_some hca).1
      have hlive := cellsAt_lives hcc
      have hsz := F.size
      have hby := F.bytes
      have hge := F.info
      generalize hvl : vals.toList = vl at hv
      cases hv with | cons hx hv => ?_
      cases hv with | cons hi hv => ?_
      cases hv with | cons hy hv => ?_
      cases hv
      rename_i sv iv vv
      have hvals : vals = #[sv, iv, vv] := by rw [← Array.toList_inj, hvl]
      subst hvals
      have hiv : iv = .int .i64 (j : Int) := by
        cases hi with | p hp => cases hp; rfl
      subst hiv
      refine ⟨F.enter _ _, ?_⟩
      -- the second row
      unfold srcCells at hsrc
      simp only [Option.bind_eq_some_iff] at hsrc
      obtain ⟨cs2, hc2, hsrc⟩ := hsrc
      split at hsrc
      · rename_i hh2
        obtain ⟨rfl, hle2⟩ := hh2
        simp at hsrc
        obtain ⟨rfl, rfl⟩ := hsrc
        have hl2 := cellsAt_lives hc2
        obtain ⟨b2, cap2, rfl, t1, t2, hk2, vs2, T2, hb2, -, -⟩ := zero_none (by omega) hy hl2
        have haX := ((At.of_row hr hc2 hk2).drop off2).take (m * s2)
        rw [Nat.zero_add] at haX
        obtain ⟨X, x1, x2, x3⟩ := haX.values
        have x4 := one_cells x3 haX.ones
        have x5 := haX.ones
        have hXl : X.length = m * s2 := by rw [x1, List.length_take, List.length_drop]; omega
        generalize hnew : (cs2.drop off2).take (m * s2) = new at *
        have hm0 : m ≠ 0 := by omega
        by_cases hjn : j = n
        · subst hjn
          have hop : opApp key h i0.size i0.bytes (.ref k ver 0 j s2 clip) (.ref k2 ver2 off2 m s2 clip2) = some (.ref k (ver + 1) 0 (j + m) s2 false, h.set k ⟨ver + 1, false, some (.cells (cs.take (j * s2) ++ new))⟩) := by
            have hr1 : roomy (j + m) i0.bytes = true := by
              simp only [roomy, Bool.and_eq_true, decide_eq_true_eq]
              have := Nat.mul_le_mul hbig hby
              omega
            have hsr : srcCells h i0.size (.ref k2 ver2 off2 m s2 clip2) = some (m, new) := by
              unfold srcCells
              simp only [hc2, Option.bind_some]
              rw [if_pos ⟨hsz.symm, by rw [hsz]; exact hle2⟩, hsz, hnew]
            unfold opApp
            simp only [hsr, Option.bind_some, hca]
            rw [if_pos ⟨hsz.symm, by rw [hsz]; exact hs0, by rw [hsz, hlen]; omega, hr1⟩, if_pos ⟨trivial, .inr (by rw [hsz, hlen])⟩, if_neg hm0, hsz]
          obtain ⟨v, w', κ', q1, q2, q3, q4⟩ := app_run (P := P) (ty := T) hr F.und F.und hge F.zero F.zs hx hy hop
          have he : cs.take (j * s2) ++ new ++ cs.drop (j * s2) = cs.take (j * s2) ++ new := by
            rw [List.drop_eq_nil_of_le (by omega), List.append_nil]
          rw [he]
          have fin : ∀ (A : Option Addr) (c : Nat), sv = .slice A j c → j ≤ c → (A = none → j = 0 ∧ c = 0) → Calls P f #[sv, .int .i64 (j : Int), .slice (some ⟨b2, off2, none⟩) m cap2] w fun e w' =>
              ∃ v, e = .returned v ∧ ∃ κ', RelH κ' (h.set k ⟨ver + 1, false, some (.cells (cs.take (j * s2) ++ new))⟩) w' M0 ∧ Trans κ h w κ' (h.set k ⟨ver + 1, false, some (.cells (cs.take (j * s2) ++ new))⟩) w' ∧
                V κ' (h.set k ⟨ver + 1, false, some (.cells (cs.take (j * s2) ++ new))⟩) w' (Mx κ' (h.set k ⟨ver + 1, false, some (.cells (cs.take (j * s2) ++ new))⟩) M0) (.ref k (ver + 1) 0 (j + m) s2 false) v := by
            intro A c e1 e2 e3
            subst e1
            refine Calls.mono (F.atEnd A j c b2 off2 m cap2 w w' v hm e2 e3 q1) ?_
            rintro e w1 ⟨rfl, rfl⟩
            exact ⟨v, rfl, κ', q2, q3, q4⟩
          cases hx with
          | ref _ _ _ _ _ _ b cap p1 p2 p3 p4 => exact fin _ cap rfl p2 (by simp)
          | ref0 _ _ _ _ _ A p1 p2 => exact fin A 0 rfl (Nat.le_refl _) (fun _ => ⟨rfl, rfl⟩)
        · have hjn' : j < n := by omega
          obtain ⟨b, cap, rfl, p2, p3, hk, vs, T1, hb, r1, r2⟩ := zero_none (by omega) hx hlive
          have hbb : b2 ≠ b := fun e => hne (hr.inj k2 k b hl2.2 hlive.2 (e ▸ hk2) hk)
          have haU := At.of_row hr hcc hk
          obtain ⟨U, u1, u2, u3⟩ := haU.values
          have u4 := one_cells u3 haU.ones
          have u5 := haU.ones
          have hUl : U.length = n * s2 := by rw [u1, hlen]
          have mul1 : (j + m) * s2 = j * s2 + m * s2 := Nat.add_mul ..
          have mul2 : (n + m) * s2 = n * s2 + m * s2 := Nat.add_mul ..
          have mul3 : (n - j) * s2 = n * s2 - j * s2 := Nat.sub_mul ..
          have mul4 : j * s2 ≤ n * s2 := Nat.mul_le_mul_right _ hin
          have mul5 : n * s2 ≤ cap * s2 := Nat.mul_le_mul_right _ p2
          simp only [Nat.zero_add] at r1 r2
          have hnp : 0 < n * s2 := Nat.mul_pos (by omega) hs0
          have hUv : U = vs.toList.take (n * s2) := by
            apply List.ext_getElem?
            intro q
            rw [List.getElem?_take]
            by_cases hq : q < n * s2
            · rw [if_pos hq]
              have hq' : q < U.length := by omega
              have g := u2 q U[q] (List.getElem?_eq_getElem hq')
              rw [Addr.add_lit, Nat.zero_add, cell_row hb] at g
              rw [List.getElem?_eq_getElem hq', ← g]
              simp
            · rw [if_neg hq]
              exact List.getElem?_eq_none (by omega)
          have hdl : (U.drop (j * s2)).length = (n - j) * s2 := by rw [List.length_drop, hUl, mul3]
          have hU1 : ∀ v ∈ U.drop (j * s2), v.oneCell' = true := fun v hv => u4 v (List.mem_of_mem_drop hv)
          have hU2 : ∀ q v, (U.drop (j * s2))[q]? = some v → w.cell? ((⟨b, j * s2, none⟩ : Addr).add q) = some v := by
            intro q v hq
            rw [List.getElem?_drop] at hq
            have := u2 _ v hq
            rw [Addr.add_lit, Nat.zero_add] at this
            rw [Addr.add_lit]; exact this
          have hC : Vs κ h w (Mx κ h M0) (cs.take (j * s2) ++ new ++ cs.drop (j * s2)) (U.take (j * s2) ++ X ++ U.drop (j * s2)) := ((u3.take _).append x3).append (u3.drop _)
          have hO : ∀ c ∈ cs.take (j * s2) ++ new ++ cs.drop (j * s2), c.one = true := by
            intro c hc
            simp only [List.mem_append] at hc
            rcases hc with (hc | hc) | hc
            · exact u5 c (List.mem_of_mem_take hc)
            · exact x5 c hc
            · exact u5 c (List.mem_of_mem_drop hc)
          generalize hCC : cs.take (j * s2) ++ new ++ cs.drop (j * s2) = C at *
          have hver : (h.get k).ver < ver + 1 := by rw [hlive.1]; omega
          have hse := szOf_of hge
          rw [hsz] at hse
          by_cases hfit : n + m ≤ cap
          · -- in place
            have hcl : clip = false := by
              cases clip with
              | false => rfl
              | true => have := p3 rfl; omega
            have hvs := r2 hcl
            have mul6 : (n + m) * s2 ≤ cap * s2 := Nat.mul_le_mul_right _ hfit
            obtain ⟨W1, c1, c2⟩ := copy_put (P := P) (w := w.drew) (sT := T) (g := b) (o := (j + m) * s2) (dLen := n + m - (j + m)) (sLen := n + m - j) (A := ⟨b, j * s2, none⟩) (us := U.drop (j * s2)) F.und hse (vs0 := vs) (T := T1) hb
              (by rw [hdl]; congr 1; omega) hU2 (by rw [hdl]; omega) hU1
            have c1 := c1.of_drew
            obtain ⟨va, Ta, a1, a2, a3⟩ := c1.row
            rw [hb] at a1; cases a1
            have hz1 : (setR vs.toList ((j + m) * s2) (U.drop (j * s2))).length = vs.size := by simpa using a3
            obtain ⟨W2, d1, d2⟩ := copy_put (P := P) (w := W1) (sT := T) (g := b) (o := j * s2) (dLen := n + m - j) (sLen := m) (A := ⟨b2, off2, none⟩) (us := X) F.und hse a2
              (by rw [hXl]; congr 1; omega) (by
                intro q v hq
                have := x2 q v hq
                rw [Addr.add_lit] at this ⊢
                simp only [World.cell?] at this ⊢
                rw [c1.old b2 hbb]; exact this) (by rw [hXl]; simp only [List.size_toArray]; omega) x4
            have pp := c1.comp d1
            simp only [List.toList_toArray] at pp
            obtain ⟨rest, hrest⟩ := two_room (x := m * s2) hUv mul4 (by simp; omega) hXl (by simp; omega)
            rw [mul1] at pp
            rw [hrest] at pp
            have hov : ∀ lb cb, (callFunc ov #[.slice (some ⟨b2, off2, none⟩) m cap2, .slice (some ⟨b, (j + m) * s2, none⟩) lb cb]).run P w = .ok (.value (.bool false)) w := by
              intro lb cb
              rw [F.over, Lib.run_overlaps_apart w T 4 e F.und s2 (fun w => by rw [← hsz]; simp [sizeOf, typeInfo, hge]) ⟨b2, off2, none⟩ ⟨b, (j + m) * s2, none⟩ m cap2 lb cb hbb T2 T1 vs2.size vs.size (by simp [World.shape?, hb2]) (by simp [World.shape?, hb]) (by omega)
                (by simp [World.frozen?, hb2]) (by simp [World.frozen?, hb2])]
              rfl
            refine Calls.mono (F.room b n cap j b2 off2 m cap2 w hjn' hm hfit hbig hov W1 W2 (fun ty dc sc => ?_) (fun ty dc => ?_)) ?_
            · rw [c2]; congr 3; omega
            · rw [d2]; congr 3; omega
            · rintro e w1 ⟨rfl, rfl⟩
              refine ⟨_, rfl, κ, relH_put hr pp hk hlive.2 hro C (ver + 1) (by omega) (cells_pre hC hO), trans_put pp hk hlive.2 hro _ (ver + 1) (by omega), ?_⟩
              obtain ⟨vb, Tb, e1, e2, e3⟩ := pp.row
              rw [hb] at e1; cases e1
              exact .ref k (ver + 1) 0 (n + m) s2 false b cap (by rw [get_set_same]; exact Nat.le_refl _) hfit (by simp) (fun _ => ⟨hk, _, _, e2, by omega, fun _ => by omega⟩)
          · -- a new row
            have hbw : b < w.heap.size := (Array.getElem?_eq_some_iff.1 hb).1
            have hbw2 : b2 < w.heap.size := (Array.getElem?_eq_some_iff.1 hb2).1
            have hkk : (n : Int) + (m : Int) - (j : Int) = ((n + m - j : Nat) : Int) := by omega
            have hjk : j + (n + m - j) = n + m := by omega
            have hold : (Builtin.firstCells i0.size j (.slice (some ⟨b, 0, none⟩) j cap)).run P w.drew = .ok (U.take (j * s2)).toArray w.drew := by
              rw [hsz]
              refine run_firstCells_some w.drew s2 j ⟨b, 0, none⟩ j cap (U.take (j * s2)) (by rw [List.length_take]; omega) (fun q v hq => ?_)
              rw [List.getElem?_take] at hq
              split at hq
              · exact u2 q v hq
              · cases hq
            have hnb : (n + m) * i0.bytes ≤ 2 ^ 20 * 64 := Nat.mul_le_mul hbig hby
            have hkb : (n + m - j) * i0.bytes ≤ (n + m) * i0.bytes := Nat.mul_le_mul_right _ (by omega)
            have hrz : ∀ ty, (Builtin.append_ #[T, 3] ty #[.slice (some ⟨b, 0, none⟩) j cap, .int .i64 ((n : Int) + (m : Int) - (j : Int))]).run P w =
                .ok (.slice (some ⟨w.heap.size, 0, none⟩) (n + m) (grownCap w (n + m) cap e)) (w.drew.alloc (.cells ((U.take (j * s2)).toArray ++ Builtin.zeroCells z.cells (n + m - j) ++ Builtin.zeroCells z.cells (grownCap w (n + m) cap e - (n + m))) e)) := fun ty => by
              have hq := Lib.run_append_grow_zeros w T 3 ty e i0 z .i64 .i64 F.und F.und3 hge F.zero (some ⟨b, 0, none⟩) j cap (U.take (j * s2)) hold (n + m - j) (by omega) (by omega) (by omega) (by omega) (by omega) (by rw [hjk]; exact growslice_fits (by omega) (by omega))
              rw [hjk] at hq
              rw [hkk]
              exact hq
            have hGn : n + m ≤ grownCap w (n + m) cap e := grownCap_ge w _ _ _
            have hG63 : grownCap w (n + m) cap e ≤ 9223372036854775807 := by
              have := grownCap_le_maxLen w (n + m) cap e (by unfold maxLen; omega)
              unfold maxLen at this
              omega
            generalize grownCap w (n + m) cap e = G at *
            have hzz := F.zs
            have hRs : ((U.take (j * s2)).toArray ++ Builtin.zeroCells z.cells (n + m - j) ++ Builtin.zeroCells z.cells (G - (n + m))).size = G * s2 := by
              simp only [Array.size_append, List.size_toArray, Builtin.zeroCells, Array.size_map, Array.size_range, hzz, hsz, List.length_take, hUl]
              have q1 : (n + m - j) * s2 = n * s2 + m * s2 - j * s2 := by rw [Nat.sub_mul, mul2]
              have q2 : (G - (n + m)) * s2 = G * s2 - (n * s2 + m * s2) := by rw [Nat.sub_mul, mul2]
              have q3 : (n + m) * s2 ≤ G * s2 := Nat.mul_le_mul_right _ hGn
              omega
            have hRt : ((U.take (j * s2)).toArray ++ Builtin.zeroCells z.cells (n + m - j) ++ Builtin.zeroCells z.cells (G - (n + m))).toList.take (j * s2) = U.take (j * s2) := by
              simp only [Array.toList_append, List.append_assoc]
              rw [List.take_append_of_le_length (by simp; omega), List.take_of_length_le (by simp only [List.length_take]; omega)]
            generalize hROW : (U.take (j * s2)).toArray ++ Builtin.zeroCells z.cells (n + m - j) ++ Builtin.zeroCells z.cells (G - (n + m)) = ROW at *
            have q3 : (n + m) * s2 ≤ G * s2 := Nat.mul_le_mul_right _ hGn
            have g0 := Grew.alloc_drew w (.cells ROW e (0, 0))
            generalize w.drew.alloc (.cells ROW e (0, 0)) = W0 at *
            obtain ⟨W1, c1, c2⟩ := copy_put (P := P) (w := W0) (sT := T) (g := w.heap.size) (o := j * s2) (dLen := n + m - j) (sLen := m) (A := ⟨b2, off2, none⟩) (us := X) F.und hse g0.new
              (by rw [hXl]; congr 1; omega) (by
                intro q v hq
                have := x2 q v hq
                rw [Addr.add_lit] at this ⊢
                simp only [World.cell?] at this ⊢
                rw [g0.old b2 hbw2]; exact this) (by rw [hXl]; omega) x4
            obtain ⟨va, Ta, a1, a2, a3⟩ := c1.row
            rw [g0.new] at a1; cases a1
            have hz1 : (setR ROW.toList (j * s2) X).length = ROW.size := by simpa using a3
            obtain ⟨W2, d1, d2⟩ := copy_put (P := P) (w := W1.drew) (sT := T) (g := w.heap.size) (o := (j + m) * s2) (dLen := n + m - (j + m)) (sLen := n - j) (A := ⟨b, j * s2, none⟩) (us := U.drop (j * s2)) F.und hse a2
              (by rw [hdl]; congr 1; omega) (by
                intro q v hq
                have := hU2 q v hq
                rw [Addr.add_lit] at this ⊢
                have hd : W1.drew.heap = W1.heap := rfl
                simp only [World.cell?, hd] at this ⊢
                rw [c1.old b (by omega), g0.old b hbw]; exact this) (by rw [hdl]; simp only [List.size_toArray]; omega) hU1
            have pp := g0.put (c1.comp d1.of_drew)
            simp only [List.toList_toArray] at pp
            obtain ⟨rest, hrest⟩ := two_grow (V := ROW.toList) (x := m * s2) hRt hUl mul4 hXl (by simp; omega)
            rw [mul1] at pp
            rw [hrest] at pp
            have hsz2 : (U.take (j * s2) ++ X ++ U.drop (j * s2) ++ rest).length = G * s2 := by
              rw [← hrest, setR_length (by rw [hz1, hdl]; omega), hz1, hRs]
            refine Calls.mono (F.grow b n cap j b2 off2 m cap2 G w hjn' hm p2 (by omega) (by omega) hGn hG63 w.heap.size W0 W1 W2 hrz (fun ty dc => ?_) (fun ty dc sc => ?_)) ?_
            · rw [c2]; congr 3; omega
            · rw [d2]; congr 3; omega
            · rintro e' w1 ⟨rfl, rfl⟩
              refine ⟨_, rfl, _, relH_new hr pp k _ (ver + 1) hver (obj_new pp hr.m0lt k _ (ver + 1) hver (cells_pre hC hO)), trans_new pp k _ (ver + 1) hver, ?_⟩
              exact .ref k (ver + 1) 0 (n + m) s2 false w.heap.size G (by rw [get_set_same]; exact Nat.le_refl _) hGn (by simp) (fun _ => ⟨kset_same _ _ _, _, _, pp.new, by simp only [List.size_toArray]; omega, fun _ => by simp only [List.size_toArray]; omega⟩)
      · cases hsrc
    · cases hspec
  · cases hspec

theorem set_set (h : Hp) (k : Key) (a b : HE) : (h.set k a).set k b = h.set k b := by
  unfold Hp.set
  congr 1
  funext x
  by_cases e : x = k
  · simp [e]
  · simp [e, Hp.get]
/-- .. and where cells behind the row's end are known too: these are forgotten first. -/
theorem insert_ok {P : Program} {f : FuncId} {T e ov s : Nat} {i0 : TypeInfo} {z : Value} (F : InsOK P f T e ov s i0 z) : CallOK1 P f (specInsert s) := by
  intro d args h key r h' hspec κ w M0 vals hr hv
  unfold specInsert at hspec
  split at hspec
  · rename_i k ver off n s' clip i k2 ver2 off2 m s2 clip2
    simp only [Option.bind_eq_some_iff] at hspec
    obtain ⟨⟨m', new⟩, hsrc, cs, hca, hspec⟩ := hspec
    simp only at hspec
    split at hspec
    · rename_i hh
      obtain ⟨hoff, hlen, hss, hs0, hi0, hin, hne, hm, hbig⟩ := hh
      cases hspec
      have hcc := (wcells_some hca).2
      have hro := (wcells_some hca).1
      have hlive := cellsAt_lives hcc
      have hin2 : i.toNat * s ≤ n * s := Nat.mul_le_mul_right _ hin
      have et : (cs.take (n * s)).take (i.toNat * s) = cs.take (i.toNat * s) := by rw [List.take_take]; congr 1; omega
      by_cases hex : cs.length = n * s
      · have ed : cs.take (n * s) = cs := List.take_of_length_le (by omega)
        rw [ed]
        refine insert_okX F d _ h key _ _ ?_ κ w M0 vals hr hv
        unfold specInsertX
        simp only [hsrc, hca, Option.bind_some]
        rw [if_pos ⟨hoff, hex, hss, hs0, hi0, hin, hne, hm, hbig⟩]
      · have hx0 : ∃ sv vs', vals.toList = sv :: vs' ∧ V κ h w (Mx κ h M0) (.ref k ver off n s' clip) sv := by
          generalize hvl : vals.toList = vl at hv
          cases hv with | cons hx hv => exact ⟨_, _, rfl, hx⟩
        obtain ⟨sv, vs', -, hx⟩ := hx0
        have hkb : ∃ b, κ k = some b := by
          cases hx with
          | ref _ _ _ _ _ _ b cap p1 p2 p3 p4 => exact ⟨b, (p4 hlive).1⟩
          | ref0 _ _ _ _ _ A p1 p2 =>
            have hk0 := p2 hlive
            obtain ⟨c1, c2⟩ := cellsAt_some hcc
            rcases hr.obj k _ c2 with ⟨b', vs, T', h3, h4, h5⟩ | ⟨h3, h4⟩
            · rw [hk0] at h3; cases h3
            · subst h4; simp at hex hlen
        obtain ⟨b, hk⟩ := hkb
        obtain ⟨vs, T1, q1, q2⟩ := At.row hr hcc hk
        have pp : PutAt w w b vs := ⟨rfl, ⟨vs, T1, q1, q1, rfl⟩, fun _ _ => rfl, rfl, rfl, rfl⟩
        have hc : CellsRel κ h w (Mx κ h M0) (cs.take (n * s)) vs := by
          intro j c hj
          rw [List.getElem?_take] at hj
          split at hj
          · exact q2 j c hj
          · cases hj
        have hr1 := relH_put hr pp hk hlive.2 hro (cs.take (n * s)) ver (by rw [hlive.1]; exact Nat.le_refl _) hc
        have t1 := trans_put pp hk hlive.2 hro (.cells (cs.take (n * s))) ver (by rw [hlive.1]; exact Nat.le_refl _)
        have hv1 := hv.keeps t1 (t1.keeps M0 hr.m0lt)
        have hset := set_set h k ⟨ver, false, some (.cells (cs.take (n * s)))⟩ ⟨ver + 1, false, some (.cells (cs.take (i.toNat * s) ++ new ++ (cs.take (n * s)).drop (i.toNat * s)))⟩
        obtain ⟨g1, g2⟩ := insert_okX F d _ (h.set k ⟨ver, false, some (.cells (cs.take (n * s)))⟩) key (.ref k (ver + 1) 0 (n + m) s false) (h.set k ⟨ver + 1, false, some (.cells (cs.take (i.toNat * s) ++ new ++ (cs.take (n * s)).drop (i.toNat * s)))⟩) (by
          unfold specInsertX
          have e1 : srcCells (h.set k ⟨ver, false, some (.cells (cs.take (n * s)))⟩) s (.ref k2 ver2 off2 m s2 clip2) = some (m', new) := by
            rw [← hsrc]
            simp only [srcCells, Hp.cellsAt, Hp.live]
            rw [get_set_other _ _ hne]
          have e2 : (h.set k ⟨ver, false, some (.cells (cs.take (n * s)))⟩).wcells k ver = some (cs.take (n * s)) := by
            unfold Hp.wcells Hp.cellsAt Hp.live HE.live
            rw [get_set_same]
            simp
          simp only [e1, e2, Option.bind_some]
          rw [if_pos ⟨hoff, by rw [List.length_take]; omega, hss, hs0, hi0, hin, hne, hm, hbig⟩, et, hset]) κ w M0 vals hr1 hv1
        refine ⟨g1, Calls.mono g2 ?_⟩
        rintro e w1 ⟨v, rfl, κ', u1, u2, u3⟩
        exact ⟨v, rfl, κ', u1, t1.trans u2, u3⟩
    · cases hspec
  · cases hspec
end
end Go.Va
end
section
open Go Go.Proofs
namespace Go.Va
def tyOK (P : Program) (T s : Nat) : Bool :=
  match P.underlying T with
  | some (.slice e) => match P.info? e with
    | some i => match i.zero with
      | some z => Nat.beq i.size s && Nat.beq z.cells.size i.size && Nat.ble i.bytes 64
      | none => false
    | none => false
  | _ => false
theorem tyOK_spec {P : Program} {T s : Nat} (h : tyOK P T s = true) : ∃ e i z, P.underlying T = some (.slice e) ∧ P.info? e = some i ∧ i.zero = some z ∧ i.size = s ∧ z.cells.size = i.size ∧ i.bytes ≤ 64 := by
  unfold tyOK at h
  split at h
  · rename_i e he
    split at h
    · rename_i i hi
      split at h
      · rename_i z hz
        simp only [Bool.and_eq_true] at h
        exact ⟨e, i, z, he, hi, hz, Nat.eq_of_beq_eq_true h.1.1, Nat.eq_of_beq_eq_true h.1.2, Nat.le_of_ble_eq_true h.2⟩
      · cases h
    · cases h
  · cases h
theorem ty30 : tyOK Tryz.prog 30 1 = true := by kernel_rfl
theorem ty31 : tyOK Tryz.prog 31 2 = true := by kernel_rfl
theorem ty195 : tyOK Tryz.prog 195 1 = true := by kernel_rfl
theorem ty3 : Tryz.prog.underlying 3 = some (.int .i64) := by kernel_rfl
theorem enter_of {P : Program} {f : FuncId} {fn : AFn} (h : compFn P f = some fn) (vals : Array Value) (w : World) : (callFunc f vals).run P w = .ok (.enter f vals) w := by
  unfold compFn at h
  simp only [Option.bind_eq_some_iff] at h
  obtain ⟨F, hF, h⟩ := h
  split at h
  · cases h
  · rename_i hname
    simp only [Option.bind_eq_some_iff, Option.map_eq_some_iff] at h
    obtain ⟨c, hc, rs, hrs, rfl⟩ := h
    have hname' : ¬ (F.name = "runtime.NumGoroutine") := by simpa using hname
    simp [callFunc, hF, hname', hc]
theorem over200 (x y : Value) (w : World) : (callFunc 200 #[x, y]).run Tryz.prog w = ((Extern.SlicesOverlaps.overlaps #[31, 31] #[4] #[x, y]).run Tryz.prog w).andThen fun v w' => .ok (.value v) w' :=
  run_callFunc_extern Tryz.func200 (by kernel_rfl) (by kernel_rfl) (by kernel_rfl) (e := Extern.SlicesOverlaps.overlaps #[31, 31] #[4]) (by kernel_rfl) _ _
theorem over157 (x y : Value) (w : World) : (callFunc 157 #[x, y]).run Tryz.prog w = ((Extern.SlicesOverlaps.overlaps #[30, 30] #[4] #[x, y]).run Tryz.prog w).andThen fun v w' => .ok (.value v) w' :=
  run_callFunc_extern Tryz.func157 (by kernel_rfl) (by kernel_rfl) (by kernel_rfl) (e := Extern.SlicesOverlaps.overlaps #[30, 30] #[4]) (by kernel_rfl) _ _
theorem over192 (x y : Value) (w : World) : (callFunc 192 #[x, y]).run Tryz.prog w = ((Extern.SlicesOverlaps.overlaps #[195, 195] #[4] #[x, y]).run Tryz.prog w).andThen fun v w' => .ok (.value v) w' :=
  run_callFunc_extern Tryz.func192 (by kernel_rfl) (by kernel_rfl) (by kernel_rfl) (e := Extern.SlicesOverlaps.overlaps #[195, 195] #[4]) (by kernel_rfl) _ _
theorem ins168 : CallOK1 Tryz.prog 168 (specInsert 2) := by
  obtain ⟨e, i, z, h1, h2, h3, h4, h5, h6⟩ := tyOK_spec ty31
  exact insert_ok (T := 31) (e := e) (ov := 200) (i0 := i) (z := z) ⟨enter_of cfn168, h1, ty3, h2, h3, h4, h5, h6, over200, ins_room_168, ins_grow_168, ins_end_168⟩
theorem ins115 : CallOK1 Tryz.prog 115 (specInsert 1) := by
  obtain ⟨e, i, z, h1, h2, h3, h4, h5, h6⟩ := tyOK_spec ty30
  exact insert_ok (T := 30) (e := e) (ov := 157) (i0 := i) (z := z) ⟨enter_of cfn115, h1, ty3, h2, h3, h4, h5, h6, over157, by simpa using ins_room_115, by simpa using ins_grow_115, ins_end_115⟩
theorem ins159 : CallOK1 Tryz.prog 159 (specInsert 1) := by
  obtain ⟨e, i, z, h1, h2, h3, h4, h5, h6⟩ := tyOK_spec ty195
  exact insert_ok (T := 195) (e := e) (ov := 192) (i0 := i) (z := z) ⟨enter_of cfn159, h1, ty3, h2, h3, h4, h5, h6, over192, by simpa using ins_room_159, by simpa using ins_grow_159, ins_end_159⟩
end Go.Va
end
