/- Towards the law: a small language into which the program is turned, its soundness, and what the functions answer: part 5. -/
import Derived.Test.YtgkmheobocnenaaGreatVa04
import Derived.WalkSpells
import Derived.WalkLawsBesides
import Derived.ProofKit
import Derived.Test.YtgkmheobocnenaaGreatRows
import Derived.OpenShut
import Derived.WalkKit
import Derived.ChangeOld
import Derived.Below
set_option linter.unusedSimpArgs false
set_option linter.unusedVariables false
set_option linter.unusedSectionVars false
set_option linter.unnecessarySimpa false
section
open Go Go.Proofs
namespace Go.Va
def cx0 : Cx where
  fns := tab.look
  pol := polT
  prim := fun _ => none
theorem cx0_ok : CxOK Tryz.prog cx0 := ⟨fun _ _ h => look_ok tab_ok h, fun _ _ h => by cases h⟩
set_option maxHeartbeats 4000000 in
set_option maxRecDepth 100000 in
theorem clone170_nil (c : Nat) (w : World) : Calls Tryz.prog 170 #[.slice none 0 c] w fun e w' => e = .returned (.slice none 0 0) ∧ w' = w := by
  obtain ⟨e, i, z, he, -⟩ := tyOK_spec ty31
  have hn : ∀ w, (binOp .eql 31 (.slice none 0 c) (.slice none 0 0)).run Tryz.prog w = .ok (.bool true) w := fun w => by
    simp only [binOp]
    simp [run_equal_slice_nil w 31 e none 0 c he]
  go_enter Tryz.func170, Tryz.ntmps170
  go_wp2_with (simp only [hn])
  go_ret
  exact ⟨rfl, rfl⟩
set_option maxHeartbeats 4000000 in
set_option maxRecDepth 100000 in
theorem clone116_nil (c : Nat) (w : World) : Calls Tryz.prog 116 #[.slice none 0 c] w fun e w' => e = .returned (.slice none 0 0) ∧ w' = w := by
  obtain ⟨e, i, z, he, -⟩ := tyOK_spec ty30
  have hn : ∀ w, (binOp .eql 30 (.slice none 0 c) (.slice none 0 0)).run Tryz.prog w = .ok (.bool true) w := fun w => by
    simp only [binOp]
    simp [run_equal_slice_nil w 30 e none 0 c he]
  go_enter Tryz.func116, Tryz.ntmps116
  go_wp2_with (simp only [hn])
  go_ret
  exact ⟨rfl, rfl⟩
theorem clone170_non (n : Nat) (cs : List PV) (hl : cs.length = n * 2) (hn : n ≤ 2 ^ 20) : ownD cx0 170 [.frz .non n cs] = some (.inr (n, 2, false, PV.erL cs)) := by
  have hr : roomy n 32 = true := by simp [roomy]; omega
  rw [ownD_of (show cx0.fns 170 = some fn170 from rfl)]
  unfold bodyD
  by_cases h0 : n = 0
  · subst h0
    have : cs = [] := List.length_eq_zero_iff.1 (by simpa using hl)
    subst this
    simp [fn170, ownR, hr]
  · simp [fn170, ownR, hl, hr, h0]
theorem clone116_non (n : Nat) (cs : List PV) (hl : cs.length = n) (hn : n ≤ 2 ^ 20) : ownD cx0 116 [.frz .non n cs] = some (.inr (n, 1, false, PV.erL cs)) := by
  have hr : roomy n 16 = true := by simp [roomy]; omega
  rw [ownD_of (show cx0.fns 116 = some fn116 from rfl)]
  unfold bodyD
  by_cases h0 : n = 0
  · subst h0
    have : cs = [] := List.length_eq_zero_iff.1 hl
    subst this
    simp [fn116, ownR, hr]
  · simp [fn116, ownR, hl, hr, h0]
theorem clone_ok {f : FuncId} {fn : AFn} {s : Nat} (hs : 0 < s) (hf : cx0.fns f = some fn) (hc : compFn Tryz.prog f = some fn) (h1 : ∀ (c : Nat) (w : World), Calls Tryz.prog f #[.slice none 0 c] w fun e w' => e = .returned (.slice none 0 0) ∧ w' = w)
    (h2 : ∀ (n : Nat) (cs : List PV), cs.length = n * s → n ≤ 2 ^ 20 → ownD cx0 f [.frz .non n cs] = some (.inr (n, s, false, PV.erL cs))) :
    CallOK1 Tryz.prog f (specClone s) := by
  intro d args h key r h' hspec κ w M0 vals hr hv
  unfold specClone at hspec
  split at hspec
  · rename_i fl n cs
    split at hspec
    · rename_i hh
      cases hspec
      generalize hvl : vals.toList = vl at hv
      cases hv with | cons hx hv => ?_
      cases hv
      rename_i v
      have hvals : vals = #[v] := by rw [← Array.toList_inj, hvl]
      subst hvals
      have big : ∀ ps, VP w (Mx κ h M0) ps v → ownD cx0 f [ps] = some (.inr (n, s, false, PV.erL cs)) → (callFunc f #[v]).run Tryz.prog w = .ok (.enter f #[v]) w ∧ Calls Tryz.prog f #[v] w fun e w' =>
          ∃ v, e = .returned v ∧ ∃ κ', RelH κ' (h.alloc key (.cells ((PV.erL cs).map .p))) w' M0 ∧ Trans κ h w κ' (h.alloc key (.cells ((PV.erL cs).map .p))) w' ∧ V κ' (h.alloc key (.cells ((PV.erL cs).map .p))) w' (Mx κ' (h.alloc key (.cells ((PV.erL cs).map .p))) M0) (.ref key ((h.get key).ver + 1) 0 n s false) v := by
        intro ps g1 g2
        obtain ⟨k, g3⟩ := (ownD_iff hf).1 g2
        have hmix : Tryz.prog.follows .mixedOrders = true := by kernel_rfl
        have hcf := call_rel cx0_ok (fun _ hcf n d => draws_ok hmix hcf n d) k
        obtain ⟨q1, q2⟩ := owned_rel hcf (draws_ok hmix hcf _ _) hc g3 (Mx.lt hr) (vals := #[v]) (.cons g1 .nil)
        refine ⟨q1, Calls.mono q2 ?_⟩
        rintro e w1 ⟨u, rfl, t1, t2⟩
        exact ⟨u, rfl, take_rel hr t1 t2⟩
      cases hx with | p hp =>
      cases hp with
      | frz0 _ _ A cap q1 q2 =>
        have hn0 : n * s = 0 := by simpa using hh.1.symm
        have hz : n = 0 := by
          rcases Nat.mul_eq_zero.1 hn0 with h | h
          · exact h
          · omega
        subst hz
        cases A with
        | none =>
          refine ⟨enter_of hc _ _, Calls.mono (h1 cap w) ?_⟩
          rintro e w1 ⟨rfl, rfl⟩
          have hg : Grown w1 w1 := ⟨Nat.le_refl _, fun _ _ => rfl, rfl, rfl, rfl⟩
          exact ⟨_, rfl, take_rel hr hg (.inl ⟨rfl, rfl, none, rfl⟩)⟩
        | some a => exact big _ (.frz0 .non 0 (some a) cap q1 rfl) (h2 0 [] (by simp) (by omega))
      | frz _ _ _ b o cap q1 q2 q3 q4 => exact big _ (.frz .non n cs b o cap q1 rfl q3 q4) (h2 n cs hh.1 hh.2)
    · cases hspec
  · cases hspec
theorem clone170 : CallOK1 Tryz.prog 170 (specClone 2) := clone_ok (by decide) rfl cfn170 clone170_nil clone170_non
theorem clone116 : CallOK1 Tryz.prog 116 (specClone 1) := clone_ok (by decide) rfl cfn116 clone116_nil (fun n cs h1 h2 => clone116_non n cs (by simpa using h1) h2)
end Go.Va
end
section
open Go Go.Proofs
namespace Go.Va
set_option maxHeartbeats 4000000 in
set_option maxRecDepth 100000 in
theorem clone97_nil (c : Nat) (w : World) : Calls Tryz.prog 97 #[.slice none 0 c] w fun e w' => e = .returned (.slice none 0 0) ∧ w' = w := by
  have hn : ∀ w, (binOp .eql 35 (.slice none 0 c) (.slice none 0 0)).run Tryz.prog w = .ok (.bool true) w := fun w => by
    simp only [binOp]
    simp [run_equal_slice_nil w 35 _ none 0 c Tryz.underlying35]
  go_enter Tryz.func97, Tryz.ntmps97
  go_wp2_with (simp only [hn])
  go_ret
  exact ⟨rfl, rfl⟩
theorem clone97_non (n : Nat) (cs : List PV) (hl : cs.length = n * 7) (hn : n ≤ 2 ^ 20) : ownD cx0 97 [.frz .non n cs] = some (.inr (n, 7, false, PV.erL cs)) := by
  have hr : roomy n 80 = true := by simp [roomy]; omega
  rw [ownD_of (show cx0.fns 97 = some fn97 from rfl)]
  unfold bodyD
  by_cases h0 : n = 0
  · subst h0
    have : cs = [] := List.length_eq_zero_iff.1 (by simpa using hl)
    subst this
    simp [fn97, ownR, hr]
  · skip
    simp [fn97, ownR, hl, hr, h0]
theorem clone97 : CallOK1 Tryz.prog 97 (specClone 7) := clone_ok (by decide) rfl cfn97 clone97_nil clone97_non
set_option maxHeartbeats 4000000 in
set_option maxRecDepth 100000 in
theorem clone99_nil (c : Nat) (w : World) : Calls Tryz.prog 99 #[.slice none 0 c] w fun e w' => e = .returned (.slice none 0 0) ∧ w' = w := by
  have hn : ∀ w, (binOp .eql 76 (.slice none 0 c) (.slice none 0 0)).run Tryz.prog w = .ok (.bool true) w := fun w => by
    simp only [binOp]
    simp [run_equal_slice_nil w 76 _ none 0 c Tryz.underlying76]
  go_enter Tryz.func99, Tryz.ntmps99
  go_wp2_with (simp only [hn])
  go_ret
  exact ⟨rfl, rfl⟩
theorem clone99_non (n : Nat) (cs : List PV) (hl : cs.length = n * 3) (hn : n ≤ 2 ^ 20) : ownD cx0 99 [.frz .non n cs] = some (.inr (n, 3, false, PV.erL cs)) := by
  have hr : roomy n 40 = true := by simp [roomy]; omega
  rw [ownD_of (show cx0.fns 99 = some fn99 from rfl)]
  unfold bodyD
  by_cases h0 : n = 0
  · subst h0
    have : cs = [] := List.length_eq_zero_iff.1 (by simpa using hl)
    subst this
    simp [fn99, ownR, hr]
  · skip
    simp [fn99, ownR, hl, hr, h0]
theorem clone99 : CallOK1 Tryz.prog 99 (specClone 3) := clone_ok (by decide) rfl cfn99 clone99_nil clone99_non
set_option maxHeartbeats 4000000 in
set_option maxRecDepth 100000 in
theorem clone259_nil (c : Nat) (w : World) : Calls Tryz.prog 259 #[.slice none 0 c] w fun e w' => e = .returned (.slice none 0 0) ∧ w' = w := by
  have hn : ∀ w, (binOp .eql 246 (.slice none 0 c) (.slice none 0 0)).run Tryz.prog w = .ok (.bool true) w := fun w => by
    simp only [binOp]
    simp [run_equal_slice_nil w 246 _ none 0 c Tryz.underlying246]
  go_enter Tryz.func259, Tryz.ntmps259
  go_wp2_with (simp only [hn])
  go_ret
  exact ⟨rfl, rfl⟩
theorem clone259_non (n : Nat) (cs : List PV) (hl : cs.length = n * 1) (hn : n ≤ 2 ^ 20) : ownD cx0 259 [.frz .non n cs] = some (.inr (n, 1, false, PV.erL cs)) := by
  have hr : roomy n 4 = true := by simp [roomy]; omega
  rw [ownD_of (show cx0.fns 259 = some fn259 from rfl)]
  unfold bodyD
  by_cases h0 : n = 0
  · subst h0
    have : cs = [] := List.length_eq_zero_iff.1 (by simpa using hl)
    subst this
    simp [fn259, ownR, hr]
  · simp at hl
    simp [fn259, ownR, hl, hr, h0]
theorem clone259 : CallOK1 Tryz.prog 259 (specClone 1) := clone_ok (by decide) rfl cfn259 clone259_nil clone259_non
theorem cxT_ok {pp : Option PrimFn} (hpp : ∀ spec, pp = some spec → CallOK1 Tryz.prog 218 spec) : CxOK Tryz.prog (cxT pp) := by
  refine ⟨fun _ _ h => look_ok tab_ok h, fun f spec h => ?_⟩
  have h : primT pp f = some spec := h
  unfold primT at h
  split at h
  · rename_i e; obtain rfl := Nat.eq_of_beq_eq_true e; exact hpp _ h
  split at h
  · rename_i e; obtain rfl := Nat.eq_of_beq_eq_true e; cases h; exact clone259
  split at h
  · rename_i e; obtain rfl := Nat.eq_of_beq_eq_true e; cases h; exact clone170
  split at h
  · rename_i e; obtain rfl := Nat.eq_of_beq_eq_true e; cases h; exact ins168
  split at h
  · rename_i e; obtain rfl := Nat.eq_of_beq_eq_true e; cases h; exact ins159
  split at h
  · rename_i e; obtain rfl := Nat.eq_of_beq_eq_true e; cases h; exact clone116
  split at h
  · rename_i e; obtain rfl := Nat.eq_of_beq_eq_true e; cases h; exact ins115
  split at h
  · rename_i e; obtain rfl := Nat.eq_of_beq_eq_true e; cases h; exact clone99
  split at h
  · rename_i e; obtain rfl := Nat.eq_of_beq_eq_true e; cases h; exact clone97
  · cases h
end Go.Va
end
section
open Go Go.ChangeShapes Go.WideShapes
namespace Go.Va
section
variable {H : Type} {enc : TypeId × Value → H} {P : Program} {w : World} {base : Nat} {spare : Nat → Bool} {held : Bool}

def noM : Nat → Prop := fun _ => False
theorem VL.app {M : Nat → Prop} : ∀ {xs ys : List PV} {us vs : List Value}, VL w M xs us → VL w M ys vs → VL w M (xs ++ ys) (us ++ vs)
  | [], _, [], _, _, h => h
  | _ :: _, _, _ :: _, _, .cons h1 h2, h => .cons h1 (VL.app h2 h)
theorem VC.app {M : Nat → Prop} {b : Nat} : ∀ {o : Nat} {xs ys : List PV}, VC w M b o xs → VC w M b (o + xs.length) ys → VC w M b o (xs ++ ys)
  | _, [], _, _, h => by simpa using h
  | o, x :: xs, ys, .cons h1 h2 h3 h4, h => by
    rw [List.cons_append]
    exact .cons h1 h2 h3 (VC.app h4 (by rw [List.length_cons] at h; rwa [show o + 1 + xs.length = o + (xs.length + 1) by omega]))
/-- What the data of a type are: their cells are the cells of an α. -/
def IsData {α : Type} (enc : TypeId × Value → H) (P : Program) (w : World) (base : Nat) (spare : Nat → Bool) (held : Bool) (t : TypeId) (c : α → List PV) (ok : α → Prop) : Prop :=
  ∀ (fuel : Nat) (cs : List Value) (x : DataW H × List MemPlace), DataW.trod enc P w base spare held fuel t cs = some x → ∃ r : α, ok r ∧ VL w noM (c r) cs ∧ ∀ p ∈ c r, p.one = true

theorem data_int {t : TypeId} {k : IntKind} (ht : P.underlying t = some (.int k)) : IsData enc P w base spare held t (fun (n : Int) => [.int k n]) (fun n => (Lit.int k n).wf = true) := by
  intro fuel cs x h
  obtain ⟨n, rfl, -, hn⟩ := DataW.trod_int ht h
  exact ⟨n, hn, .cons (.int k n) .nil, by simp [PV.one]⟩
theorem choose_list {α : Type} {Q : Nat → α → Prop} : ∀ (n : Nat), (∀ i, i < n → ∃ r, Q i r) → ∃ l : List α, l.length = n ∧ ∀ i r, l[i]? = some r → Q i r
  | 0, _ => ⟨[], rfl, by simp⟩
  | n + 1, h => by
    obtain ⟨l, hl, hq⟩ := choose_list n (fun i hi => h i (by omega))
    obtain ⟨r, hr⟩ := h n (by omega)
    refine ⟨l ++ [r], by simp [hl], fun i r' hi => ?_⟩
    rw [List.getElem?_append] at hi
    split at hi
    · exact hq i r' hi
    · rename_i hlt
      have : i = l.length := by
        rw [List.getElem?_eq_some_iff] at hi
        obtain ⟨h1, -⟩ := hi
        simp at h1; omega
      subst this
      simp at hi
      subst hi
      rw [hl]; exact hr
theorem rows_VC {α : Type} {c : α → List PV} {sz : Nat} (hc : ∀ r, (c r).length = sz) {b : Nat} : ∀ (l : List α) (o : Nat), (∀ i r, l[i]? = some r → VC w noM b (o + i * sz) (c r)) → VC w noM b o (l.flatMap c)
  | [], o, _ => .nil b o
  | r :: l, o, h => by
    rw [List.flatMap_cons]
    refine VC.app (by simpa using h 0 r rfl) ?_
    refine rows_VC hc l _ fun i r' hi => ?_
    have := h (i + 1) r' (by simpa using hi)
    rw [hc]
    rwa [Nat.add_mul, Nat.one_mul, show o + (i * sz + sz) = o + sz + i * sz by omega] at this
theorem data_slice {α : Type} {t e : TypeId} {c : α → List PV} {ok : α → Prop} {sz : Nat} (ht : P.underlying t = some (.slice e)) (hz : P.cellsOf e = sz) (hsz : 0 < sz) (hc : ∀ r, (c r).length = sz) (he : IsData enc P w base spare held e c ok) :
    IsData enc P w base spare held t (fun (l : List α) => [.frz .any l.length (l.flatMap c)]) (fun l => l.length ≤ maxLen ∧ ∀ r ∈ l, ok r) := by
  intro fuel cs x h
  rcases DataW.trod_slice ht h with ⟨rfl, -⟩ | ⟨a, len, cap, elems, rest, n, -, rfl, -, hb, hl, hm, hlen, hel, -, -⟩
  · exact ⟨[], by simp, .cons (.frz0 .any 0 none 0 (Nat.le_refl _) trivial) .nil, by simp [PV.one]⟩
  · have hq : ∀ i, i < len → ∃ r : α, ok r ∧ (∀ p ∈ c r, p.one = true) ∧ ∃ vs, w.cells? base (a.add (i * sz)) sz = some vs ∧ VL w noM (c r) vs := by
      intro i hi
      have g := hel i hi
      rw [List.getElem?_eq_getElem (by omega), hz] at g
      cases hcs : w.cells? base (a.add (i * sz)) sz with
      | none => rw [hcs] at g; simp at g
      | some vs =>
        rw [hcs] at g
        obtain ⟨r, h1, h2, h3⟩ := he n vs _ g
        exact ⟨r, h1, h3, vs, rfl, h2⟩
    obtain ⟨l, hll, hlq⟩ := choose_list len hq
    refine ⟨l, ⟨by omega, fun r hr => ?_⟩, .cons ?_ .nil, by simp [PV.one]⟩
    · obtain ⟨i, hi⟩ := List.getElem?_of_mem hr
      exact (hlq i r hi).1
    · rw [← hll]
      cases hl0 : l with
      | nil => exact .frz0 .any 0 (some a) cap (Nat.zero_le _) trivial
      | cons r0 l0 =>
        have hsome : a = ⟨a.block, a.off, none⟩ := by
          have h0 := hlq 0 r0 (by rw [hl0]; rfl)
          obtain ⟨-, -, vs, hcs, hv⟩ := h0
          have h1 := (World.cells?_some hcs).2.2 0 hsz
          have hvl : 0 < vs.length := by rw [(World.cells?_some hcs).2.1]; exact hsz
          rw [List.getElem?_eq_getElem hvl] at h1
          obtain ⟨ab, ao, asp⟩ := a
          cases asp with
          | none => rfl
          | some q => simp [Addr.add, World.cell?] at h1; split at h1 <;> simp at h1
        rw [hsome, ← hl0]
        refine .frz .any l.length _ a.block a.off cap (by omega) trivial (fun h => h) (rows_VC hc l a.off fun i r hi => ?_)
        obtain ⟨-, h2, vs, hcs, hv⟩ := hlq i r hi
        refine VC.of_VL hv (fun j v hj => ?_) h2
        have hjl : j < sz := by
          have := (World.cells?_some hcs).2.1
          rw [← this]; exact (List.getElem?_eq_some_iff.1 hj).1
        have h1 := (World.cells?_some hcs).2.2 j hjl
        rw [hj, hsome, Addr.add_lit, Addr.add_lit] at h1
        rw [Addr.add_lit]
        exact h1
end
end Go.Va
end
section
open Go Go.ChangeShapes Go.WideShapes Go.Proofs
namespace Go.Va
section
variable {H : Type} {enc : TypeId × Value → H} {w : World} {base : Nat} {spare : Nat → Bool} {held : Bool}

theorem wf_u8 {n : Int} (h : (Lit.int .u8 n).wf = true) : U8 n := by
  simp [Lit.wf, IntKind.min, IntKind.max, IntKind.bits, IntKind.signed] at h
  unfold U8; omega
theorem wf_i8 {n : Int} (h : (Lit.int .i8 n).wf = true) : I8 n := by
  simp [Lit.wf, IntKind.min, IntKind.max, IntKind.bits, IntKind.signed] at h
  unfold I8; omega
theorem c23 : Tryz.prog.cellsOf 23 = 1 := by kernel_rfl
theorem c5 : Tryz.prog.cellsOf 5 = 1 := by kernel_rfl
theorem c24 : Tryz.prog.cellsOf 24 = 1 := by kernel_rfl
theorem c26 : Tryz.prog.cellsOf 26 = 1 := by kernel_rfl
theorem c162 : Tryz.prog.cellsOf 162 = 5 := by kernel_rfl
theorem c87 : Tryz.prog.cellsOf 87 = 5 := by kernel_rfl
def R5OK (r : R5) : Prop := I8 r.c ∧ ∀ e ∈ r.es, I8 e
set_option maxRecDepth 100000 in
theorem data162 : IsData enc Tryz.prog w base spare held 162 cR5 R5OK := by
  intro fuel cs x h
  obtain ⟨xs, m, -, -, hl, hxl, hx⟩ := DataW.trod_array Tryz.underlying162 h
  rw [c162] at hl
  rw [c23] at hx
  have g : ∀ i, i < 5 → ∃ n, (cs.drop i).take 1 = [.int .i8 n] ∧ I8 n := by
    intro i hi
    have e := hx i hi
    rw [List.getElem?_eq_getElem (by omega), Nat.mul_one] at e
    obtain ⟨n, h1, -, h2⟩ := DataW.trod_int Tryz.underlying23 e
    exact ⟨n, h1, wf_i8 h2⟩
  match cs, hl with
  | [v0, v1, v2, v3, v4], _ =>
    obtain ⟨n0, e0, b0⟩ := g 0 (by omega)
    obtain ⟨n1, e1, b1⟩ := g 1 (by omega)
    obtain ⟨n2, e2, b2⟩ := g 2 (by omega)
    obtain ⟨n3, e3, b3⟩ := g 3 (by omega)
    obtain ⟨n4, e4, b4⟩ := g 4 (by omega)
    simp at e0 e1 e2 e3 e4
    subst e0; subst e1; subst e2; subst e3; subst e4
    refine ⟨⟨n0, [n1, n2, n3, n4], rfl⟩, ⟨b0, by simp [b1, b2, b3, b4]⟩, ?_, by simp [cR5, int8s, PV.one]⟩
    exact .cons (.int ..) (.cons (.int ..) (.cons (.int ..) (.cons (.int ..) (.cons (.int ..) .nil))))
set_option maxRecDepth 100000 in
theorem data24 : IsData enc Tryz.prog w base spare held 24 (fun (l : List R5) => [.frz .any l.length (l.flatMap cR5)]) (fun l => l.length ≤ maxLen ∧ ∀ r ∈ l, R5OK r) :=
  data_slice Tryz.underlying24 c162 (by decide) cR5_len data162
set_option maxRecDepth 100000 in
theorem data26 : IsData enc Tryz.prog w base spare held 26 (fun (l : List R5) => [.frz .any l.length (l.flatMap cR5)]) (fun l => l.length ≤ maxLen ∧ ∀ r ∈ l, R5OK r) := by
  intro fuel cs x h
  obtain ⟨y, n, -, hl, hy⟩ := trod_struct1 Tryz.underlying26 h
  rw [c26] at hl
  simp only [c24, List.drop_zero] at hy
  rw [List.take_of_length_le (by omega)] at hy
  exact data24 n cs _ hy
set_option maxRecDepth 100000 in
theorem data87 : IsData enc Tryz.prog w base spare held 87 cRaw R33OK := by
  intro fuel cs x h
  obtain ⟨xs, m, -, -, hl, hxl, hx⟩ := DataW.trod_struct Tryz.underlying87 h
  rw [c87] at hl
  match cs, hl with
  | [v0, v1, v2, v3, v4], _ =>
    have hxl' : xs.length = 5 := hxl
    have g : ∀ (i : Nat) (t o : Nat) (f : Field), i < 5 → (#[{ name := "Kind", type := 5, offset := 0, embedded := false, tag := "", pkgPath := "", byteOffset := 0 },
        { name := "A", type := 5, offset := 1, embedded := false, tag := "", pkgPath := "", byteOffset := 1 },
        { name := "B", type := 5, offset := 2, embedded := false, tag := "", pkgPath := "", byteOffset := 2 },
        { name := "N", type := 5, offset := 3, embedded := false, tag := "", pkgPath := "", byteOffset := 3 },
        { name := "P", type := 26, offset := 4, embedded := false, tag := "", pkgPath := "", byteOffset := 8 }] : Array Field)[i]? = some f → f.type = t → f.offset = o → Tryz.prog.cellsOf t = 1 →
        ∃ y, DataW.trod enc Tryz.prog w base spare held m t (([v0, v1, v2, v3, v4].drop o).take 1) = some y := by
      rintro i t o f hi hf rfl rfl hc
      have e := hx i f hf
      rw [hc, List.getElem?_eq_getElem (by omega)] at e
      exact ⟨_, e⟩
    obtain ⟨y0, e0⟩ := g 0 5 0 _ (by omega) rfl rfl rfl c5
    obtain ⟨y1, e1⟩ := g 1 5 1 _ (by omega) rfl rfl rfl c5
    obtain ⟨y2, e2⟩ := g 2 5 2 _ (by omega) rfl rfl rfl c5
    obtain ⟨y3, e3⟩ := g 3 5 3 _ (by omega) rfl rfl rfl c5
    obtain ⟨y4, e4⟩ := g 4 26 4 _ (by omega) rfl rfl rfl c26
    simp only [List.drop_zero, List.drop_succ_cons, List.take_succ_cons, List.take_zero] at e0 e1 e2 e3 e4
    obtain ⟨n0, a0, -, b0⟩ := DataW.trod_int Tryz.underlying5 e0
    obtain ⟨n1, a1, -, b1⟩ := DataW.trod_int Tryz.underlying5 e1
    obtain ⟨n2, a2, -, b2⟩ := DataW.trod_int Tryz.underlying5 e2
    obtain ⟨n3, a3, -, b3⟩ := DataW.trod_int Tryz.underlying5 e3
    obtain ⟨l, ⟨b4, b5⟩, b6, -⟩ := data26 m _ _ e4
    simp only [List.cons.injEq, and_true] at a0 a1 a2 a3
    subst a0; subst a1; subst a2; subst a3
    refine ⟨⟨n0, n1, n2, n3, l⟩, ⟨wf_u8 b0, wf_u8 b1, wf_u8 b2, wf_u8 b3, fun r hr => b5 r hr, by unfold maxLen at b4; simp only; omega⟩, ?_, by simp [cRaw, PV.one]⟩
    exact .cons (.int ..) (.cons (.int ..) (.cons (.int ..) (.cons (.int ..) b6)))
set_option maxRecDepth 100000 in
theorem data22 : IsData enc Tryz.prog w base spare held 22 (fun (l : List Raw33) => [.frz .any l.length (l.flatMap cRaw)]) (fun l => l.length ≤ maxLen ∧ ∀ r ∈ l, R33OK r) :=
  data_slice Tryz.underlying22 c87 (by decide) cRaw_len data87
end
end Go.Va
end
section
namespace Go.Proofs.YtgkmheobocnenaaGreat.editEq
open Go.ChangeShapes Go.WideShapes Go.ChangeAt Go.RowKit Go.Va
theorem own : ownKnob Tryz.prog.godebug = none := by kernel_rfl
theorem laidOut : laidOutB Tryz.prog = true := by kernel_rfl
theorem mixes : Tryz.prog.follows .mixedOrders = true := by kernel_rfl
theorem walk (l m : List Raw33) (hl : ∀ x ∈ l, R33OK x) (hm : ∀ x ∈ m, R33OK x) (hll : l.length ≤ maxLen) (hml : m.length ≤ maxLen) (W : World) (v0 v1 : Value)
    (h0 : VL W noM [.frz .any l.length (l.flatMap cRaw)] [v0]) (h1 : VL W noM [.frz .any m.length (m.flatMap cRaw)] [v1]) :
    Calls Tryz.prog 7 #[v0, v1] W fun e W' => e = .returned (.bool true) ∧ Below W.heap.size W W' := by
  have hf := editEquations (pp := none) l m hl (by unfold maxLen at hll; omega) hm (by unfold maxLen at hml; omega)
  have hv : VL W noM [sl cRaw l, sl cRaw m] #[v0, v1].toList := by
    cases h0 with | cons a0 _ =>
    cases h1 with | cons a1 _ =>
    exact .cons a0 (.cons a1 .nil)
  refine (fev_calls mixes (cxT_ok (by simp)) (funD_fev.1 hf) (fun b hb => hb.elim) hv).mono ?_
  rintro e W' ⟨v, rfl, hg, hb⟩
  cases hb
  exact ⟨rfl, ⟨hg.os, hg.tape, hg.output, hg.size, fun k hk => hg.old k hk⟩⟩
set_option maxRecDepth 100000 in
theorem lifted (os : Os) (started : os.Started) (H : Type) (enc : TypeId × Value → H) :
    ReturnsInHanded {} Tryz.checked os 7 .any (Rows.editEquationsSpec.pre6 enc Tryz.prog Tryz.f7 Rows.editEquationsRow.domain false) (Rows.editEquationsSpec.post enc Tryz.prog Tryz.f7 false true false false) := by
  refine returnsInHanded_of_change (C := Tryz.checked) own started (by kernel_rfl) Tryz.func7
    (ChangeSpec.witness6 (enc := enc) (C := Tryz.checked) false ⟨#[], #[.slice none 0 0, .slice none 0 0], []⟩ 8 (by kernel_rfl) (by kernel_rfl) (by kernel_rfl) (by kernel_rfl)) ?_
  intro W base args ds gs before hval0 hW hcnd _
  have hval : ∀ (j : Nat) t v, Tryz.f7.params[j]? = some t → args[j]? = some v → Value.okWide Tryz.prog W .any base t v := hval0
  have hW' := hW
  obtain ⟨p, q, hA0, hV, rfl, hfz, hnd⟩ := hW
  have hA : DataW.TrodAll enc Tryz.prog W 0 (fun _ => true) true Tryz.f7.params.toList args.toList ds p := hA0
  rw [Tryz.params7] at hA hval
  obtain ⟨v0, v1, d0, d1, p0, p1, rfl, rfl, rfl, h0, h1⟩ := trodAll_two hA
  obtain ⟨rfl, rfl⟩ := trodVars_none hV
  obtain ⟨a0, n0, c0, rfl⟩ := okWide_slice Tryz.underlying22 (hval 0 22 v0 rfl rfl)
  obtain ⟨a1, n1, c1, rfl⟩ := okWide_slice Tryz.underlying22 (hval 1 22 v1 rfl rfl)
  have k0 := h0
  have k1 := h1
  have lt0 : ∀ x ∈ p0, x.block < W.heap.size := by obtain ⟨m, hm⟩ := k0; exact DataW.trod_lt m _ _ _ hm
  have lt1 : ∀ x ∈ p1, x.block < W.heap.size := by obtain ⟨m, hm⟩ := k1; exact DataW.trod_lt m _ _ _ hm
  obtain ⟨f0, e0⟩ := h0
  obtain ⟨f1, e1⟩ := h1
  obtain ⟨l, ⟨hll, hl⟩, b0, -⟩ := data22 f0 _ _ e0
  obtain ⟨m, ⟨hml, hm⟩, b1, -⟩ := data22 f1 _ _ e1
  clear hA0 hval0
  refine (walk l m hl hm hll hml W _ _ b0 b1).mono fun e W' ⟨he, bel⟩ => ?_
  subst he
  exact ⟨_, rfl, _, _, _, [], _, [], hW', trodAll_mk1 (shut_bool Tryz.underlying4 _), trodAll_mk2 (Below.trod laidOut (by kernel_rfl) (of_decide_eq_true (by kernel_rfl)) k0 bel lt0) (Below.trod laidOut (by kernel_rfl) (of_decide_eq_true (by kernel_rfl)) k1 bel lt1), rfl, bel.frame _, fun h => by cases h⟩
end Go.Proofs.YtgkmheobocnenaaGreat.editEq
end
section
namespace Go.Proofs.YtgkmheobocnenaaGreat.editEq
theorem named : Tryz.checked.prog.funcNamed "eliminant/eliminantlaw33.EditEquations" = some 7 := by kernel_rfl
theorem inst : Tryz.f7.isInstance Tryz.checked.prog Rows.editEquationsRow.origin Rows.editEquationsRow.targs := of_decide_eq_true (by kernel_rfl)
theorem wrap : Tryz.f7.isWrapper Tryz.checked.prog Rows.editEquationsRow.wrapper Rows.editEquationsRow.mainSum := by unfold Func.isWrapper; first | (rw [if_pos (by decide +kernel)]; kernel_rfl) | (rw [if_neg (by decide +kernel)]; exact ⟨rfl, rfl⟩)
theorem c_ip : (Rows.editEquationsRow.inPlace == Tryz.checked.prog.inPlace 7) = true := by kernel_rfl
theorem c_uf : (Rows.editEquationsRow.unfollowed == Tryz.checked.prog.unfollowed 7) = true := by kernel_rfl
theorem c_rc : (Rows.editEquationsRow.recurses == Tryz.checked.prog.recurses 7) = true := by kernel_rfl
theorem c_vn : (Rows.editEquationsRow.named == Tryz.checked.prog.varsNamed 7) = true := by kernel_rfl
theorem closed : joinedFacts Tryz.checked.prog 7 Tryz.f7 Rows.editEquationsSpec Rows.editEquationsRow = true := by
  unfold joinedFacts
  rw [c_ip, c_uf, c_rc, c_vn]
  kernel_rfl
end Go.Proofs.YtgkmheobocnenaaGreat.editEq
end
