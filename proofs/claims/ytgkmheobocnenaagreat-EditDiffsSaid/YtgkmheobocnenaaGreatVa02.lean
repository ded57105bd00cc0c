/- Towards the law: a small language into which the program is turned, its soundness, and what the functions answer: part 2. -/
import Derived.Test.YtgkmheobocnenaaGreatVa01
import Derived.NoCompiler
import Derived.Test.YtgkmheobocnenaaGreatProg
set_option linter.unusedSimpArgs false
set_option linter.unusedVariables false
set_option linter.unusedSectionVars false
set_option linter.unnecessarySimpa false
section
namespace Go.Va

section
variable {P : Program} {κ : Kap} {h h' : Hp} {w : World} {M M0 : Nat → Prop}

theorem enter_rel {args : List AV} {vals : Array Value} (hv : Vs κ h w M args vals.toList) (n : Nat) : EnvRel κ h w M (enter args) (vals ++ Array.replicate n undef) := by
  intro i
  have hl := hv.length
  simp only [Array.length_toList] at hl
  rw [Array.getD_eq_getD_getElem?]
  unfold enter
  rw [List.getD_eq_getElem?_getD]
  by_cases hi : i < args.length
  · obtain ⟨u, h1, h2⟩ := hv.get (List.getElem?_eq_getElem hi)
    rw [List.getElem?_eq_getElem hi]
    rw [Array.getElem?_append_left (by omega)]
    rw [← Array.getElem?_toList, h1]
    exact h2
  · rw [List.getElem?_eq_none (by omega), Array.getElem?_append_right (by omega)]
    simp only [Option.getD_none, Array.getElem?_replicate]
    split <;> exact V.undef

def resOf (tmps : Array Value) (r : ResultVar) : Sem Value := match r with
  | .tmp t => pure (tmps.getD t undef)
  | .cell a t => do loadVar t (← asAddr (tmps.getD a undef))

theorem resL_rel {s : St} {tmps : Array Value} (hr : RelH κ s.h w M0) (he : EnvRel κ s.h w (Mx κ s.h M0) s.env tmps) : ∀ {l : List ResultVar} {rs : List ARes} {vs : List AV}, l.mapM (compRes P) = some rs → resL s rs = some vs →
    ∃ us, (l.mapM (resOf tmps)).run P w = .ok us w ∧ Vs κ s.h w (Mx κ s.h M0) vs us := by
  intro l
  induction l with
  | nil =>
    intro rs vs h1 h2
    simp at h1; subst h1
    simp [resL] at h2; subst h2
    exact ⟨[], by simp, .nil⟩
  | cons x l ih =>
    intro rs vs h1 h2
    rw [List.mapM_cons] at h1
    cases hx : compRes P x with
    | none => rw [hx] at h1; cases h1
    | some r =>
      cases hl : l.mapM (compRes P) with
      | none => rw [hx, hl] at h1; cases h1
      | some rs' =>
        rw [hx, hl] at h1; cases h1
        simp only [resL, Option.bind_eq_some_iff, Option.map_eq_some_iff] at h2
        obtain ⟨v, hv, vs', hvs, rfl⟩ := h2
        obtain ⟨us, g1, g2⟩ := ih hl hvs
        have : ∃ u, (resOf tmps x).run P w = .ok u w ∧ V κ s.h w (Mx κ s.h M0) v u := by
          cases x with
          | tmp t =>
            simp [compRes] at hx; subst hx
            simp [resAV] at hv; subst hv
            exact ⟨_, by simp [resOf], he t⟩
          | cell t ty =>
            simp only [compRes, Option.bind_eq_some_iff, Option.map_eq_some_iff] at hx
            obtain ⟨g, hg, n, hn, rfl⟩ := hx
            simp only [resAV, Option.bind_eq_some_iff] at hv
            obtain ⟨cs, hcs, ho⟩ := hv
            obtain ⟨ad, u, q1, q2, q3⟩ := loadVar_rel hr hg hn (he t) hcs ho
            exact ⟨u, by simp [resOf, q1, asAddr, q2], q3⟩
        obtain ⟨u, q1, q2⟩ := this
        refine ⟨u :: us, ?_, .cons q2 g2⟩
        simp only [List.mapM_cons, Sem.run_bind, q1, Result.andThen_ok, g1, Sem.run_pure]

theorem results_rel {s : St} {tmps : Array Value} (hr : RelH κ s.h w M0) (he : EnvRel κ s.h w (Mx κ s.h M0) s.env tmps) {fn : Func} {rs : List ARes} {vs : List AV} (h1 : fn.results.toList.mapM (compRes P) = some rs) (h2 : resL s rs = some vs) :
    ∃ u, (results fn tmps).run P w = .ok u w ∧ V κ s.h w (Mx κ s.h M0) (joinRes vs) u := by
  obtain ⟨us, g1, g2⟩ := resL_rel hr he h1 h2
  have hm : (fn.results.mapM (resOf tmps)).run P w = .ok us.toArray w := by
    rw [Array.mapM_eq_mapM_toList]
    simp only [map_eq_pure_bind, Sem.run_bind, g1, Result.andThen_ok, Sem.run_pure]
  refine ⟨if h : us.toArray.size = 1 then us.toArray[0] else .tuple us.toArray, ?_, ?_⟩
  · have e : results fn tmps = (do let vs ← fn.results.mapM (resOf tmps); pure (if h : vs.size = 1 then vs[0] else .tuple vs)) := by
      unfold results
      rfl
    rw [e]
    simp only [Sem.run_bind, hm, Result.andThen_ok, Sem.run_pure]
  · have hl := g2.length
    match vs, us, g2 with
    | [], [], _ => exact V.undef
    | [v], [u], .cons q1 _ => exact q1
    | v :: v' :: vs, u :: u' :: us, q => exact mkTup_rel q

/-- What a call's answer must be. -/
def CallOK1 (P : Program) (f : FuncId) (spec : Nat → List AV → Hp → Key → Option (AV × Hp)) : Prop :=
  ∀ (d : Nat) (args : List AV) (h : Hp) (key : Key) (r : AV) (h' : Hp), spec d args h key = some (r, h') →
  ∀ (κ : Kap) (w : World) (M0 : Nat → Prop) (vals : Array Value), RelH κ h w M0 → Vs κ h w (Mx κ h M0) args vals.toList →
    (callFunc f vals).run P w = .ok (.enter f vals) w ∧
    Calls P f vals w fun e w' => ∃ v, e = .returned v ∧ ∃ κ', RelH κ' h' w' M0 ∧ Trans κ h w κ' h' w' ∧ V κ' h' w' (Mx κ' h' M0) r v

theorem body_rel {cx : Cx} {cf : CallFn} (hcf : CallsOK P cf) {d : Nat} {f : FuncId} {fn : AFn} (hdr : DrawsOK P fn.ntmps cf d) (hfn : compFn P f = some fn) {k : Nat} {args : List AV} {r : AV} (hb : runBody cx cf d k fn args h = some (r, h'))
    {vals : Array Value} (hr : RelH κ h w M0) (hv : Vs κ h w (Mx κ h M0) args vals.toList) :
    (callFunc f vals).run P w = .ok (.enter f vals) w ∧
    Calls P f vals w fun e w' => ∃ v, e = .returned v ∧ ∃ κ', RelH κ' h' w' M0 ∧ Trans κ h w κ' h' w' ∧ V κ' h' w' (Mx κ' h' M0) r v := by
  unfold compFn at hfn
  simp only [Option.bind_eq_some_iff] at hfn
  obtain ⟨F, hF, hfn⟩ := hfn
  split at hfn
  · cases hfn
  · rename_i hname
    simp only [Option.bind_eq_some_iff, Option.map_eq_some_iff] at hfn
    obtain ⟨c, hc, rs, hrs, rfl⟩ := hfn
    unfold runBody at hb
    split at hb
    · rename_i hlen
      simp only [Option.bind_eq_some_iff] at hb
      obtain ⟨⟨e, s⟩, hev, hb⟩ := hb
      simp only at hb
      split at hb
      · rename_i he
        simp only [Option.map_eq_some_iff] at hb
        obtain ⟨vs, hvs, e2⟩ := hb
        cases e2
        refine ⟨?_, ?_⟩
        · have hname' : ¬ (F.name = "runtime.NumGoroutine") := by simpa using hname
          simp [callFunc, hF, hname', hc]
        · have hl := hv.length
          simp only [Array.length_toList] at hl
          have hlen' : args.length ≤ F.ntmps := hlen
          refine calls_of_wp hF hc ?_
          have hs0 : SRel F.ntmps κ ⟨enter args, h⟩ { tmps := vals ++ Array.replicate (F.ntmps - vals.size) undef, defers := [] } w M0 :=
            ⟨hr, enter_rel hv _, by simp; omega, rfl⟩
          refine (code_wp (cx := cx) hcf hdr k).1 c κ _ s _ w _ e hev hs0 ?_
          intro κ' a' w' q1 q2
          obtain ⟨u, g1, g2⟩ := results_rel q1.hp q1.env hrs hvs
          have fin : a'.defers = [] ∧ ∃ v, (results F a'.tmps).run P w' = .ok v w' ∧ (∃ v', Ending.returned v = .returned v' ∧ ∃ κ', RelH κ' s.h w' M0 ∧ Trans κ h w κ' s.h w' ∧ V κ' s.h w' (Mx κ' s.h M0) (joinRes vs) v') :=
            ⟨q1.defers, u, g1, u, rfl, κ', q1.hp, q2, g2⟩
          rcases he with rfl | rfl
          · exact fin
          · exact fin
      · cases hb
    · cases hb
end
end Go.Va
end
section
namespace Go.Va

section
variable {P : Program} {κ : Kap} {h h' : Hp} {w w1 : World} {M M0 : Nat → Prop}

/-- All that was there stays. -/
structure Grown (w w1 : World) : Prop where
  size : w.heap.size ≤ w1.heap.size
  old : ∀ b, b < w.heap.size → w1.heap[b]? = w.heap[b]?
  os : w1.os = w.os
  tape : w1.tape = w.tape
  output : w1.output = w.output

def noK : Kap := fun _ => none
theorem none_get (k : Key) : Hp.none.get k = ⟨0, false, none⟩ := rfl
theorem none_mt {κ : Kap} {b : Nat} : ¬ Mt κ Hp.none b := by
  rintro ⟨k, h1, _⟩; simp [none_get] at h1
theorem relH_none (hm : ∀ b, M b → b < w.heap.size) : RelH noK Hp.none w M :=
  ⟨fun k k' b h1 => by simp [none_get] at h1, fun k b h1 => by simp [none_get] at h1, hm, fun k o h1 => by simp [none_get] at h1⟩
theorem Grown.of_trans {κ1 : Kap} {h1 : Hp} (t : Trans noK Hp.none w κ1 h1 w1) : Grown w w1 :=
  ⟨t.size, fun b hb => t.frame b hb none_mt, t.os, t.tape, t.output⟩

theorem Grown.trans (g : Grown w w1) : Trans κ h w κ h w1 where
  size := g.size
  frame := fun b hb _ => g.old b hb
  mt := fun _ h => .inl h
  own := fun _ h => .inl h
  rows := fun b vs T fr hb => ⟨vs, by rw [g.old b (Array.getElem?_eq_some_iff.1 hb).1]; exact hb, rfl⟩
  vers := fun _ => Nat.le_refl _
  same := fun _ _ h => ⟨h, rfl⟩
  os := g.os
  tape := g.tape
  output := g.output
theorem Grown.relH (g : Grown w w1) (hr : RelH κ h w M0) : RelH κ h w1 M0 where
  inj := hr.inj
  m0 := hr.m0
  m0lt := fun b hb => Nat.lt_of_lt_of_le (hr.m0lt b hb) g.size
  obj := fun k o ho => (hr.obj k o ho).keeps g.trans (g.trans.keeps M0 hr.m0lt) rfl (fun b hb => g.old b (hr.lt (by rw [ho]; rfl) hb))

theorem Mx.lt (hr : RelH κ h w M0) : ∀ b, Mx κ h M0 b → b < w.heap.size := by
  rintro b (hb | ⟨k, h1, _, h3⟩)
  · exact hr.m0lt b hb
  · exact hr.lt h1 h3

theorem keeps_none : Keeps w w M (Mx noK Hp.none M) := fun b _ hb => ⟨rfl, fun hx => hx.elim hb none_mt⟩

/-- A closed call. -/
theorem closed_rel {cx : Cx} {cf : CallFn} (hcf : CallsOK P cf) {f : FuncId} {fn : AFn} (hdr : DrawsOK P fn.ntmps cf 0) (hfn : compFn P f = some fn) {k : Nat} {ps : List PV} {p : PV} (hb : closedFn cx cf k fn ps = some p)
    (hm : ∀ b, M b → b < w.heap.size) {vals : Array Value} (hv : VL w M ps vals.toList) :
    (callFunc f vals).run P w = .ok (.enter f vals) w ∧ Calls P f vals w fun e w1 => ∃ v, e = .returned v ∧ Grown w w1 ∧ VP w1 M p v := by
  unfold closedFn at hb
  simp only [Option.bind_eq_some_iff, Option.map_eq_some_iff] at hb
  obtain ⟨⟨r, h1⟩, hbody, ⟨q, ks⟩, hf, e⟩ := hb
  simp only at e; subst e
  obtain ⟨g1, g2⟩ := body_rel hcf hdr hfn hbody (κ := noK) (relH_none hm) (Vs.of_VL (hv.keeps keeps_none))
  refine ⟨g1, Calls.mono g2 ?_⟩
  rintro e w1 ⟨v, rfl, κ1, q1, q2, q3⟩
  refine ⟨v, rfl, .of_trans q2, ?_⟩
  have := frzV_rel q1 hf q3 (ks' := ks) (fun _ h => h)
  exact (this.keeps (fun b _ hn => ⟨rfl, fun hx => hn (.inl hx)⟩)).er

/-- What a call that hands over a new row answers. -/
def Taken (w w1 : World) (M : Nat → Prop) (v : Value) : PV ⊕ (Nat × Nat × Bool × List PV) → Prop
  | .inl x => VP w1 M x v
  | .inr (n, s, clip, cs) =>
    (n = 0 ∧ cs = [] ∧ ∃ A, v = .slice A 0 0) ∨
    ∃ b cap vs T, v = .slice (some ⟨b, 0, none⟩) n cap ∧ w.heap.size ≤ b ∧ w1.heap[b]? = some (.cells vs T (0, 0)) ∧ n ≤ cap ∧ (clip = true → cap = n) ∧ cap * s ≤ vs.size ∧ (clip = false → cap * s = vs.size) ∧
      ∀ (j : Nat) (c : PV), cs[j]? = some c → c.one = true ∧ ∃ u, vs[j]? = some u ∧ VP w1 (fun x => M x ∨ x = b) c u

theorem kill_live {k q : Key} {ver : Nat} {o : AObj} (hl : (h.set q (h.get q).kill).live k ver = some o) : k ≠ q ∧ h.live k ver = some o := by
  by_cases e : k = q
  · subst e
    simp [Hp.live, get_set_same, HE.live, HE.kill] at hl
  · refine ⟨e, ?_⟩
    unfold Hp.live at hl ⊢
    rw [get_set_other _ _ e] at hl; exact hl
theorem kill_cells {k q : Key} {ver : Nat} {cs : List AV} (hl : (h.set q (h.get q).kill).cellsAt k ver = some cs) : k ≠ q ∧ h.cellsAt k ver = some cs := by
  unfold Hp.cellsAt at hl ⊢
  split at hl
  · rename_i cs' heq
    obtain ⟨h1, h2⟩ := kill_live heq
    rw [h2]; exact ⟨h1, hl⟩
  · cases hl

mutual
theorem kill_frzV {q : Key} : ∀ {n : Nat} {x : AV} {r : PV × List Key}, frzV (h.set q (h.get q).kill) n x = some r → frzV h n x = some r ∧ q ∉ r.2
  | 0, _, _, hf => by simp [frzV] at hf
  | n + 1, .p x, r, hf => by simp [frzV] at hf ⊢; subst hf; simp
  | n + 1, .ref k ver off m s clip, r, hf => by
    simp only [frzV, Option.bind_eq_some_iff] at hf
    obtain ⟨cs, hc, hf⟩ := hf
    obtain ⟨c1, c2⟩ := kill_cells hc
    split at hf
    · rename_i hle
      simp only [Option.map_eq_some_iff] at hf
      obtain ⟨⟨ps, k2⟩, hl, e⟩ := hf
      obtain ⟨d1, d2⟩ := kill_frzL hl
      subst e
      refine ⟨by simp only [frzV, c2, Option.bind_some, if_pos hle, d1, Option.map_some], ?_⟩
      simp only [List.mem_cons, not_or]
      exact ⟨fun e => c1 e.symm, d2⟩
    · cases hf
  | n + 1, .ptr k ver off, r, hf => by
    simp only [frzV, Option.bind_eq_some_iff, Option.map_eq_some_iff] at hf
    obtain ⟨cs, hc, ⟨ps, k2⟩, hl, e⟩ := hf
    obtain ⟨c1, c2⟩ := kill_cells hc
    obtain ⟨d1, d2⟩ := kill_frzL hl
    subst e
    refine ⟨by simp only [frzV, c2, Option.bind_some, d1, Option.map_some], ?_⟩
    simp only [List.mem_cons, not_or]
    exact ⟨fun e => c1 e.symm, d2⟩
  | n + 1, .agg cs, r, hf => by
    simp only [frzV, Option.map_eq_some_iff] at hf
    obtain ⟨⟨ps, k2⟩, hl, e⟩ := hf
    obtain ⟨d1, d2⟩ := kill_frzL hl
    subst e
    exact ⟨by simp only [frzV, d1, Option.map_some], d2⟩
  | n + 1, .tup cs, r, hf => by
    simp only [frzV, Option.map_eq_some_iff] at hf
    obtain ⟨⟨ps, k2⟩, hl, e⟩ := hf
    obtain ⟨d1, d2⟩ := kill_frzL hl
    subst e
    exact ⟨by simp only [frzV, d1, Option.map_some], d2⟩
  | n + 1, .func f a b, r, hf => by
    simp only [frzV, Option.bind_eq_some_iff, Option.map_eq_some_iff] at hf
    obtain ⟨⟨ps, k2⟩, hl, ⟨qs, k3⟩, hl', e⟩ := hf
    obtain ⟨d1, d2⟩ := kill_frzL hl
    obtain ⟨d3, d4⟩ := kill_frzL hl'
    subst e
    refine ⟨by simp only [frzV, d1, d3, Option.bind_some, Option.map_some], ?_⟩
    simp only [List.mem_append, not_or]; exact ⟨d2, d4⟩
  | n + 1, .map _ _, _, hf => by simp [frzV] at hf
  | n + 1, .iter _ _, _, hf => by simp [frzV] at hf
  | n + 1, .opq, _, hf => by simp [frzV] at hf
theorem kill_frzL {q : Key} : ∀ {n : Nat} {xs : List AV} {r : List PV × List Key}, frzL (h.set q (h.get q).kill) n xs = some r → frzL h n xs = some r ∧ q ∉ r.2
  | 0, _, _, hf => by simp [frzL] at hf
  | n + 1, [], r, hf => by simp [frzL] at hf ⊢; subst hf; simp
  | n + 1, x :: xs, r, hf => by
    simp only [frzL, Option.bind_eq_some_iff, Option.map_eq_some_iff] at hf
    obtain ⟨⟨p, k1⟩, h1, ⟨ps, k2⟩, h2, e⟩ := hf
    obtain ⟨d1, d2⟩ := kill_frzV h1
    obtain ⟨d3, d4⟩ := kill_frzL h2
    subst e
    refine ⟨by simp only [frzL, d1, d3, Option.bind_some, Option.map_some], ?_⟩
    simp only [List.mem_append, not_or]; exact ⟨d2, d4⟩
end

theorem VL.get {xs : List PV} {us : List Value} (hv : VL w M xs us) {i : Nat} {c : PV} (hi : xs[i]? = some c) : ∃ u, us[i]? = some u ∧ VP w M c u := by
  induction xs generalizing us i with
  | nil => simp at hi
  | cons x xs ih =>
    cases hv with
    | cons h1 h2 =>
      cases i with
      | zero => simp at hi; subst hi; exact ⟨_, rfl, h1⟩
      | succ i => simpa using ih h2 (by simpa using hi)

theorem owned_rel {cx : Cx} {cf : CallFn} (hcf : CallsOK P cf) {f : FuncId} {fn : AFn} (hdr : DrawsOK P fn.ntmps cf 0) (hfn : compFn P f = some fn) {k : Nat} {ps : List PV} {p : PV ⊕ (Nat × Nat × Bool × List PV)} (hb : ownedFn cx cf k fn ps = some p)
    (hm : ∀ b, M b → b < w.heap.size) {vals : Array Value} (hv : VL w M ps vals.toList) :
    (callFunc f vals).run P w = .ok (.enter f vals) w ∧ Calls P f vals w fun e w1 => ∃ v, e = .returned v ∧ Grown w w1 ∧ Taken w w1 M v p := by
  unfold ownedFn at hb
  simp only [Option.bind_eq_some_iff] at hb
  obtain ⟨⟨r, h1⟩, hbody, hb⟩ := hb
  obtain ⟨g1, g2⟩ := body_rel hcf hdr hfn hbody (κ := noK) (relH_none hm) (Vs.of_VL (hv.keeps keeps_none))
  refine ⟨g1, Calls.mono g2 ?_⟩
  rintro e w1 ⟨v, rfl, κ1, q1, q2, q3⟩
  refine ⟨v, rfl, .of_trans q2, ?_⟩
  have out : ∀ {x : PV}, VP w1 (Mx κ1 h1 M) x v → VP w1 M x v := fun hx => hx.keeps (fun b _ hn => ⟨rfl, fun hx => hn (.inl hx)⟩)
  simp only at hb
  split at hb
  · rename_i fl n cs
    simp only [Option.some.injEq] at hb
    subst hb
    cases q3 with | p hp =>
    split
    · rename_i hh
      simp only [Bool.and_eq_true, beq_iff_eq, List.isEmpty_iff, decide_eq_true_eq] at hh
      obtain ⟨⟨⟨t1, rfl⟩, rfl⟩, t2⟩ := hh
      refine .inl ⟨rfl, rfl, ?_⟩
      have tcap : ∀ {B cap}, FlOK fl B 0 cap → cap = 0 := by
        intro B cap hf
        cases fl <;> simp [Fl.tight] at t1 <;> simp [FlOK] at hf <;> omega
      cases hp with
      | frz0 _ _ B cap _ q => rw [tcap q]; exact ⟨_, rfl⟩
      | frz _ _ _ b o cap _ q => rw [tcap q]; exact ⟨_, rfl⟩
    · have := (out hp).er
      simpa only [PV.er, Taken] using this
  · cases hb
    cases q3 with | p hp => exact (out hp).er
  · rename_i key ver off n s clip
    simp only [Option.bind_eq_some_iff] at hb
    obtain ⟨cs, hcs, hb⟩ := hb
    split at hb
    · rename_i hh
      obtain ⟨rfl, hle⟩ := hh
      simp only [Option.map_eq_some_iff] at hb
      obtain ⟨⟨qs, ks⟩, hf, e⟩ := hb
      subst e
      obtain ⟨f1, f2⟩ := kill_frzL hf
      obtain ⟨hro, hca⟩ := wcells_some hcs
      have live := cellsAt_lives hca
      cases q3 with
      | ref _ _ _ _ _ _ b cap c1 c2 c3 c4 =>
        obtain ⟨hb, vs, T, d1, d2, d3⟩ := c4 live
        have ha := (At.of_row q1 hca hb).take (n * s)
        obtain ⟨us, u1, u2, u3⟩ := ha.values
        have g1 := frzL_rel q1 f1 u3 (ks' := ks) (fun _ h => h)
        have hmt : Mt κ1 (markRO h1 ks) b := ⟨key, by rw [mark_obj]; exact live.2, by rw [mark_get, if_neg f2]; exact hro, hb⟩
        have hfresh : w.heap.size ≤ b := by
          rcases q2.mt b ⟨key, live.2, hro, hb⟩ with hx | hx
          · exact absurd hx none_mt
          · exact hx
        refine .inr ⟨b, cap, vs, T, rfl, hfresh, d1, c2, c3, by omega, fun hc => by have := d3 hc; omega, ?_⟩
        intro j c hj
        simp only [PV.erL_eq, List.getElem?_map, Option.map_eq_some_iff] at hj
        obtain ⟨c, hj, rfl⟩ := hj
        obtain ⟨u, e1, e2⟩ := VL.get g1 hj
        refine ⟨by rw [PV.er_one]; exact frzL_one f1 ha.ones c (List.mem_of_getElem? hj), u, ?_, ?_⟩
        · have := u2 j u e1
          rw [add_at, cell_row d1, Nat.zero_add] at this; exact this
        · exact (e2.keeps (fun x _ hn => ⟨rfl, fun hx => hx.elim (fun h => hn (.inl h)) (fun h => hn (.inr (h ▸ hmt)))⟩)).er
      | ref0 _ _ _ _ _ A c1 c2 =>
        have : cs = [] := cs_nil q1 hca (c2 live)
        subst this
        cases k with
        | zero => simp [frzL] at f1
        | succ k =>
          simp [frzL] at f1
          obtain ⟨rfl, _⟩ := f1
          exact .inl ⟨rfl, rfl, A, rfl⟩
    · cases hb
  · cases hb

/-- A row that came out of a call becomes the caller's. -/
theorem take_rel (hr : RelH κ h w M0) (g : Grown w w1) {key : Key} {n s : Nat} {clip : Bool} {cs : List PV} {v : Value} (hcs : Taken w w1 (Mx κ h M0) v (.inr (n, s, clip, cs))) :
    ∃ κ', RelH κ' (h.alloc key (.cells (cs.map .p))) w1 M0 ∧ Trans κ h w κ' (h.alloc key (.cells (cs.map .p))) w1 ∧ V κ' (h.alloc key (.cells (cs.map .p))) w1 (Mx κ' (h.alloc key (.cells (cs.map .p))) M0) (.ref key ((h.get key).ver + 1) 0 n s clip) v := by
  have tr : ∀ ob : Option Nat, (∀ b, ob = some b → w.heap.size ≤ b) → Trans κ h w (kset κ key ob) (h.alloc key (.cells (cs.map .p))) w1 := fun ob hob =>
    { size := g.size
      frame := fun b hb _ => g.old b hb
      mt := by
        rintro b ⟨k', h1, h2, h3⟩
        by_cases e : k' = key
        · subst e; rw [kset_same] at h3; exact .inr (hob b h3)
        · rw [alloc_eq, get_set_other _ _ e] at h1 h2; rw [kset_other _ _ e] at h3; exact .inl ⟨k', h1, h2, h3⟩
      own := by
        rintro b ⟨k', h1, h3⟩
        by_cases e : k' = key
        · subst e; rw [kset_same] at h3; exact .inr (hob b h3)
        · rw [alloc_eq, get_set_other _ _ e] at h1; rw [kset_other _ _ e] at h3; exact .inl ⟨k', h1, h3⟩
      rows := fun b vs T fr hb => ⟨vs, by rw [g.old b (Array.getElem?_eq_some_iff.1 hb).1]; exact hb, rfl⟩
      vers := fun k' => by
        by_cases e : k' = key
        · subst e; rw [alloc_eq, get_set_same]; exact Nat.le_succ _
        · rw [alloc_eq, get_set_other _ _ e]; exact Nat.le_refl _
      same := fun k' h1 h2 => by
        by_cases e : k' = key
        · subst e; rw [alloc_eq, get_set_same] at h1; simp at h1
        · rw [alloc_eq, get_set_other _ _ e] at h2; exact ⟨h2, kset_other _ _ e⟩
      os := g.os
      tape := g.tape
      output := g.output }
  have rl : ∀ ob : Option Nat, (∀ b, ob = some b → w.heap.size ≤ b) → ObjRel (kset κ key ob) (h.alloc key (.cells (cs.map .p))) w1 (Mx (kset κ key ob) (h.alloc key (.cells (cs.map .p))) M0) key (.cells (cs.map .p)) →
      RelH (kset κ key ob) (h.alloc key (.cells (cs.map .p))) w1 M0 := fun ob hob ho =>
    hr.step (tr ob hob) key (fun k' e => by rw [alloc_eq, get_set_other _ _ e]) (fun k' e => kset_other _ _ e) (fun k' b _ h1 h2 => g.old b (hr.lt h1 h2))
      (fun b hb => by rw [kset_same] at hb; exact .inr (hob b hb)) (fun o' h1 => by rw [alloc_eq, get_set_same] at h1; cases h1; exact ho)
  rcases hcs with ⟨rfl, rfl, A, rfl⟩ | ⟨b, cap, vs, T, rfl, c1, c2, c3, c4, c5, c6, c7⟩
  · have h0 : ∀ b, (none : Option Nat) = some b → w.heap.size ≤ b := by simp
    exact ⟨_, rl none h0 (.inr ⟨kset_same _ _ _, rfl⟩), tr none h0, .ref0 key _ 0 s clip A (by rw [alloc_eq, get_set_same]; exact Nat.le_refl _) (fun _ => kset_same _ _ _)⟩
  · have h0 : ∀ b', (some b) = some b' → w.heap.size ≤ b' := by intro b' e; cases e; exact c1
    refine ⟨_, rl (some b) h0 (.inl ⟨b, vs, T, kset_same _ _ _, c2, ?_⟩), tr (some b) h0, ?_⟩
    · intro j c hj
      rw [List.getElem?_map] at hj
      simp only [Option.map_eq_some_iff] at hj
      obtain ⟨x, hx, rfl⟩ := hj
      obtain ⟨d1, u, d2, d3⟩ := c7 j x hx
      refine ⟨d1, u, d2, .p (d3.keeps (fun y _ hn => ⟨rfl, ?_⟩))⟩
      rintro (hy | ⟨k', h1, h2, h3⟩)
      · exact hn (.inl (.inl hy))
      · by_cases e : k' = key
        · subst e; rw [kset_same] at h3; cases h3; exact hn (.inr rfl)
        · rw [alloc_eq, get_set_other _ _ e] at h1 h2; rw [kset_other _ _ e] at h3; exact hn (.inl (.inr ⟨k', h1, h2, h3⟩))
    · exact .ref key _ 0 n s clip b cap (by rw [alloc_eq, get_set_same]; exact Nat.le_refl _) c3 c4 (fun _ => ⟨kset_same _ _ _, vs, T, c2, by omega, fun hc => by have := c6 hc; omega⟩)
end
end Go.Va
end
section
namespace Go.Va

/-- What is asked of an interpreter: its functions are the program's, and what it takes as given holds. -/
structure CxOK (P : Program) (cx : Cx) : Prop where
  fns : ∀ f fn, cx.fns f = some fn → compFn P f = some fn
  prims : ∀ f spec, cx.prim f = some spec → CallOK1 P f spec

section
variable {P : Program} {κ : Kap} {h h' : Hp} {w w1 : World} {M M0 : Nat → Prop}

theorem mx_mark_lt (hr : RelH κ h w M0) (ks : List Key) : ∀ b, Mx κ (markRO h ks) M0 b → b < w.heap.size := Mx.lt (relH_mark hr ks)

theorem call0_rel {cx : Cx} (hcx : CxOK P cx) {cf : CallFn} (hcf : CallsOK P cf) (hdr : ∀ n d, DrawsOK P n cf d) (k : Nat) : CallsOK P (evCall0 cx cf k) := by
  intro d f args h key r h' hev κ w M0 vals hr hv
  unfold evCall0 at hev
  split at hev
  · rename_i spec hs
    exact hcx.prims f spec hs d args h key r h' hev κ w M0 vals hr hv
  · simp only [Option.bind_eq_some_iff] at hev
    obtain ⟨fn, hfn, hev⟩ := hev
    have hfn := hcx.fns f fn hfn
    split at hev
    · -- by reference
      simp only [Option.bind_eq_some_iff] at hev
      obtain ⟨⟨ags, ks⟩, hfz, hb⟩ := hev
      obtain ⟨g1, g2⟩ := body_rel hcf (hdr _ _) hfn hb (κ := κ) (relH_mark hr ks) (frzFns_rel hr hfz hv (fun _ h => h))
      refine ⟨g1, Calls.mono g2 ?_⟩
      rintro e w1 ⟨v, rfl, κ1, q1, q2, q3⟩
      exact ⟨v, rfl, κ1, q1, (trans_mark ks).trans q2, q3⟩
    · -- closed
      split at hev
      · rename_i ps hps
        simp only [Option.map_eq_some_iff] at hev
        obtain ⟨p, hc, e⟩ := hev
        cases e
        obtain ⟨g1, g2⟩ := closed_rel hcf (hdr _ _) hfn hc (Mx.lt hr) (Vs.to_VL hps hv).er
        refine ⟨g1, Calls.mono g2 ?_⟩
        rintro e w1 ⟨v, rfl, q1, q2⟩
        exact ⟨v, rfl, κ, q1.relH hr, q1.trans, .p q2⟩
      · simp only [Option.bind_eq_some_iff, Option.map_eq_some_iff] at hev
        obtain ⟨⟨ps, ks⟩, hfz, p, hc, e⟩ := hev
        cases e
        obtain ⟨g1, g2⟩ := closed_rel hcf (hdr _ _) hfn hc (mx_mark_lt hr ks) (frzL_rel hr hfz hv (fun _ h => h)).er
        refine ⟨g1, Calls.mono g2 ?_⟩
        rintro e w1 ⟨v, rfl, q1, q2⟩
        split
        · rename_i hfl
          exact ⟨v, rfl, κ, q1.relH hr, q1.trans, .p (flat_any q2 hfl)⟩
        · exact ⟨v, rfl, κ, q1.relH (relH_mark hr ks), (trans_mark ks).trans q1.trans, .p q2⟩
    · -- handed over
      split at hev
      · rename_i ps hps
        simp only [Option.map_eq_some_iff] at hev
        obtain ⟨p, hc, e⟩ := hev
        obtain ⟨g1, g2⟩ := owned_rel hcf (hdr _ _) hfn hc (Mx.lt hr) (Vs.to_VL hps hv).er
        refine ⟨g1, Calls.mono g2 ?_⟩
        rintro e1 w1 ⟨v, rfl, q1, q2⟩
        refine ⟨v, rfl, ?_⟩
        cases p with
        | inl x => cases e; exact ⟨κ, q1.relH hr, q1.trans, .p q2⟩
        | inr t =>
          obtain ⟨n, s, clip, cs⟩ := t
          cases e
          exact take_rel hr q1 q2
      · simp only [Option.bind_eq_some_iff, Option.map_eq_some_iff] at hev
        obtain ⟨⟨ps, ks⟩, hfz, p, hc, e⟩ := hev
        obtain ⟨g1, g2⟩ := owned_rel hcf (hdr _ _) hfn hc (mx_mark_lt hr ks) (frzL_rel hr hfz hv (fun _ h => h)).er
        refine ⟨g1, Calls.mono g2 ?_⟩
        rintro e1 w1 ⟨v, rfl, q1, q2⟩
        refine ⟨v, rfl, ?_⟩
        cases p with
        | inl x =>
          cases e
          split
          · rename_i hfl
            exact ⟨κ, q1.relH hr, q1.trans, .p (flat_any q2 hfl)⟩
          · exact ⟨κ, q1.relH (relH_mark hr ks), (trans_mark ks).trans q1.trans, .p q2⟩
        | inr t =>
          obtain ⟨n, s, clip, cs⟩ := t
          simp only at e
          cases e
          by_cases hfl : PV.flatL cs = true
          · simp only [hfl, if_true]
            refine take_rel hr q1 ?_
            rcases q2 with hq | ⟨b, cap, vs, T, c0, c1, c2, c3, c4, c5, c6, c7⟩
            · exact .inl hq
            · refine .inr ⟨b, cap, vs, T, c0, c1, c2, c3, c4, c5, c6, fun j c hj => ?_⟩
              obtain ⟨d1, u, d2, d3⟩ := c7 j c hj
              refine ⟨d1, u, d2, flat_any d3 ?_⟩
              have : ∀ {l : List PV} {j : Nat} {c : PV}, PV.flatL l = true → l[j]? = some c → c.flat = true := by
                intro l
                induction l with
                | nil => intro j c _ h; simp at h
                | cons x l ih =>
                  intro j c h1 h2
                  simp only [PV.flatL, Bool.and_eq_true] at h1
                  cases j with
                  | zero => simp at h2; subst h2; exact h1.1
                  | succ j => exact ih h1.2 (by simpa using h2)
              exact this hfl hj
          · simp only [hfl]
            obtain ⟨κ', e1, e2, e3⟩ := take_rel (key := key) (relH_mark hr ks) q1 q2
            exact ⟨κ', e1, (trans_mark ks).trans e2, e3⟩

theorem call_rel {cx : Cx} (hcx : CxOK P cx) (hdr : ∀ cf, CallsOK P cf → ∀ n d, DrawsOK P n cf d) : ∀ k, CallsOK P (evCall cx k)
  | 0 => fun d f args h key r h' hev => by simp [evCall] at hev
  | k + 1 => call0_rel hcx (call_rel hcx hdr k) (hdr _ (call_rel hcx hdr k)) k

/-- What a function answers on values, in the model. -/
theorem fev_rel {cx : Cx} (hcx : CxOK P cx) (hdr : ∀ cf, CallsOK P cf → ∀ n d, DrawsOK P n cf d) {f : FuncId} {args : List PV} {r : PV} (hf : FEv cx f args r)
    (hm : ∀ b, M b → b < w.heap.size) {vals : Array Value} (hv : VL w M args vals.toList) :
    Calls P f vals w fun e w1 => ∃ v, e = .returned v ∧ Grown w w1 ∧ VP w1 M r v := by
  obtain ⟨k, fn, h1, h2⟩ := hf
  exact (closed_rel (call_rel hcx hdr k) (hdr _ (call_rel hcx hdr k) _ _) (hcx.fns f fn h1) h2 hm hv).2
end
end Go.Va
end
section
namespace Go.Va

section
variable {env env' : Nat → AV} {h h' : Hp}

theorem ev_eq {x : Opd} (hx : ∀ t ∈ opdS x, env t = env' t) : x.ev env = x.ev env' := by
  cases x with
  | t n => exact hx n (by simp [opdS])
  | c x => rfl
theorem evL_eq {l : List Opd} (hx : ∀ t ∈ l.flatMap opdS, env t = env' t) : evL env l = evL env' l := by
  unfold evL
  apply List.map_congr_left
  intro x hm
  exact ev_eq (fun t ht => hx t (List.mem_flatMap.2 ⟨x, hm, ht⟩))
theorem fill_eq : ∀ {q : List (Nat × Nat × Opd)} {cs : List AV}, (∀ t ∈ q.flatMap (fun p => opdS p.2.2), env t = env' t) → fillA env cs q = fillA env' cs q
  | [], cs, _ => rfl
  | (off, n, x) :: q, cs, hx => by
    have e1 : x.ev env = x.ev env' := ev_eq (fun t ht => hx t (by simp [ht]))
    simp only [fillA, e1]
    congr 1
    funext vs
    split
    · exact fill_eq (fun t ht => hx t (by simp only [List.flatMap_cons, List.mem_append]; exact .inr ht))
    · rfl
theorem bnd_eq {o : Option Opd} {d : Nat} (hx : ∀ t ∈ optS o, env t = env' t) : bnd env o d = bnd env' o d := by
  cases o with
  | none => rfl
  | some x => simp only [bnd, ev_eq hx]

theorem pureOp_eq {o : AOp} (hx : ∀ t ∈ o.slots, env t = env' t) : pureOp env h o = pureOp env' h o := by
  cases o with
  | build z ps => simp only [pureOp, fill_eq hx]
  | mkf f a b =>
    simp only [AOp.slots, List.mem_append] at hx
    simp only [pureOp, evL_eq (fun t ht => hx t (.inl ht)), evL_eq (fun t ht => hx t (.inr ht))]
  | maxi xs => simp only [pureOp, evL_eq hx]
  | mini xs => simp only [pureOp, evL_eq hx]
  | slcS s x lo hi mx =>
    simp only [AOp.slots, List.mem_append] at hx
    have e1 : x.ev env = x.ev env' := ev_eq (fun t ht => hx t (.inl (.inl (.inl ht))))
    have e2 : ∀ d, bnd env lo d = bnd env' lo d := fun d => bnd_eq (fun t ht => hx t (.inl (.inl (.inr ht))))
    have e3 : ∀ d, bnd env hi d = bnd env' hi d := fun d => bnd_eq (fun t ht => hx t (.inl (.inr ht)))
    have e4 : ∀ d, bnd env mx d = bnd env' mx d := fun d => bnd_eq (fun t ht => hx t (.inr ht))
    simp only [pureOp, slS, e1, e2, e3, e4]
  | slcA n s x lo hi =>
    simp only [AOp.slots, List.mem_append] at hx
    have e1 : x.ev env = x.ev env' := ev_eq (fun t ht => hx t (.inl (.inl ht)))
    have e2 : ∀ d, bnd env lo d = bnd env' lo d := fun d => bnd_eq (fun t ht => hx t (.inl (.inr ht)))
    have e3 : ∀ d, bnd env hi d = bnd env' hi d := fun d => bnd_eq (fun t ht => hx t (.inr ht))
    simp only [pureOp, slA, e1, e2, e3]
  | slcT x lo hi =>
    simp only [AOp.slots, List.mem_append] at hx
    have e1 : x.ev env = x.ev env' := ev_eq (fun t ht => hx t (.inl (.inl ht)))
    have e2 : ∀ d, bnd env lo d = bnd env' lo d := fun d => bnd_eq (fun t ht => hx t (.inl (.inr ht)))
    have e3 : ∀ d, bnd env hi d = bnd env' hi d := fun d => bnd_eq (fun t ht => hx t (.inr ht))
    simp only [pureOp, e1, e2, e3]
  | pick c x y =>
    simp only [AOp.slots, List.mem_append] at hx
    simp only [pureOp, ev_eq (fun t ht => hx t (.inl (.inl ht))), ev_eq (fun t ht => hx t (.inl (.inr ht))), ev_eq (fun t ht => hx t (.inr ht))]
  | bin op x y | eqb neg x y | eqa neg len x y | iadS s x y | iadA len s x y | idxA len s agg x y | idxT x y | lkp kk zg z x y ok =>
    simp only [AOp.slots, List.mem_append] at hx
    simp only [pureOp, ev_eq (fun t ht => hx t (.inl ht)), ev_eq (fun t ht => hx t (.inr ht))]
  | mov x | ld g n x | nilc x | un op x | conv k x | fad off x | fld g off n x | ext x i | isnil neg x | lenS x | lenM x | lenT x =>
    simp only [pureOp, ev_eq hx]
  | _ => simp only [pureOp]

theorem evOp_eq {cf : CallFn} {d : Nat} {dst : Option Nat} {o : AOp} (hx : ∀ t ∈ o.slots, env t = env' t) : evOp cf d dst o env h = evOp cf d dst o env' h := by
  cases hw : hW o with
  | false => rw [evOp_pure hw, evOp_pure hw, pureOp_eq hx]
  | true =>
    cases o with
    | alloc z => rfl
    | mkm => rfl
    | box n x => simp only [evOp, ev_eq hx]
    | bsl s n z ps => simp only [evOp, fill_eq hx]
    | rng x | nxt x | clr s z x => simp only [evOp, ev_eq hx]
    | st n x y | mksl s b z x y | app s b x y | cpy s x y =>
      simp only [AOp.slots, List.mem_append] at hx
      simp only [evOp, ev_eq (fun t ht => hx t (.inl ht)), ev_eq (fun t ht => hx t (.inr ht))]
    | mup kk c x y =>
      simp only [AOp.slots, List.mem_append] at hx
      simp only [evOp, ev_eq (fun t ht => hx t (.inl (.inl ht))), ev_eq (fun t ht => hx t (.inl (.inr ht))), ev_eq (fun t ht => hx t (.inr ht))]
    | call x args =>
      simp only [AOp.slots, List.mem_append] at hx
      simp only [evOp, ev_eq (fun t ht => hx t (.inl ht)), evL_eq (fun t ht => hx t (.inr ht))]
    | _ => simp [hW] at hw

/-- What looks into no memory finds the same on every table. -/
theorem pureOp_noheap {o : AOp} (hr : hR o = false) : pureOp env h o = pureOp env h' o := by
  cases o <;> first | rfl | (simp [hR, hW] at hr)

theorem wants_eq {g : Option (Nat × Bool)} (hx : ∀ t b, g = some (t, b) → env t = env' t) : wants env g = wants env' g := by
  cases g with
  | none => rfl
  | some p => obtain ⟨t, b⟩ := p; simp only [wants, hx t b rfl]

mutual
theorem PV.beq_eq : ∀ {a b : PV}, a.beq b = true → a = b
  | .int k n, b, h => by cases b <;> simp [PV.beq] at h ⊢; exact h
  | .bool k, b, h => by cases b <;> simp [PV.beq] at h ⊢; exact h
  | .str s, b, h => by
    cases b <;> simp [PV.beq] at h ⊢
    rename_i t
    cases s; cases t; simp at h ⊢; exact h
  | .frz f n c, b, h => by
    cases b <;> simp [PV.beq] at h ⊢
    exact ⟨h.1.1, h.1.2, PV.beqL_eq h.2⟩
  | .nilp, b, h => by cases b <;> simp [PV.beq] at h ⊢
  | .nilf, b, h => by cases b <;> simp [PV.beq] at h ⊢
  | .agg c, b, h => by cases b <;> simp [PV.beq] at h ⊢; exact PV.beqL_eq h
  | .tup c, b, h => by cases b <;> simp [PV.beq] at h ⊢; exact PV.beqL_eq h
  | .cptr c, b, h => by cases b <;> simp [PV.beq] at h ⊢; exact PV.beqL_eq h
  | .func f x y, b, h => by
    cases b <;> simp [PV.beq] at h ⊢
    exact ⟨h.1.1, PV.beqL_eq h.1.2, PV.beqL_eq h.2⟩
theorem PV.beqL_eq : ∀ {a b : List PV}, PV.beqL a b = true → a = b
  | [], b, h => by cases b <;> simp [PV.beqL] at h ⊢
  | x :: xs, b, h => by
    cases b <;> simp [PV.beqL] at h ⊢
    exact ⟨PV.beq_eq h.1, PV.beqL_eq h.2⟩
end
mutual
theorem AV.beq_eq : ∀ {a b : AV}, a.beq b = true → a = b
  | .p x, b, h => by cases b <;> simp [AV.beq] at h ⊢; exact PV.beq_eq h
  | .ref k v o n s c, b, h => by cases b <;> simp [AV.beq] at h ⊢; simp [h]
  | .ptr k v o, b, h => by cases b <;> simp [AV.beq] at h ⊢; simp [h]
  | .map k v, b, h => by cases b <;> simp [AV.beq] at h ⊢; simp [h]
  | .iter k v, b, h => by cases b <;> simp [AV.beq] at h ⊢; simp [h]
  | .agg c, b, h => by cases b <;> simp [AV.beq] at h ⊢; exact AV.beqL_eq h
  | .tup c, b, h => by cases b <;> simp [AV.beq] at h ⊢; exact AV.beqL_eq h
  | .func f x y, b, h => by
    cases b <;> simp [AV.beq] at h ⊢
    exact ⟨h.1.1, AV.beqL_eq h.1.2, AV.beqL_eq h.2⟩
  | .opq, b, h => by cases b <;> simp [AV.beq] at h ⊢
theorem AV.beqL_eq : ∀ {a b : List AV}, AV.beqL a b = true → a = b
  | [], b, h => by cases b <;> simp [AV.beqL] at h ⊢
  | x :: xs, b, h => by
    cases b <;> simp [AV.beqL] at h ⊢
    exact ⟨AV.beq_eq h.1, AV.beqL_eq h.2⟩
end

theorem sameAt_eq {o : AOper} {s : St} (hs : sameAt o s h' = true) (hw : wants s.env o.guard = some true) {v : AV} (hp : pureOp s.env s.h o.op = some v) : pureOp s.env h' o.op = some v := by
  unfold sameAt at hs
  rw [hw] at hs
  simp only [hp] at hs
  cases hq : pureOp s.env h' o.op with
  | none => rw [hq] at hs; simp at hs
  | some b => rw [hq] at hs; simp only at hs; rw [AV.beq_eq hs]
end
end Go.Va
end
section
namespace Go.Va

section preds
def predF (acc : List (List Nat)) (o : Oper) : List Nat :=
  (o.after.toList.filter plainE).foldl (init := []) fun s e => ((e.on :: acc.getD e.on []) ++ s).eraseDups

theorem preds_eq (ops : List Oper) : preds ops = ops.foldl (init := []) fun acc o => acc ++ [predF acc o] := rfl

theorem fold_app (ops : List Oper) : ∀ acc : List (List Nat), ∃ r, (ops.foldl (init := acc) fun acc o => acc ++ [predF acc o]) = acc ++ r ∧ r.length = ops.length ∧
    ∀ (i : Nat) (o : Oper), ops[i]? = some o → r[i]? = some (predF (acc ++ r.take i) o) := by
  induction ops with
  | nil => intro acc; exact ⟨[], by simp, rfl, by simp⟩
  | cons o ops ih =>
    intro acc
    obtain ⟨r, h1, h2, h3⟩ := ih (acc ++ [predF acc o])
    refine ⟨predF acc o :: r, by rw [List.foldl_cons, h1]; simp, by simp [h2], ?_⟩
    intro i x hx
    cases i with
    | zero => simp at hx; subst hx; simp
    | succ i =>
      have := h3 i x (by simpa using hx)
      simpa using this

theorem mem_predF {acc : List (List Nat)} {o : Oper} {p : Nat} : p ∈ predF acc o ↔ ∃ e ∈ o.after.toList, plainE e = true ∧ (p = e.on ∨ p ∈ acc.getD e.on []) := by
  have key : ∀ (l : List Edge) (s : List Nat), p ∈ l.foldl (init := s) (fun s e => ((e.on :: acc.getD e.on []) ++ s).eraseDups) ↔ p ∈ s ∨ ∃ e ∈ l, p = e.on ∨ p ∈ acc.getD e.on [] := by
    intro l
    induction l with
    | nil => intro s; simp
    | cons e l ih =>
      intro s
      rw [List.foldl_cons, ih]
      simp only [List.mem_eraseDups, List.mem_append, List.mem_cons]
      constructor
      · rintro ((h | h) | ⟨x, hx, hp⟩)
        · exact .inr ⟨e, .inl rfl, h⟩
        · exact .inl h
        · exact .inr ⟨x, .inr hx, hp⟩
      · rintro (h | ⟨x, rfl | hx, hp⟩)
        · exact .inl (.inr h)
        · exact .inl (.inl hp)
        · exact .inr ⟨x, hx, hp⟩
  unfold predF
  rw [key]
  simp only [List.not_mem_nil, false_or, List.mem_filter]
  constructor
  · rintro ⟨e, ⟨h1, h2⟩, h3⟩; exact ⟨e, h1, h2, h3⟩
  · rintro ⟨e, h1, h2, h3⟩; exact ⟨e, ⟨h1, h2⟩, h3⟩

theorem preds_get {ops : List Oper} {i : Nat} {o : Oper} (ho : ops[i]? = some o) : (preds ops)[i]? = some (predF ((preds ops).take i) o) := by
  obtain ⟨r, h1, h2, h3⟩ := fold_app ops []
  rw [preds_eq, h1]
  simpa using h3 i o ho

theorem getD_take {l : List (List Nat)} {i j : Nat} {p : Nat} (h : p ∈ (l.take i).getD j []) : p ∈ l.getD j [] := by
  rw [List.getD_eq_getElem?_getD, List.getElem?_take] at h
  split at h
  · rw [List.getD_eq_getElem?_getD]; exact h
  · simp at h

theorem preds_back {ops : List Oper} {i p : Nat} {o : Oper} (ho : ops[i]? = some o) (hp : p ∈ (preds ops).getD i []) : ∃ e ∈ o.after.toList, plainE e = true ∧ (p = e.on ∨ p ∈ (preds ops).getD e.on []) := by
  rw [List.getD_eq_getElem?_getD, preds_get ho, Option.getD_some, mem_predF] at hp
  obtain ⟨e, h1, h2, h3⟩ := hp
  exact ⟨e, h1, h2, h3.imp id getD_take⟩
theorem preds_edge {ops : List Oper} {i : Nat} {o : Oper} (ho : ops[i]? = some o) {e : Edge} (he : e ∈ o.after.toList) (hb : plainE e = true) : e.on ∈ (preds ops).getD i [] := by
  rw [List.getD_eq_getElem?_getD, preds_get ho, Option.getD_some, mem_predF]
  exact ⟨e, he, hb, .inl rfl⟩
end preds

/-- What is known of a drawn region: positions in the order that is kept, and who stands ahead of whom. -/
structure Fit (P : Program) (n : Nat) (ops : Array Oper) (l : List AOper) (o p : Nat → Nat) (bef : Nat → Nat → Prop) (kind : Nat → Nat) : Prop where
  len : l.length = ops.size
  po : ∀ q, q < ops.size → o q < ops.size ∧ p (o q) = q
  op : ∀ i, i < ops.size → p i < ops.size ∧ o (p i) = i
  get : ∀ q, q < ops.size → ∃ oo ao a0, ops[o q]? = some oo ∧ l[q]? = some ao ∧ compOper P ops oo = some a0 ∧ dstOK n a0 = true ∧ ao.dst = a0.dst ∧ ao.op = a0.op ∧ ao.guard = a0.guard
  edge : ∀ q oo e, q < ops.size → ops[o q]? = some oo → e ∈ oo.after.toList → plainE e = true → e.on < ops.size ∧ bef (p e.on) q
  back : ∀ i j oo, i < ops.size → j < ops.size → bef i j → ops[o j]? = some oo → ∃ e ∈ oo.after.toList, plainE e = true ∧ e.on < ops.size ∧ (e.on = o i ∨ bef i (p e.on))
  k0 : ∀ q ao, l[q]? = some ao → kind q = 0 → hW ao.op = false
  k1 : ∀ q ao, l[q]? = some ao → kind q = 1 → isNew ao.op = true ∧ ao.guard = none ∧ ∃ t, ao.dst = some t
  k2 : ∀ q, q < ops.size → kind q = 0 ∨ kind q = 1 ∨ kind q = 2
  c1 : ∀ i j, i < ops.size → j < ops.size → bef i j → i < j
  c2 : ∀ i j, i < j → j < ops.size → kind i = 2 → kind j = 2 → bef i j
  c3 : ∀ i j, i < j → j < ops.size → kind i = 1 → kind j = 2 → bef i j
  c4 : ∀ i j, i < ops.size → j < ops.size → kind i = 1 → kind j ≠ 2 → bef i j → ∃ e, e < ops.size ∧ kind e = 2 ∧ bef i e ∧ bef e j
  c5 : ∀ i j x a d, i < ops.size → j < ops.size → l[i]? = some x → l[j]? = some a → x.dst = some d → (i = j ∨ a.dst ≠ some d) ∧ (d ∈ looks a → i ≠ j ∧ (bef i j ∨ bef j i))
  un : ∀ q ao, l[q]? = some ao → hR ao.op = true → hW ao.op = false → ∀ F, F ≤ ops.size → (F = 0 ∨ kind (F - 1) = 2) → (∀ e, e < ops.size → kind e = 2 → (bef e q → e < F) ∧ (e < F → ¬ bef q e)) → F ∈ ao.un ∨ ∀ i, min F q ≤ i → i < max F q → kind i = 0

theorem filterMap_get {α β : Type} {f : α → Option β} : ∀ {l : List α}, (l.filterMap f).length = l.length → ∀ (q : Nat) (x : α), l[q]? = some x → ∃ y, f x = some y ∧ (l.filterMap f)[q]? = some y
  | [], _, q, x, h => by simp at h
  | a :: l, hl, q, x, h => by
    cases ha : f a with
    | none =>
      have := List.length_filterMap_le f l
      rw [List.filterMap_cons_none ha] at hl
      simp at hl; omega
    | some b =>
      rw [List.filterMap_cons_some ha] at hl ⊢
      cases q with
      | zero => simp at h; subst h; exact ⟨b, ha, rfl⟩
      | succ q =>
        obtain ⟨y, h1, h2⟩ := filterMap_get (by simpa using hl) q x (by simpa using h)
        exact ⟨y, h1, by simpa using h2⟩

theorem all_zipIdx {α : Type} {l : List α} {f : α × Nat → Bool} (h : l.zipIdx.all f = true) {i : Nat} {x : α} (hx : l[i]? = some x) : f (x, i) = true := by
  refine List.all_eq_true.1 h _ (List.mem_of_getElem? (i := i) ?_)
  simp [List.getElem?_zipIdx, hx]

theorem reg_fit {P : Program} {n : Nat} {ops : Array Oper} {l : List AOper} {ord : List Nat} (h : compReg P n ops true = some (l, ord)) :
    ∃ o p bef kind, Fit P n ops l o p bef kind := by
  unfold compReg at h
  simp only [Option.bind_eq_some_iff] at h
  obtain ⟨l0, hl0, h⟩ := h
  split at h
  · rename_i hd
    simp only [if_true] at h
    split at h
    · rename_i hc
      simp only [Option.some.injEq, Prod.mk.injEq] at h
      obtain ⟨rfl, rfl⟩ := h
      generalize hks0 : kinds (preds ops.toList) l0 = ks0 at *
      generalize hord : ordGo (preds ops.toList) ks0 (List.range l0.length) [] = ord at *
      generalize hps : predsIn (preds ops.toList) ord = ps at *
      generalize hks : ord.map (ks0.getD · 0) = ks at *
      simp only [Bool.and_eq_true, decide_eq_true_eq] at hc
      obtain ⟨⟨⟨⟨hfit, hlen1⟩, hlen2⟩, hord2⟩, hedge⟩ := hc
      obtain ⟨hlen0, hget0⟩ := mapM_get hl0
      have hN : l0.length = ops.size := by simpa using hlen0.symm
      have hoN : ord.length = ops.size := by omega
      have hl1N : (ord.filterMap (l0[·]?)).length = ord.length := by omega
      have og : ∀ q, q < ops.size → ∃ i, ord[q]? = some i ∧ ord.getD q 0 = i := by
        intro q hq
        refine ⟨ord[q], List.getElem?_eq_getElem (by omega), by simp [List.getD_eq_getElem?_getD, List.getElem?_eq_getElem (show q < ord.length by omega)]⟩
      have olt : ∀ q, q < ops.size → ord.getD q 0 < ops.size := by
        intro q hq
        obtain ⟨i, h1, h2⟩ := og q hq
        obtain ⟨y, h3, _⟩ := filterMap_get hl1N q i h1
        rw [h2]
        have := (List.getElem?_eq_some_iff.1 h3).1
        omega
      have hall : ∀ i, i < ops.size → i ∈ ord ∧ ord.idxOf (ord.getD i 0) = i := by
        intro i hi
        have := List.all_eq_true.1 hord2 i (by simp; omega)
        simpa using this
      have opx : ∀ i, i < ops.size → ord.idxOf i < ops.size ∧ ord.getD (ord.idxOf i) 0 = i := by
        intro i hi
        have hm := (hall i hi).1
        have hlt := List.idxOf_lt_length_of_mem hm
        refine ⟨by omega, ?_⟩
        rw [List.getD_eq_getElem?_getD, List.getElem?_eq_getElem hlt]
        simp
      have lget : ∀ q, q < ops.size → ∃ a0 oo, (ord.filterMap (l0[·]?))[q]? = some a0 ∧ ops[ord.getD q 0]? = some oo ∧ compOper P ops oo = some a0 ∧ dstOK n a0 = true ∧ (setUn ps ks (ord.filterMap (l0[·]?)))[q]? = some { a0 with un := if hR a0.op && !hW a0.op then (mayAt ps ks q).filter fun F => (List.range (max F q)).any fun i => decide (min F q ≤ i) && ks.getD i 0 != 0 else [] } := by
        intro q hq
        obtain ⟨i, h1, h2⟩ := og q hq
        obtain ⟨y, h3, h4⟩ := filterMap_get hl1N q i h1
        have hi := olt q hq
        rw [h2] at hi ⊢
        obtain ⟨y', h5, h6⟩ := hget0 i ops[i] (by simp)
        rw [h3] at h5; cases h5
        refine ⟨y, ops[i], h4, by simp, h6, List.all_eq_true.1 hd _ (List.mem_of_getElem? h3), ?_⟩
        simp [setUn, List.getElem?_zipIdx, h4]
      have psget : ∀ q x, q < ops.size → ((ps.getD q []).contains x = true ↔ x < ops.size ∧ ord.getD x 0 ∈ (preds ops.toList).getD (ord.getD q 0) []) := by
        intro q x hq
        obtain ⟨i, h1, h2⟩ := og q hq
        rw [← hps]
        have : (predsIn (preds ops.toList) ord).getD q [] = (List.range ord.length).filter fun q' => ((preds ops.toList).getD i []).contains (ord.getD q' 0) := by
          simp [predsIn, List.getD_eq_getElem?_getD, h1]
        rw [this, h2]
        simp [hoN]
      have kget : ∀ q, q < ops.size → ks.getD q 0 = ks0.getD (ord.getD q 0) 0 := by
        intro q hq
        obtain ⟨i, h1, h2⟩ := og q hq
        rw [← hks, h2]
        simp [List.getD_eq_getElem?_getD, h1]
      have kval : ∀ q a0, (ord.filterMap (l0[·]?))[q]? = some a0 → q < ops.size → (ks.getD q 0 = 0 → hW a0.op = false) ∧ (ks.getD q 0 = 1 → isNew a0.op = true ∧ a0.guard = none ∧ ∃ t, a0.dst = some t) ∧ (ks.getD q 0 = 0 ∨ ks.getD q 0 = 1 ∨ ks.getD q 0 = 2) := by
        intro q a0 ha hq
        obtain ⟨i, h1, h2⟩ := og q hq
        obtain ⟨y, h3, h4⟩ := filterMap_get hl1N q i h1
        rw [ha] at h4; cases h4
        rw [kget q hq, h2]
        have : ks0[i]? = some (if !hW a0.op then 0 else if isNew a0.op && a0.guard.isNone && a0.dst.isSome && l0.zipIdx.any (fun (x, i') => i' != i && hW x.op && !((preds ops.toList).getD i []).contains i' && !((preds ops.toList).getD i' []).contains i) then 1 else 2) := by
          rw [← hks0]
          simp [kinds, List.getElem?_zipIdx, h3]
        rw [List.getD_eq_getElem?_getD, this, Option.getD_some]
        split
        · rename_i hw; exact ⟨fun _ => by simpa using hw, fun h => by simp at h, .inl rfl⟩
        · split
          · rename_i hw hh
            simp only [Bool.and_eq_true] at hh
            refine ⟨fun h => by simp at h, fun _ => ⟨hh.1.1.1, by simpa using hh.1.1.2, by simpa [Option.isSome_iff_exists] using hh.1.2⟩, .inr (.inl rfl)⟩
          · exact ⟨fun h => by simp at h, fun h => by simp at h, .inr (.inr rfl)⟩
      have pairs : ∀ i j x a, (ord.filterMap (l0[·]?))[i]? = some x → (ord.filterMap (l0[·]?))[j]? = some a →
          (!(ps.getD j []).contains i || decide (i < j)) = true ∧ (decide (j ≤ i) || !(ks.getD i 0 == 2 && ks.getD j 0 == 2) || (ps.getD j []).contains i) = true ∧
          (!(decide (i < j) && ks.getD i 0 == 1 && ks.getD j 0 == 2) || (ps.getD j []).contains i) = true ∧
          (!(ks.getD i 0 == 1 && ks.getD j 0 != 2 && (ps.getD j []).contains i) || (List.range (ord.filterMap (l0[·]?)).length).any fun e => ks.getD e 0 == 2 && (ps.getD e []).contains i && (ps.getD j []).contains e) = true ∧
          (match x.dst with
            | some d => (decide (i = j) || a.dst != some d) && (!(looks a).contains d || (decide (i ≠ j) && ((ps.getD j []).contains i || (ps.getD i []).contains j)))
            | none => true) = true := by
        intro i j x a hx ha
        have := all_zipIdx (all_zipIdx hfit ha) hx
        simp only [Bool.and_eq_true] at this
        obtain ⟨⟨⟨⟨h1, h2⟩, h3⟩, h4⟩, h5⟩ := this
        exact ⟨h1, h2, h3, h4, h5⟩
      refine ⟨fun q => ord.getD q 0, fun i => ord.idxOf i, fun i j => (ps.getD j []).contains i = true, fun q => ks.getD q 0, ?_, ?_, ?_, ?_, ?_, ?_, ?_, ?_, ?_, ?_, ?_, ?_, ?_, ?_, ?_⟩
      · simp [setUn]; omega
      · exact fun q hq => ⟨olt q hq, (hall q hq).2⟩
      · exact opx
      · intro q hq
        obtain ⟨a0, oo, h1, h2, h3, h4, h5⟩ := lget q hq
        exact ⟨oo, _, a0, h2, h5, h3, h4, rfl, rfl, rfl⟩
      · intro q oo e hq ho he hb
        have h1 := List.all_eq_true.1 hedge oo (List.mem_of_getElem? (i := ord.getD q 0) (by simpa using ho))
        have h2 := List.all_eq_true.1 h1 e he
        simp only [hb, Bool.not_true, Bool.false_or, decide_eq_true_eq] at h2
        have he' : e.on < ops.size := by omega
        refine ⟨he', (psget q _ hq).2 ⟨(opx _ he').1, ?_⟩⟩
        rw [(opx _ he').2]
        exact preds_edge (by simpa using ho) he hb
      · intro i j oo hi hj hb ho
        obtain ⟨h1, h2⟩ := (psget j i hj).1 hb
        obtain ⟨e, g1, g2, g3⟩ := preds_back (by simpa using ho) h2
        have q1 := List.all_eq_true.1 hedge oo (List.mem_of_getElem? (i := ord.getD j 0) (by simpa using ho))
        have q2 := List.all_eq_true.1 q1 e g1
        simp only [g2, Bool.not_true, Bool.false_or, decide_eq_true_eq] at q2
        have he' : e.on < ops.size := by omega
        refine ⟨e, g1, g2, he', ?_⟩
        rcases g3 with g3 | g3
        · exact .inl g3.symm
        · refine .inr ((psget _ i (opx _ he').1).2 ⟨hi, ?_⟩)
          rw [(opx _ he').2]; exact g3
      · intro q ao ha hk
        have hq : q < ops.size := by have := (List.getElem?_eq_some_iff.1 ha).1; simp [setUn] at this; omega
        obtain ⟨a0, oo, h1, h2, h3, h4, h5⟩ := lget q hq
        rw [ha] at h5; cases h5
        exact (kval q a0 h1 hq).1 hk
      · intro q ao ha hk
        have hq : q < ops.size := by have := (List.getElem?_eq_some_iff.1 ha).1; simp [setUn] at this; omega
        obtain ⟨a0, oo, h1, h2, h3, h4, h5⟩ := lget q hq
        rw [ha] at h5; cases h5
        exact (kval q a0 h1 hq).2.1 hk
      · intro q hq
        obtain ⟨a0, oo, h1, _⟩ := lget q hq
        exact (kval q a0 h1 hq).2.2
      · intro i j hi hj hb
        obtain ⟨x, _, hx, _⟩ := lget i hi
        obtain ⟨a, _, ha, _⟩ := lget j hj
        have := (pairs i j x a hx ha).1
        simpa only [hb, Bool.not_true, Bool.false_or, decide_eq_true_eq] using this
      · intro i j hij hj hk1 hk2
        obtain ⟨x, _, hx, _⟩ := lget i (by omega)
        obtain ⟨a, _, ha, _⟩ := lget j hj
        have := (pairs i j x a hx ha).2.1
        have hne : ¬ (j ≤ i) := by omega
        rw [show ks.getD i 0 = 2 from hk1, show ks.getD j 0 = 2 from hk2] at this
        simpa [hne] using this
      · intro i j hij hj hk1 hk2
        obtain ⟨x, _, hx, _⟩ := lget i (by omega)
        obtain ⟨a, _, ha, _⟩ := lget j hj
        have := (pairs i j x a hx ha).2.2.1
        rw [show ks.getD i 0 = 1 from hk1, show ks.getD j 0 = 2 from hk2] at this
        simpa [hij] using this
      · intro i j hi hj hk1 hk2 hb
        obtain ⟨x, _, hx, _⟩ := lget i hi
        obtain ⟨a, _, ha, _⟩ := lget j hj
        have := (pairs i j x a hx ha).2.2.2.1
        have hk2' : (ks.getD j 0 != 2) = true := by simpa using hk2
        simp only [hk1, hk2', hb, Bool.and_self, beq_self_eq_true, Bool.not_true, Bool.false_or, List.any_eq_true, List.mem_range, Bool.and_eq_true, beq_iff_eq] at this
        obtain ⟨e, h1, ⟨h2, h3⟩, h4⟩ := this
        exact ⟨e, by omega, h2, h3, h4⟩
      · intro i j x a d hi hj hx ha hxd
        obtain ⟨x0, _, hx0, _, _, _, hx1⟩ := lget i hi
        obtain ⟨a0, _, ha0, _, _, _, ha1⟩ := lget j hj
        rw [hx] at hx1; cases hx1
        rw [ha] at ha1; cases ha1
        have := (pairs i j x0 a0 hx0 ha0).2.2.2.2
        simp only at hxd
        rw [hxd] at this
        simp only [Bool.and_eq_true, Bool.or_eq_true, decide_eq_true_eq, bne_iff_ne, Bool.not_eq_true'] at this
        refine ⟨this.1, fun hm => ?_⟩
        rcases this.2 with h | h
        · have hm' : (looks a0).contains d = true := by simpa [looks] using hm
          rw [h] at hm'; cases hm'
        · exact h
      · intro q ao ha hR' hW' F hF hk hcond
        have hq : q < ops.size := by have := (List.getElem?_eq_some_iff.1 ha).1; simp [setUn] at this; omega
        obtain ⟨a0, oo, h1, h2, h3, h4, h5⟩ := lget q hq
        rw [ha] at h5; cases h5
        simp only at hR' hW'
        simp only [hR', hW', Bool.not_false, Bool.and_self, if_true]
        have hkl : ks.length = ops.size := by rw [← hks]; simp [hoN]
        by_cases hz : ∀ i, min F q ≤ i → i < max F q → ks.getD i 0 = 0
        · exact .inr hz
        left
        rw [List.mem_filter]
        refine ⟨?_, ?_⟩
        rotate_left
        · rw [List.any_eq_true]
          have : ∃ i, min F q ≤ i ∧ i < max F q ∧ ks.getD i 0 ≠ 0 := by
            apply Classical.byContradiction
            intro hne
            exact hz (fun i h1 h2 => Classical.byContradiction fun h3 => hne ⟨i, h1, h2, h3⟩)
          obtain ⟨i, h1, h2, h3⟩ := this
          exact ⟨i, List.mem_range.2 h2, by simp only [Bool.and_eq_true, decide_eq_true_eq, bne_iff_ne]; exact ⟨h1, h3⟩⟩
        simp only [mayAt, List.mem_filter, List.mem_range, hkl, Bool.and_eq_true, Bool.or_eq_true, beq_iff_eq, List.all_eq_true, bne_iff_ne]
        refine ⟨by omega, hk, fun e he => ?_⟩
        by_cases hke : ks.getD e 0 = 2
        · right
          obtain ⟨g1, g2⟩ := hcond e he hke
          constructor
          · by_cases hb : (ps.getD q []).contains e = true
            · right; simpa using g1 hb
            · left; simpa using hb
          · by_cases hb : e < F
            · right; simpa using g2 hb
            · left; simpa using hb
        · left; exact hke
    · cases h
  · cases h
end Go.Va
end
section
namespace Go.Va

section
variable {P : Program} {κ κ' : Kap} {h h' : Hp} {w : World} {M M' M0 : Nat → Prop}

theorem new_run {o : Oper} {ao : AOp} (hc : compOp P o.op = some ao) (hn : isNew ao = true) {cf : CallFn} {d t : Nat} {env0 : Nat → AV} {h0 : Hp} {v : AV} (hev : evOp cf d (some t) ao env0 h0 = some (v, h')) :
    ∃ cs, h' = h0.alloc ⟨d, t⟩ (.cells cs) ∧
      ∀ (κ : Kap) (h : Hp) (w : World) (M0 : Nat → Prop) (env : Nat → AV) (a : Act), RelH κ h w M0 → EnvRel κ h w (Mx κ h M0) env a.tmps → (∀ t ∈ ao.slots, env t = env0 t) →
        ∃ us T rv, (execOp a.eval o).run P w = .ok (.value rv) (w.alloc (.cells us T)) ∧ CellsRel κ h w (Mx κ h M0) cs us ∧
          ∀ (κ2 : Kap) (h2 : Hp) (w2 : World) (M2 : Nat → Prop), κ2 ⟨d, t⟩ = some w.heap.size → (h2.get ⟨d, t⟩).ver = (h0.get ⟨d, t⟩).ver + 1 → w2.heap[w.heap.size]? = some (.cells us T (0, 0)) → V κ2 h2 w2 M2 v rv := by
  have hi := comp_inv hc (by cases ao <;> simp [isNew] at hn <;> rfl)
  generalize hop : o.op = op at hi
  cases hi with
  | alloc ty z hz =>
    simp only [evOp, Option.map_some, Option.some.injEq, Prod.mk.injEq] at hev
    obtain ⟨rfl, rfl⟩ := hev
    refine ⟨_, rfl, ?_⟩
    intro κ h w M0 env a hr he hs
    obtain ⟨u, h1, h2, h3⟩ := zeros_rel (w := w) (M := Mx κ h M0) hz
    refine ⟨u.cells, ty, .pointer (some ⟨w.heap.size, 0, none⟩), ?_, CellsRel.of_Vs (Vs.of_VL h2) (by intro c hc; simp at hc; obtain ⟨x, q1, rfl⟩ := hc; exact h3 x q1), ?_⟩
    · unfold execOp
      rw [hop]
      simp [Instr.alloc, h1, newVar, newRow]
    · intro κ2 h2' w2 M2 e1 e2 _
      exact .ptr _ _ 0 _ (by rw [e2]; exact Nat.le_refl _) (fun _ => e1)
  | bsl ty e s n z ps q hu hs hz hq =>
    simp only [evOp, Option.bind_some, Option.bind_eq_some_iff] at hev
    obtain ⟨cs, hf, hev⟩ := hev
    split at hev
    · rename_i hh
      obtain ⟨g0, hzs, hcs, hb⟩ := hh
      simp only [Option.some.injEq, Prod.mk.injEq] at hev
      obtain ⟨rfl, rfl⟩ := hev
      refine ⟨_, rfl, ?_⟩
      intro κ h w M0 env a hr he hsl
      rw [← fill_eq hsl] at hf
      obtain ⟨zv, h1, h2, h3⟩ := zeros_rel (w := w) (M := Mx κ h M0) hz
      have ho3 : ∀ c ∈ (repl n z).map AV.p, c.one = true := by
        intro c hc; obtain ⟨x, q1, rfl⟩ := List.mem_map.1 hc
        exact h3 x (repl_mem q1)
      have main : ∀ zc : Array Value, (n * s = 0 → zc = #[]) → (n * s ≠ 0 → zc = zv.cells) → Vs κ h w (Mx κ h M0) ((repl n z).map .p) ((Array.range (n * s)).map (zc[· % zc.size]!)).toList →
          ∃ us T rv, (execOp a.eval o).run P w = .ok (.value rv) (w.alloc (.cells us T)) ∧ CellsRel κ h w (Mx κ h M0) cs us ∧
          ∀ (κ2 : Kap) (h2 : Hp) (w2 : World) (M2 : Nat → Prop), κ2 ⟨d, t⟩ = some w.heap.size → (h2.get ⟨d, t⟩).ver = (h0.get ⟨d, t⟩).ver + 1 → w2.heap[w.heap.size]? = some (.cells us T (0, 0)) →
            V κ2 h2 w2 M2 (.ref ⟨d, t⟩ ((h0.get ⟨d, t⟩).ver + 1) 0 n s false) rv := by
        intro zc hz0 hz1 h5
        obtain ⟨cells', g1, g2, g3⟩ := fill_rel he (fun i => some (i * s, s)) ps.toList q _ cs _ (by simpa [cParts] using hq) h5 ho3 hf
        have hsz : cells'.size = n * s := by have := g2.length; simp at this; omega
        refine ⟨cells', e, .slice (some ⟨w.heap.size, 0, none⟩) n n, ?_, CellsRel.of_Vs g2 g3, ?_⟩
        · unfold execOp
          rw [hop]
          have hn24 : ¬ (n * s > 2 ^ 24) := by omega
          by_cases hn : n * s = 0
          · rw [hz0 hn] at g1
            simp only [Instr.buildSlice, Sem.run_bind, r_und hu, r_size hs, Result.andThen_ok, hn24, if_false, Sem.run_pure, Array.toList_map, if_pos hn, g1]
            simp [newRow]
          · rw [hz1 hn] at g1
            simp only [Instr.buildSlice, Sem.run_bind, r_und hu, r_size hs, Result.andThen_ok, hn24, if_false, Sem.run_pure, Array.toList_map, if_neg hn, h1, g1]
            simp [newRow]
        · intro κ2 h2' w2 M2 e1 e2 e3
          exact .ref _ _ 0 n s false _ n (by rw [e2]; exact Nat.le_refl _) (Nat.le_refl _) (by simp) (fun _ => ⟨e1, cells', e, e3, by omega, fun _ => by omega⟩)
      by_cases hn : n * s = 0
      · refine main #[] (fun _ => rfl) (fun hne => absurd hn hne) ?_
        have : n = 0 := by rcases Nat.mul_eq_zero.1 hn with h | h <;> omega
        subst this
        simp [repl]; exact .nil
      · exact main zv.cells (fun hne => absurd hne hn) (fun _ => rfl) (zeros_Vs h2 hzs)
    · cases hev
  | _ => simp [isNew] at hn

/-! ## Another name for a block -/
theorem mono_keeps (hM : ∀ b, ¬ M b → ¬ M' b) : Keeps w w M M' := fun b _ hn => ⟨rfl, hM b hn⟩

mutual
theorem V.rekey (hv : ∀ k ver, ver ≤ (h.get k).ver → ver ≤ (h'.get k).ver) (hl : ∀ k ver, ver ≤ (h.get k).ver → Lives h' k ver → Lives h k ver ∧ κ' k = κ k) (hM : ∀ b, ¬ M b → ¬ M' b) : ∀ {a : AV} {v : Value}, V κ h w M a v → V κ' h' w M' a v
  | _, _, .p hp => .p (hp.keeps (mono_keeps hM))
  | _, _, .ref k ver off n s clip b cap h1 h2 h3 h4 => .ref k ver off n s clip b cap (hv k ver h1) h2 h3 (fun hlv => by
      obtain ⟨h5, h6⟩ := hl k ver h1 hlv
      exact ⟨h6.trans (h4 h5).1, (h4 h5).2⟩)
  | _, _, .ref0 k ver off s clip A h1 h2 => .ref0 k ver off s clip A (hv k ver h1) (fun hlv => by
      obtain ⟨h5, h6⟩ := hl k ver h1 hlv; exact h6.trans (h2 h5))
  | _, _, .ptr k ver off b h1 h2 => .ptr k ver off b (hv k ver h1) (fun hlv => by obtain ⟨h5, h6⟩ := hl k ver h1 hlv; exact h6.trans (h2 h5))
  | _, _, .map k ver b h1 h2 => .map k ver b (hv k ver h1) (fun hlv => by obtain ⟨h5, h6⟩ := hl k ver h1 hlv; exact h6.trans (h2 h5))
  | _, _, .iter k ver b h1 h2 => .iter k ver b (hv k ver h1) (fun hlv => by obtain ⟨h5, h6⟩ := hl k ver h1 hlv; exact h6.trans (h2 h5))
  | _, _, .agg cs vs hh ho => .agg cs vs (Vs.rekey hv hl hM hh) ho
  | _, _, .tup cs vs hh => .tup cs vs (Vs.rekey hv hl hM hh)
  | _, _, .func f x y x' y' h1 h2 => .func f x y x' y' (Vs.rekey hv hl hM h1) (Vs.rekey hv hl hM h2)
  | _, _, .opq v => .opq v
theorem Vs.rekey (hv : ∀ k ver, ver ≤ (h.get k).ver → ver ≤ (h'.get k).ver) (hl : ∀ k ver, ver ≤ (h.get k).ver → Lives h' k ver → Lives h k ver ∧ κ' k = κ k) (hM : ∀ b, ¬ M b → ¬ M' b) : ∀ {a : List AV} {v : List Value}, Vs κ h w M a v → Vs κ' h' w M' a v
  | _, _, .nil => .nil
  | _, _, .cons h1 h2 => .cons (V.rekey hv hl hM h1) (Vs.rekey hv hl hM h2)
end

/-- A block that stands aside gets its name. -/
theorem adopt (hr : RelH κ h w M) {b : Nat} (hb : M b) (hM' : ∀ x, M' x → M x) (hb' : ¬ M' b) {key : Key} {cs : List AV} {us : Array Value} {T : TypeId} (hrow : w.heap[b]? = some (.cells us T (0, 0))) (hc : CellsRel κ h w (Mx κ h M) cs us) :
    RelH (kset κ key (some b)) (h.alloc key (.cells cs)) w M' ∧
    (∀ a v, V κ h w (Mx κ h M) a v → V (kset κ key (some b)) (h.alloc key (.cells cs)) w (Mx (kset κ key (some b)) (h.alloc key (.cells cs)) M') a v) := by
  have hsub : ∀ x, Mx (kset κ key (some b)) (h.alloc key (.cells cs)) M' x → Mx κ h M x := by
    rintro x (hx | ⟨k, h1, h2, h3⟩)
    · exact .inl (hM' x hx)
    · by_cases e : k = key
      · subst e; rw [kset_same] at h3; cases h3; exact .inl hb
      · rw [alloc_eq, get_set_other _ _ e] at h1 h2; rw [kset_other _ _ e] at h3; exact .inr ⟨k, h1, h2, h3⟩
  have hsub' : ∀ x, ¬ Mx κ h M x → ¬ Mx (kset κ key (some b)) (h.alloc key (.cells cs)) M' x := fun x hn hx => hn (hsub x hx)
  have hv : ∀ k ver, ver ≤ (h.get k).ver → ver ≤ ((h.alloc key (.cells cs)).get k).ver := by
    intro k ver hle
    by_cases e : k = key
    · subst e; rw [alloc_eq, get_set_same]; exact Nat.le_succ_of_le hle
    · rw [alloc_eq, get_set_other _ _ e]; exact hle
  have hl : ∀ k ver, ver ≤ (h.get k).ver → Lives (h.alloc key (.cells cs)) k ver → Lives h k ver ∧ kset κ key (some b) k = κ k := by
    intro k ver hle hlv
    by_cases e : k = key
    · subst e
      have := hlv.1
      rw [alloc_eq, get_set_same] at this
      simp only at this
      omega
    · unfold Lives at hlv
      rw [alloc_eq, get_set_other _ _ e] at hlv
      exact ⟨hlv, kset_other _ _ e⟩
  have mv : ∀ a v, V κ h w (Mx κ h M) a v → V (kset κ key (some b)) (h.alloc key (.cells cs)) w (Mx (kset κ key (some b)) (h.alloc key (.cells cs)) M') a v := fun a v hh => hh.rekey hv hl hsub'
  have mc : ∀ {cs0 : List AV} {us0 : Array Value}, CellsRel κ h w (Mx κ h M) cs0 us0 → CellsRel (kset κ key (some b)) (h.alloc key (.cells cs)) w (Mx (kset κ key (some b)) (h.alloc key (.cells cs)) M') cs0 us0 := by
    intro cs0 us0 hh j c hj
    obtain ⟨h1, v, h2, h3⟩ := hh j c hj
    exact ⟨h1, v, h2, mv _ _ h3⟩
  refine ⟨⟨?_, ?_, fun x hx => hr.m0lt x (hM' x hx), ?_⟩, mv⟩
  · intro k k' x h1 h2 h3 h4
    by_cases e : k = key
    · by_cases e' : k' = key
      · rw [e, e']
      · exfalso
        subst e
        rw [kset_same] at h3; cases h3
        rw [alloc_eq, get_set_other _ _ e'] at h2; rw [kset_other _ _ e'] at h4
        exact hr.m0 k' b h2 h4 hb
    · rw [alloc_eq, get_set_other _ _ e] at h1; rw [kset_other _ _ e] at h3
      by_cases e' : k' = key
      · exfalso
        subst e'
        rw [kset_same] at h4; cases h4
        exact hr.m0 k b h1 h3 hb
      · rw [alloc_eq, get_set_other _ _ e'] at h2; rw [kset_other _ _ e'] at h4
        exact hr.inj k k' x h1 h2 h3 h4
  · intro k x h1 h3 hx
    by_cases e : k = key
    · subst e; rw [kset_same] at h3; cases h3; exact hb' hx
    · rw [alloc_eq, get_set_other _ _ e] at h1; rw [kset_other _ _ e] at h3
      exact hr.m0 k x h1 h3 (hM' x hx)
  · intro k o ho
    by_cases e : k = key
    · subst e
      rw [alloc_eq, get_set_same] at ho
      cases ho
      exact .inl ⟨b, us, T, kset_same _ _ _, hrow, mc hc⟩
    · rw [alloc_eq, get_set_other _ _ e] at ho
      have := hr.obj k o ho
      cases o with
      | cells c =>
        rcases this with ⟨b', vs, T', h1, h2, h3⟩ | ⟨h1, h2⟩
        · exact .inl ⟨b', vs, T', by rw [kset_other _ _ e]; exact h1, h2, mc h3⟩
        · exact .inr ⟨by rw [kset_other _ _ e]; exact h1, h2⟩
      | amap es =>
        obtain ⟨b', ces, clock, h1, h2, h3, h4⟩ := this
        exact ⟨b', ces, clock, by rw [kset_other _ _ e]; exact h1, h2, h3.keeps (mono_keeps hsub'), h4⟩
      | siter s pos =>
        obtain ⟨b', h1, h2⟩ := this
        exact ⟨b', by rw [kset_other _ _ e]; exact h1, h2⟩

/-- A new block that stands aside. -/
theorem aside (hr : RelH κ h w M) (ob : Obj) (hM' : ∀ x, M' x ↔ M x ∨ x = w.heap.size) :
    RelH κ h (w.alloc ob) M' ∧ Trans κ h w κ h (w.alloc ob) ∧ Keeps w (w.alloc ob) (Mx κ h M) (Mx κ h M') := by
  have g0 := Grew.alloc w ob
  have g : Grown w (w.alloc ob) := ⟨by rw [g0.size]; omega, g0.old, g0.os, g0.tape, g0.output⟩
  have t : Trans κ h w κ h (w.alloc ob) := g.trans
  have hk : Keeps w (w.alloc ob) (Mx κ h M) (Mx κ h M') := by
    intro b hb hn
    refine ⟨g.old b hb, ?_⟩
    rintro (hx | hx)
    · rcases (hM' b).1 hx with h1 | h1
      · exact hn (.inl h1)
      · omega
    · exact hn (.inr hx)
  refine ⟨⟨hr.inj, ?_, ?_, ?_⟩, t, hk⟩
  · intro k b h1 h2 hx
    rcases (hM' b).1 hx with h3 | h3
    · exact hr.m0 k b h1 h2 h3
    · have := hr.lt h1 h2; omega
  · intro b hx
    rcases (hM' b).1 hx with h3 | h3
    · exact Nat.lt_of_lt_of_le (hr.m0lt b h3) g.size
    · have := g0.size; omega
  · intro k o ho
    exact (hr.obj k o ho).keeps t hk rfl (fun b hb => g.old b (hr.lt (by rw [ho]; rfl) hb))

/-! ## The states of the text -/
theorem trace_get {cf : CallFn} {d : Nat} : ∀ {l : List AOper} {s : St} {tr : List St}, evTrace cf d l s = some tr → tr.length = l.length + 1 ∧ tr[0]? = some s ∧
    ∀ (q : Nat) (ao : AOper), l[q]? = some ao → ∃ s1 s2, tr[q]? = some s1 ∧ tr[q + 1]? = some s2 ∧ stepO cf d ao s1 = some s2
  | [], s, tr, h => by simp [evTrace] at h; subst h; simp
  | o :: l, s, tr, h => by
    simp only [evTrace, Option.bind_eq_some_iff, Option.map_eq_some_iff] at h
    obtain ⟨s', h1, tr', h2, rfl⟩ := h
    obtain ⟨g1, g2, g3⟩ := trace_get h2
    refine ⟨by simp [g1], rfl, fun q ao hq => ?_⟩
    cases q with
    | zero => simp at hq; subst hq; exact ⟨s, s', rfl, by simpa using g2, h1⟩
    | succ q =>
      obtain ⟨s1, s2, q1, q2, q3⟩ := g3 q ao (by simpa using hq)
      exact ⟨s1, s2, by simpa using q1, by simpa using q2, q3⟩

theorem put_env {s : St} {dst : Option Nat} {v : AV} {t : Nat} (ht : dst ≠ some t) : (s.put dst v).env t = s.env t := by
  cases dst with
  | none => rfl
  | some d => simp only [St.put]; rw [if_neg (fun e => ht (by rw [e]))]
theorem put_h {s : St} {dst : Option Nat} {v : AV} : (s.put dst v).h = s.h := by cases dst <;> rfl
theorem put_at {s : St} {t : Nat} {v : AV} : (s.put (some t) v).env t = v := by simp [St.put]

theorem stepO_env {cf : CallFn} {d : Nat} {ao : AOper} {s s' : St} (h : stepO cf d ao s = some s') {t : Nat} (ht : ao.dst ≠ some t) : s'.env t = s.env t := by
  unfold stepO at h
  simp only [Option.bind_eq_some_iff] at h
  obtain ⟨b, _, h⟩ := h
  split at h
  · simp only [Option.map_eq_some_iff] at h
    obtain ⟨⟨v, h'⟩, _, rfl⟩ := h
    exact put_env ht
  · cases h; exact put_env ht
theorem stepO_h {cf : CallFn} {d : Nat} {ao : AOper} {s s' : St} (h : stepO cf d ao s = some s') (hw : hW ao.op = false) : s'.h = s.h := by
  unfold stepO at h
  simp only [Option.bind_eq_some_iff] at h
  obtain ⟨b, _, h⟩ := h
  split at h
  · simp only [Option.map_eq_some_iff] at h
    obtain ⟨⟨v, h'⟩, h1, rfl⟩ := h
    rw [evOp_pure hw] at h1
    simp only [Option.map_eq_some_iff] at h1
    obtain ⟨_, _, e⟩ := h1
    cases e
    exact put_h
  · cases h; exact put_h
end
end Go.Va
end
section
namespace Go.Va

def Done (o : Nat → Nat) (listed : Array Bool) (q : Nat) : Prop := listed.getD (o q) false = true

/-- A block that is made, and not yet named. -/
def Pend (N : Nat) (o kind : Nat → Nat) (listed : Array Bool) (F q : Nat) : Prop := q < N ∧ Done o listed q ∧ kind q = 1 ∧ F ≤ q

structure Inv (n : Nat) (ops : Array Oper) (l : List AOper) (o : Nat → Nat) (bef : Nat → Nat → Prop) (kind : Nat → Nat) (T : Nat → St) (d : Nat) (M0 : Nat → Prop) (κ0 : Kap) (w0 : World)
    (listed : Array Bool) (F : Nat) (κ : Kap) (env : Nat → AV) (a : Act) (w : World) (S : Nat → Prop) (B : Nat → Nat) : Prop where
  lsize : listed.size = ops.size
  cl : ∀ i q, i < ops.size → q < ops.size → Done o listed q → bef i q → Done o listed i
  Fle : F ≤ ops.size
  mains : ∀ q, q < ops.size → kind q = 2 → (Done o listed q ↔ q < F)
  news : ∀ q, q < F → kind q = 1 → Done o listed q
  env1 : ∀ q ao t, l[q]? = some ao → Done o listed q → ao.dst = some t → env t = if kind q = 1 ∧ F ≤ q then .opq else (T (q + 1)).env t
  env0 : ∀ t, (∀ q ao, l[q]? = some ao → Done o listed q → ao.dst ≠ some t) → env t = (T 0).env t
  rel : SRel n κ ⟨env, (T F).h⟩ a w (fun b => M0 b ∨ S b)
  tr : Trans κ0 (T 0).h w0 κ (T F).h w
  own : ∀ b, S b ↔ ∃ q, Pend ops.size o kind listed F q ∧ B q = b
  inj : ∀ q q', Pend ops.size o kind listed F q → Pend ops.size o kind listed F q' → B q = B q' → q = q'
  fresh : ∀ q, Pend ops.size o kind listed F q → w0.heap.size ≤ B q
  pend : ∀ q ao t, Pend ops.size o kind listed F q → l[q]? = some ao → ao.dst = some t → ∃ cs us Ty, (T (q + 1)).h = (T q).h.alloc ⟨d, t⟩ (.cells cs) ∧ w.heap[B q]? = some (.cells us Ty (0, 0)) ∧
    CellsRel κ (T F).h w (Mx κ (T F).h (fun b => M0 b ∨ S b)) cs us ∧
    (∀ (κ2 : Kap) (h2 : Hp) (w2 : World) (M2 : Nat → Prop), κ2 ⟨d, t⟩ = some (B q) → (h2.get ⟨d, t⟩).ver = ((T q).h.get ⟨d, t⟩).ver + 1 → w2.heap[B q]? = some (.cells us Ty (0, 0)) → V κ2 h2 w2 M2 ((T (q + 1)).env t) (a.tmps.getD t undef))

section
variable {P : Program} {n : Nat} {ops : Array Oper} {l : List AOper} {o p : Nat → Nat} {bef : Nat → Nat → Prop} {kind : Nat → Nat} {T : Nat → St} {cf : CallFn} {d : Nat} {M0 : Nat → Prop} {κ0 : Kap} {w0 : World}
variable {listed : Array Bool} {F : Nat} {κ : Kap} {env : Nat → AV} {a : Act} {w : World} {S : Nat → Prop} {B : Nat → Nat}

theorem T_env (hT : ∀ q ao, l[q]? = some ao → stepO cf d ao (T q) = some (T (q + 1))) {t i : Nat} : ∀ (m : Nat), i ≤ m → m ≤ l.length → (∀ j ao, i ≤ j → j < m → l[j]? = some ao → ao.dst ≠ some t) → (T m).env t = (T i).env t := by
  intro m
  induction m with
  | zero => intro h1 _ _; have : i = 0 := by omega
            subst this; rfl
  | succ m ih =>
    intro h1 h2 h3
    by_cases e : i = m + 1
    · subst e; rfl
    · have hg : l[m]? = some l[m] := List.getElem?_eq_getElem (by omega)
      rw [stepO_env (hT m _ hg) (h3 m _ (by omega) (by omega) hg)]
      exact ih (by omega) (by omega) (fun j ao q1 q2 q3 => h3 j ao q1 (by omega) q3)

theorem done_set (hf : Fit P n ops l o p bef kind) (hl : listed.size = ops.size) {q q' : Nat} (hq : q < ops.size) (hq' : q' < ops.size) : Done o (listed.setIfInBounds (o q) true) q' ↔ Done o listed q' ∨ q' = q := by
  unfold Done
  simp only [Array.getD_eq_getD_getElem?, Array.getElem?_setIfInBounds]
  by_cases e : o q = o q'
  · have : q' = q := by have h1 := (hf.po q hq).2; have h2 := (hf.po q' hq').2; rw [e] at h1; omega
    subst this
    simp [hl, (hf.po q' hq).1]
  · have hne : q' ≠ q := fun h => e (by rw [h])
    rw [if_neg e]
    simp [hne]

theorem lt_of_get (hf : Fit P n ops l o p bef kind) {q : Nat} {ao : AOper} (h : l[q]? = some ao) : q < ops.size := by
  have := (List.getElem?_eq_some_iff.1 h).1
  have := hf.len
  omega

/-- The slots that an operation names hold what they hold in the text. -/
theorem look_eq (hf : Fit P n ops l o p bef kind) (hT : ∀ q ao, l[q]? = some ao → stepO cf d ao (T q) = some (T (q + 1))) (inv : Inv n ops l o bef kind T d M0 κ0 w0 listed F κ env a w S B)
    {q : Nat} {ao : AOper} (hq : l[q]? = some ao) (hnd : ¬ Done o listed q) (hrd : ∀ i, i < ops.size → bef i q → Done o listed i) (hF : kind q = 2 → F = q) : ∀ t ∈ looks ao, env t = (T q).env t := by
  intro t ht
  have hqN := lt_of_get hf hq
  by_cases hw : ∃ (j : Nat) (x : AOper), l[j]? = some x ∧ x.dst = some t
  · obtain ⟨j, x, hj, hx⟩ := hw
    have hjN := lt_of_get hf hj
    obtain ⟨hne, hb⟩ := (hf.c5 j q x ao t hjN hqN hj hq hx).2 ht
    have uniq : ∀ j' x', l[j']? = some x' → x'.dst = some t → j' = j := by
      intro j' x' h1 h2
      rcases (hf.c5 j j' x x' t hjN (lt_of_get hf h1) hj h1 hx).1 with h | h
      · exact h.symm
      · exact absurd h2 h
    rcases hb with hb | hb
    · have hdj := hrd j hjN hb
      have hlt := hf.c1 j q hjN hqN hb
      have hnp : ¬ (kind j = 1 ∧ F ≤ j) := by
        rintro ⟨hk, hle⟩
        by_cases hkq : kind q = 2
        · have := hF hkq; omega
        · obtain ⟨e, he, hke, hb1, hb2⟩ := hf.c4 j q hjN hqN hk hkq hb
          have := (inv.mains e he hke).1 (hrd e he hb2)
          have := hf.c1 j e hjN he hb1
          omega
      rw [inv.env1 j x t hj hdj hx, if_neg hnp]
      refine (T_env hT q (by omega) (by have := hf.len; omega) ?_).symm
      intro j' x' h1 h2 h3 h4
      have := uniq j' x' h3 h4
      omega
    · have hlt := hf.c1 q j hqN hjN hb
      have hndj : ¬ Done o listed j := fun hd => hnd (inv.cl q j hqN hjN hd hb)
      rw [inv.env0 t (fun q' x' h1 h2 h3 => hndj (uniq q' x' h1 h3 ▸ h2))]
      refine (T_env hT q (by omega) (by have := hf.len; omega) ?_).symm
      intro j' x' h1 h2 h3 h4
      have := uniq j' x' h3 h4
      omega
  · have hno : ∀ (j : Nat) (x : AOper), l[j]? = some x → x.dst ≠ some t := fun j x h1 h2 => hw ⟨j, x, h1, h2⟩
    rw [inv.env0 t (fun q' x' h1 _ => hno q' x' h1)]
    exact (T_env hT q (by omega) (by have := hf.len; omega) (fun j' x' _ _ h3 => hno j' x' h3)).symm

/-- The front passes an operation that only looks. -/
theorem inc0 (hT : ∀ q ao, l[q]? = some ao → stepO cf d ao (T q) = some (T (q + 1))) (hf : Fit P n ops l o p bef kind) (inv : Inv n ops l o bef kind T d M0 κ0 w0 listed F κ env a w S B) (hlt : F < ops.size) (hk : kind F = 0) :
    Inv n ops l o bef kind T d M0 κ0 w0 listed (F + 1) κ env a w S B := by
  have hg : l[F]? = some (l[F]'(by have := hf.len; omega)) := List.getElem?_eq_getElem _
  have hh : (T (F + 1)).h = (T F).h := stepO_h (hT F _ hg) (hf.k0 F _ hg hk)
  have hp : ∀ q, Pend ops.size o kind listed (F + 1) q ↔ Pend ops.size o kind listed F q := by
    intro q
    constructor
    · rintro ⟨h1, h2, h3, h4⟩; exact ⟨h1, h2, h3, by omega⟩
    · rintro ⟨h1, h2, h3, h4⟩
      refine ⟨h1, h2, h3, ?_⟩
      rcases Nat.lt_or_ge F q with h | h
      · exact h
      · have : q = F := by omega
        subst this; omega
  have hc : ∀ q, (kind q = 1 ∧ F + 1 ≤ q) ↔ (kind q = 1 ∧ F ≤ q) := by
    intro q
    constructor
    · rintro ⟨h1, h2⟩; exact ⟨h1, by omega⟩
    · rintro ⟨h1, h2⟩
      refine ⟨h1, ?_⟩
      rcases Nat.lt_or_ge F q with h | h
      · exact h
      · have : q = F := by omega
        subst this; omega
  refine ⟨inv.lsize, inv.cl, hlt, ?_, ?_, ?_, inv.env0, by rw [hh]; exact inv.rel, by rw [hh]; exact inv.tr, ?_, ?_, ?_, ?_⟩
  · intro q hq hkq
    rw [inv.mains q hq hkq]
    constructor
    · intro h; omega
    · intro h
      rcases Nat.lt_or_ge q F with h' | h'
      · exact h'
      · have : q = F := by omega
        subst this; omega
  · intro q hq hkq
    rcases Nat.lt_or_ge q F with h' | h'
    · exact inv.news q h' hkq
    · have : q = F := by omega
      subst this; omega
  · intro q ao t h1 h2 h3
    rw [inv.env1 q ao t h1 h2 h3]
    by_cases h : kind q = 1 ∧ F ≤ q
    · rw [if_pos h, if_pos ((hc q).2 h)]
    · rw [if_neg h, if_neg (fun h' => h ((hc q).1 h'))]
  · intro b; rw [inv.own b]; constructor
    · rintro ⟨q, h1, h2⟩; exact ⟨q, (hp q).2 h1, h2⟩
    · rintro ⟨q, h1, h2⟩; exact ⟨q, (hp q).1 h1, h2⟩
  · exact fun q q' h1 h2 => inv.inj q q' ((hp q).1 h1) ((hp q').1 h2)
  · exact fun q h1 => inv.fresh q ((hp q).1 h1)
  · intro q ao t h1 h2 h3
    rw [hh]
    exact inv.pend q ao t ((hp q).1 h1) h2 h3

/-- The front passes a block that is made: it gets its name. -/
theorem inc1 (hf : Fit P n ops l o p bef kind) (hm : ∀ b, M0 b → b < w0.heap.size) (inv : Inv n ops l o bef kind T d M0 κ0 w0 listed F κ env a w S B) (hlt : F < ops.size) (hk : kind F = 1) (hd : Done o listed F) :
    ∃ κ' env' S', Inv n ops l o bef kind T d M0 κ0 w0 listed (F + 1) κ' env' a w S' B := by
  have hg : l[F]? = some (l[F]'(by have := hf.len; omega)) := List.getElem?_eq_getElem _
  generalize l[F]'(by have := hf.len; omega) = ao at hg
  obtain ⟨k1, k2, t, k3⟩ := hf.k1 F ao hg hk
  have hpF : Pend ops.size o kind listed F F := ⟨hlt, hd, hk, Nat.le_refl _⟩
  obtain ⟨cs, us, Ty, p1, p2, p3, p4⟩ := inv.pend F ao t hpF hg k3
  have hS : S (B F) := (inv.own _).2 ⟨F, hpF, rfl⟩
  have hfr := inv.fresh F hpF
  obtain ⟨q1, q2⟩ := adopt (M' := fun b => M0 b ∨ (S b ∧ b ≠ B F)) (key := ⟨d, t⟩) inv.rel.hp (.inr hS) (fun x hx => hx.imp id (fun h => h.1)) (by
    rintro (h | h)
    · have := hm _ h; omega
    · exact h.2 rfl) p2 p3
  have hh : (T (F + 1)).h = (T F).h.alloc ⟨d, t⟩ (.cells cs) := p1
  have hp : ∀ q, Pend ops.size o kind listed (F + 1) q ↔ Pend ops.size o kind listed F q ∧ q ≠ F := by
    intro q
    constructor
    · rintro ⟨h1, h2, h3, h4⟩; exact ⟨⟨h1, h2, h3, by omega⟩, by omega⟩
    · rintro ⟨⟨h1, h2, h3, h4⟩, h5⟩; exact ⟨h1, h2, h3, by omega⟩
  have other : ∀ q x t', l[q]? = some x → x.dst = some t' → q ≠ F → t' ≠ t := by
    intro q x t' h1 h2 h3 h4
    subst h4
    rcases (hf.c5 F q ao x t' hlt (lt_of_get hf h1) hg h1 k3).1 with h | h
    · exact h3 h.symm
    · exact h h2
  refine ⟨kset κ ⟨d, t⟩ (some (B F)), fun i => if i = t then (T (F + 1)).env t else env i, fun b => S b ∧ b ≠ B F, inv.lsize, inv.cl, hlt, ?_, ?_, ?_, ?_, ⟨?_, ?_, inv.rel.size, inv.rel.defers⟩, ?_, ?_, ?_, ?_, ?_⟩
  · intro q hq hkq
    rw [inv.mains q hq hkq]
    constructor
    · intro h; omega
    · intro h
      rcases Nat.lt_or_ge q F with h' | h'
      · exact h'
      · have : q = F := by omega
        rw [this] at hkq; omega
  · intro q hq hkq
    rcases Nat.lt_or_ge q F with h' | h'
    · exact inv.news q h' hkq
    · have : q = F := by omega
      rw [this]; exact hd
  · intro q x t' h1 h2 h3
    by_cases e : q = F
    · rw [e] at h1 ⊢
      rw [hg] at h1; cases h1
      rw [k3] at h3; cases h3
      simp only [if_true]
      rw [if_neg (by omega)]
    · simp only [if_neg (other q x t' h1 h3 e)]
      rw [inv.env1 q x t' h1 h2 h3]
      by_cases h : kind q = 1 ∧ F ≤ q
      · rw [if_pos h, if_pos ⟨h.1, by omega⟩]
      · rw [if_neg h, if_neg (fun h' => h ⟨h'.1, by omega⟩)]
  · intro t' h1
    have : t' ≠ t := fun e => h1 F ao hg hd (e ▸ k3)
    simp only [if_neg this]
    exact inv.env0 t' h1
  · rw [hh]; exact q1
  · intro i
    rw [hh]
    by_cases e : i = t
    · subst e
      simp only [if_true]
      exact p4 _ _ _ _ (kset_same _ _ _) (by rw [alloc_eq, get_set_same]) p2
    · simp only [if_neg e]
      exact q2 _ _ (inv.rel.env i)
  · rw [hh]
    have tr := inv.tr
    refine ⟨tr.size, tr.frame, ?_, ?_, tr.rows, ?_, ?_, tr.os, tr.tape, tr.output⟩
    · rintro b ⟨k', h1, h2, h3⟩
      by_cases e : k' = ⟨d, t⟩
      · subst e; rw [kset_same] at h3; cases h3; exact .inr hfr
      · rw [alloc_eq, get_set_other _ _ e] at h1 h2; rw [kset_other _ _ e] at h3; exact tr.mt b ⟨k', h1, h2, h3⟩
    · rintro b ⟨k', h1, h3⟩
      by_cases e : k' = ⟨d, t⟩
      · subst e; rw [kset_same] at h3; cases h3; exact .inr hfr
      · rw [alloc_eq, get_set_other _ _ e] at h1; rw [kset_other _ _ e] at h3; exact tr.own b ⟨k', h1, h3⟩
    · intro k'
      by_cases e : k' = ⟨d, t⟩
      · subst e; rw [alloc_eq, get_set_same]; exact Nat.le_succ_of_le (tr.vers _)
      · rw [alloc_eq, get_set_other _ _ e]; exact tr.vers k'
    · intro k' h1 h2
      by_cases e : k' = ⟨d, t⟩
      · subst e
        rw [alloc_eq, get_set_same] at h1
        have := tr.vers ⟨d, t⟩
        simp only at h1; omega
      · rw [alloc_eq, get_set_other _ _ e] at h1 h2
        obtain ⟨g1, g2⟩ := tr.same k' h1 h2
        exact ⟨g1, (kset_other _ _ e).trans g2⟩
  · intro b
    rw [inv.own b]
    constructor
    · rintro ⟨⟨q, h1, h2⟩, h3⟩
      refine ⟨q, (hp q).2 ⟨h1, ?_⟩, h2⟩
      intro e; rw [e] at h2; exact h3 h2.symm
    · rintro ⟨q, h1, h2⟩
      obtain ⟨h1, h4⟩ := (hp q).1 h1
      exact ⟨⟨q, h1, h2⟩, fun e => h4 (inv.inj q F h1 hpF (by rw [h2, e]))⟩
  · exact fun q q' h1 h2 => inv.inj q q' ((hp q).1 h1).1 ((hp q').1 h2).1
  · exact fun q h1 => inv.fresh q ((hp q).1 h1).1
  · intro q x t' h1 h2 h3
    obtain ⟨cs', us', Ty', r1, r2, r3, r4⟩ := inv.pend q x t' ((hp q).1 h1).1 h2 h3
    refine ⟨cs', us', Ty', r1, r2, ?_, r4⟩
    rw [hh]
    intro j c hj
    obtain ⟨e1, u, e2, e3⟩ := r3 j c hj
    exact ⟨e1, u, e2, q2 _ _ e3⟩

/-- The front goes on over what is done. -/
theorem inc (hT : ∀ q ao, l[q]? = some ao → stepO cf d ao (T q) = some (T (q + 1))) (hf : Fit P n ops l o p bef kind) (hm : ∀ b, M0 b → b < w0.heap.size) : ∀ (m F : Nat) (κ : Kap) (env : Nat → AV) (S : Nat → Prop), Inv n ops l o bef kind T d M0 κ0 w0 listed F κ env a w S B → F + m ≤ ops.size →
    (∀ q, F ≤ q → q < F + m → kind q = 0 ∨ (kind q = 1 ∧ Done o listed q)) → ∃ κ' env' S', Inv n ops l o bef kind T d M0 κ0 w0 listed (F + m) κ' env' a w S' B := by
  intro m
  induction m with
  | zero => intro F κ env S inv _ _; exact ⟨κ, env, S, inv⟩
  | succ m ih =>
    intro F κ env S inv hle hk
    have e : F + (m + 1) = F + 1 + m := by omega
    rw [e]
    rcases hk F (Nat.le_refl _) (by omega) with h | ⟨h1, h2⟩
    · exact ih (F + 1) κ env S (inc0 hT hf inv (by omega) h) (by omega) (fun q q1 q2 => hk q (by omega) (by omega))
    · obtain ⟨κ', env', S', inv'⟩ := inc1 hf hm inv (by omega) h1 h2
      exact ih (F + 1) κ' env' S' inv' (by omega) (fun q q1 q2 => hk q (by omega) (by omega))
end
end Go.Va
end
section
namespace Go.Va

section
variable {P : Program} {n : Nat} {ops : Array Oper} {l : List AOper} {o p : Nat → Nat} {bef : Nat → Nat → Prop} {kind : Nat → Nat} {T : Nat → St} {cf : CallFn} {d : Nat} {M0 : Nat → Prop} {κ0 : Kap} {w0 : World}
variable {listed : Array Bool} {F : Nat} {κ : Kap} {env : Nat → AV} {a : Act} {w : World} {S : Nat → Prop} {B : Nat → Nat} {Q : Exit → Act → World → Prop} {K : Act → World → Prop}

theorem cl_set (hf : Fit P n ops l o p bef kind) (inv : Inv n ops l o bef kind T d M0 κ0 w0 listed F κ env a w S B) {q : Nat} (hq : q < ops.size) (hrd : ∀ i, i < ops.size → bef i q → Done o listed i) :
    ∀ i q', i < ops.size → q' < ops.size → Done o (listed.setIfInBounds (o q) true) q' → bef i q' → Done o (listed.setIfInBounds (o q) true) i := by
  intro i q' hi hq' hd hb
  rw [done_set hf inv.lsize hq hi]
  rcases (done_set hf inv.lsize hq hq').1 hd with h | h
  · exact .inl (inv.cl i q' hi hq' h hb)
  · subst h; exact .inl (hrd i hi hb)

/-- A slot that another operation writes. -/
theorem other_dst (hf : Fit P n ops l o p bef kind) {q q' : Nat} {ao x : AOper} {t t' : Nat} (hq : l[q]? = some ao) (hq' : l[q']? = some x) (ht : ao.dst = some t) (ht' : x.dst = some t') (hne : q' ≠ q) : t' ≠ t := by
  intro e
  subst e
  rcases (hf.c5 q q' ao x t' (lt_of_get hf hq) (lt_of_get hf hq') hq hq' ht).1 with h | h
  · exact hne h.symm
  · exact h ht'

theorem put_tmps {a : Act} {dst : Option Nat} {u : Value} {t : Nat} (ht : dst ≠ some t) : (a.put dst u).tmps.getD t undef = a.tmps.getD t undef := by
  cases dst with
  | none => rfl
  | some e =>
    have : e ≠ t := fun h => ht (by rw [h])
    simp [Act.put, Array.getD_eq_getD_getElem?, Array.getElem?_setIfInBounds, this]

/-- What is behind an operation that leaves the table ags it is. -/
theorem put0 (hf : Fit P n ops l o p bef kind) (inv : Inv n ops l o bef kind T d M0 κ0 w0 listed F κ env a w S B) {q : Nat} {ao : AOper} (hq : l[q]? = some ao) (hnd : ¬ Done o listed q) (hrd : ∀ i, i < ops.size → bef i q → Done o listed i) (hk : kind q = 0)
    {v : AV} {u : Value} (hv : V κ (T F).h w (Mx κ (T F).h (fun b => M0 b ∨ S b)) v u) (hT1 : ∀ t, ao.dst = some t → (T (q + 1)).env t = v) (hd : ∀ t, ao.dst = some t → t < n) :
    ∃ env', Inv n ops l o bef kind T d M0 κ0 w0 (listed.setIfInBounds (o q) true) F κ env' (a.put ao.dst u) w S B := by
  have hqN := lt_of_get hf hq
  have ds : ∀ {q'}, q' < ops.size → (Done o (listed.setIfInBounds (o q) true) q' ↔ Done o listed q' ∨ q' = q) := fun h => done_set hf inv.lsize hqN h
  have hp : ∀ q', Pend ops.size o kind (listed.setIfInBounds (o q) true) F q' ↔ Pend ops.size o kind listed F q' := by
    intro q'
    constructor
    · rintro ⟨h1, h2, h3, h4⟩
      rcases (ds h1).1 h2 with h | h
      · exact ⟨h1, h, h3, h4⟩
      · rw [h] at h3; omega
    · rintro ⟨h1, h2, h3, h4⟩; exact ⟨h1, (ds h1).2 (.inl h2), h3, h4⟩
  have he : (St.put ⟨env, (T F).h⟩ ao.dst v).h = (T F).h := put_h
  refine ⟨(St.put ⟨env, (T F).h⟩ ao.dst v).env, by simp [inv.lsize], cl_set hf inv hqN hrd, inv.Fle, ?_, ?_, ?_, ?_, ?_, inv.tr, ?_, ?_, ?_, ?_⟩
  · intro q' hq' hk'
    rw [ds hq', ← inv.mains q' hq' hk']
    constructor
    · rintro (h | h)
      · exact h
      · rw [h] at hk'; omega
    · exact .inl
  · intro q' hlt hk'
    have := inv.Fle
    exact (ds (by omega)).2 (.inl (inv.news q' hlt hk'))
  · intro q' x t h1 h2 h3
    rcases (ds (lt_of_get hf h1)).1 h2 with h | h
    · have hne : q' ≠ q := fun e => hnd (e ▸ h)
      have : ao.dst ≠ some t := fun e => other_dst hf hq h1 e h3 hne rfl
      rw [put_env this]
      exact inv.env1 q' x t h1 h h3
    · rw [h] at h1 ⊢
      rw [hq] at h1; cases h1
      rw [h3, put_at, if_neg (by omega)]
      exact (hT1 t h3).symm
  · intro t h1
    have hno : ao.dst ≠ some t := h1 q ao hq ((ds hqN).2 (.inr rfl))
    rw [put_env hno]
    exact inv.env0 t (fun q' x g1 g2 => h1 q' x g1 ((ds (lt_of_get hf g1)).2 (.inl g2)))
  · have := SRel.put (dst := ao.dst) inv.rel.hp inv.rel.env inv.rel.size inv.rel.defers hv hd
    have e : (⟨(St.put ⟨env, (T F).h⟩ ao.dst v).env, (T F).h⟩ : St) = St.put ⟨env, (T F).h⟩ ao.dst v := by cases ao.dst <;> rfl
    rw [e]; exact this
  · intro b; rw [inv.own b]
    constructor
    · rintro ⟨q', h1, h2⟩; exact ⟨q', (hp q').2 h1, h2⟩
    · rintro ⟨q', h1, h2⟩; exact ⟨q', (hp q').1 h1, h2⟩
  · exact fun q1 q2 h1 h2 => inv.inj q1 q2 ((hp q1).1 h1) ((hp q2).1 h2)
  · exact fun q1 h1 => inv.fresh q1 ((hp q1).1 h1)
  · intro q' x t h1 h2 h3
    have h1' := (hp q').1 h1
    have hne : q' ≠ q := fun e => hnd (e ▸ h1'.2.1)
    have : ao.dst ≠ some t := fun e => other_dst hf hq h2 e h3 hne rfl
    rw [put_tmps this]
    exact inv.pend q' x t h1' h2 h3

/-- Where no operation has an effect the table stays. -/
theorem T_h (hT : ∀ q ao, l[q]? = some ao → stepO cf d ao (T q) = some (T (q + 1))) (hf : Fit P n ops l o p bef kind) {i m : Nat} (him : i ≤ m) (hm : m ≤ ops.size) (hk : ∀ j, i ≤ j → j < m → kind j = 0) : (T m).h = (T i).h := by
  obtain ⟨c, rfl⟩ := Nat.exists_eq_add_of_le him
  induction c with
  | zero => rfl
  | succ c ih =>
    have hlt : i + c < l.length := by have := hf.len; omega
    have hg : l[i + c]? = some (l[i + c]'hlt) := List.getElem?_eq_getElem hlt
    rw [show i + (c + 1) = i + c + 1 from rfl, stepO_h (hT (i + c) _ hg) (hf.k0 (i + c) _ hg (hk (i + c) (by omega) (by omega)))]
    exact ih (by omega) (by omega) (fun j h1 h2 => hk j h1 (by omega))

/-- An operation that only looks. -/
theorem exec0 (hcf : CallsOK P cf) (hf : Fit P n ops l o p bef kind) (hT : ∀ q ao, l[q]? = some ao → stepO cf d ao (T q) = some (T (q + 1))) (hun : ∀ q ao, l[q]? = some ao → ∀ G ∈ ao.un, G ≤ ops.size → sameAt ao (T q) (T G).h = true)
    (inv : Inv n ops l o bef kind T d M0 κ0 w0 listed F κ env a w S B) (hfront : F = 0 ∨ kind (F - 1) = 2)
    {q : Nat} {oo : Oper} {ao a0 : AOper} (ho : ops[o q]? = some oo) (hq : l[q]? = some ao) (hc : compOper P ops oo = some a0) (hdk : dstOK n a0 = true) (e1 : ao.dst = a0.dst) (e2 : ao.op = a0.op) (e3 : ao.guard = a0.guard)
    (hnd : ¬ Done o listed q) (hrd : ∀ i, i < ops.size → bef i q → Done o listed i) (hk : kind q = 0)
    (hK : ∀ env' a', Inv n ops l o bef kind T d M0 κ0 w0 (listed.setIfInBounds (o q) true) F κ env' a' w S B → K a' w) :
    if Region.wanted oo (yielded ops a.tmps) then oo.wp P a w K Q ∨ (oo.asks P a w ∧ LetsOut Q) else K (a.put oo.dst undef) w := by
  obtain ⟨c1, c2⟩ := compOper_spec hc
  have hqN := lt_of_get hf hq
  have hlk := look_eq hf hT inv hq hnd hrd (by omega)
  have hst := hT q ao hq
  unfold stepO at hst
  simp only [Option.bind_eq_some_iff] at hst
  obtain ⟨b, hb, hst⟩ := hst
  have hwe : wants env a0.guard = some b := by
    rw [← e3, ← hb]
    exact wants_eq (fun t b' hg => hlk t (by simp [looks, hg]))
  rw [wanted_rel inv.rel.env hc hwe]
  have hdn : ∀ t, ao.dst = some t → t < n := by rw [e1]; exact dstOK_spec hdk
  have hdo : oo.dst = ao.dst := by rw [e1, c1]
  cases b with
  | true =>
    simp only [if_true, Option.map_eq_some_iff] at hst ⊢
    obtain ⟨⟨v, h'⟩, hev, hst⟩ := hst
    have hw := hf.k0 q ao hq hk
    rw [evOp_pure hw] at hev
    simp only [Option.map_eq_some_iff] at hev
    obtain ⟨v', hp, e⟩ := hev
    cases e
    have hpF : pureOp (T q).env (T F).h ao.op = some v := by
      cases hr : hR ao.op with
      | false => rw [← hp]; exact pureOp_noheap hr
      | true =>
        have hmem := hf.un q ao hq hr hw F inv.Fle hfront (fun e he hke => ⟨fun hb' => (inv.mains e he hke).1 (hrd e he hb'), fun hlt hb' => hnd (inv.cl q e hqN he ((inv.mains e he hke).2 hlt) hb')⟩)
        rcases hmem with hmem | hmem
        · exact sameAt_eq (hun q ao hq F hmem inv.Fle) hb hp
        · have : (T F).h = (T q).h := by
            rcases Nat.le_total F q with hle | hle
            · rw [Nat.min_eq_left hle, Nat.max_eq_right hle] at hmem
              exact (T_h hT hf hle (Nat.le_of_lt hqN) hmem).symm
            · rw [Nat.min_eq_right hle, Nat.max_eq_left hle] at hmem
              exact T_h hT hf hle inv.Fle hmem
          rw [this]; exact hp
    have hpe : pureOp env (T F).h a0.op = some v := by
      rw [← e2, ← hpF]
      exact pureOp_eq (fun t ht => hlk t (by simp [looks, ht]))
    obtain ⟨u, r1, r2⟩ := pure_rel inv.rel.hp inv.rel.env c2 hpe
    refine .inl ?_
    unfold Oper.wp
    rw [r1]
    show K (a.put oo.dst u) w
    obtain ⟨env', hi⟩ := put0 hf inv hq hnd hrd hk r2 (fun t ht => by rw [← hst, ht, put_at]) hdn
    rw [hdo]
    exact hK env' _ hi
  | false =>
    simp only [Bool.false_eq_true, if_false, Option.some.injEq] at hst ⊢
    obtain ⟨env', hi⟩ := put0 hf inv hq hnd hrd hk (v := .undef) (u := undef) V.undef (fun t ht => by rw [← hst, ht, put_at]) hdn
    rw [hdo]
    exact hK env' _ hi

/-- A new block, made at any time. -/
theorem exec1 (hf : Fit P n ops l o p bef kind) (hT : ∀ q ao, l[q]? = some ao → stepO cf d ao (T q) = some (T (q + 1)))
    (inv : Inv n ops l o bef kind T d M0 κ0 w0 listed F κ env a w S B)
    {q : Nat} {oo : Oper} {ao a0 : AOper} (hq : l[q]? = some ao) (hc : compOper P ops oo = some a0) (hdk : dstOK n a0 = true) (e1 : ao.dst = a0.dst) (e2 : ao.op = a0.op) (e3 : ao.guard = a0.guard)
    (hnd : ¬ Done o listed q) (hrd : ∀ i, i < ops.size → bef i q → Done o listed i) (hk : kind q = 1)
    (hK : ∀ env' a' w' S' B', Inv n ops l o bef kind T d M0 κ0 w0 (listed.setIfInBounds (o q) true) F κ env' a' w' S' B' → K a' w') :
    if Region.wanted oo (yielded ops a.tmps) then oo.wp P a w K Q ∨ (oo.asks P a w ∧ LetsOut Q) else K (a.put oo.dst undef) w := by
  obtain ⟨c1, c2⟩ := compOper_spec hc
  have hqN := lt_of_get hf hq
  have hlk := look_eq hf hT inv hq hnd hrd (by omega)
  obtain ⟨k1, k2, t, k3⟩ := hf.k1 q ao hq hk
  have hFq : F ≤ q := by
    rcases Nat.lt_or_ge q F with h | h
    · exact absurd (inv.news q h hk) hnd
    · exact h
  have hst := hT q ao hq
  unfold stepO at hst
  simp only [Option.bind_eq_some_iff] at hst
  obtain ⟨b, hb, hst⟩ := hst
  rw [k2] at hb
  simp only [wants, Option.some.injEq] at hb
  subst hb
  simp only [if_true, Option.map_eq_some_iff] at hst
  obtain ⟨⟨v, h'⟩, hev, hst⟩ := hst
  have hwe : wants env a0.guard = some true := by rw [← e3, k2]; rfl
  rw [wanted_rel inv.rel.env hc hwe]
  simp only [if_true]
  rw [k3, e2] at hev
  obtain ⟨cs, hh', hrun⟩ := new_run c2 (by rw [← e2]; exact k1) hev
  obtain ⟨us, Ty, rv, r1, r2, r3⟩ := hrun κ (T F).h w _ env a inv.rel.hp inv.rel.env (fun t ht => by rw [← e2] at ht; exact hlk t (by simp [looks, ht]))
  refine .inl ?_
  unfold Oper.wp
  rw [r1]
  show K (a.put oo.dst rv) (w.alloc (.cells us Ty))
  have hdo : oo.dst = some t := by rw [← c1, ← e1, k3]
  have htn : t < n := dstOK_spec hdk t (by rw [← e1, k3])
  rw [hdo]
  have ds : ∀ {q'}, q' < ops.size → (Done o (listed.setIfInBounds (o q) true) q' ↔ Done o listed q' ∨ q' = q) := fun h => done_set hf inv.lsize hqN h
  have hp : ∀ q', Pend ops.size o kind (listed.setIfInBounds (o q) true) F q' ↔ Pend ops.size o kind listed F q' ∨ q' = q := by
    intro q'
    constructor
    · rintro ⟨h1, h2, h3, h4⟩
      rcases (ds h1).1 h2 with h | h
      · exact .inl ⟨h1, h, h3, h4⟩
      · exact .inr h
    · rintro (⟨h1, h2, h3, h4⟩ | h)
      · exact ⟨h1, (ds h1).2 (.inl h2), h3, h4⟩
      · subst h; exact ⟨hqN, (ds hqN).2 (.inr rfl), hk, hFq⟩
  have hblt : ∀ q', Pend ops.size o kind listed F q' → B q' < w.heap.size := fun q' h => inv.rel.hp.m0lt _ (.inr ((inv.own _).2 ⟨q', h, rfl⟩))
  obtain ⟨s1, s2, s3⟩ := aside (M' := fun b => M0 b ∨ (S b ∨ b = w.heap.size)) inv.rel.hp (.cells us Ty) (fun x => ⟨fun h => h.elim (fun h => .inl (.inl h)) (fun h => h.elim (fun h => .inl (.inr h)) .inr), fun h => h.elim (fun h => h.elim .inl (fun h => .inr (.inl h))) (fun h => .inr (.inr h))⟩)
  have gr := Grew.alloc w (.cells us Ty (0, 0))
  refine hK (fun i => if i = t then .opq else env i) _ _ (fun b => S b ∨ b = w.heap.size) (fun q' => if q' = q then w.heap.size else B q') ⟨by simp [inv.lsize], cl_set hf inv hqN hrd, inv.Fle, ?_, ?_, ?_, ?_, ⟨s1, ?_, by simp [Act.put, inv.rel.size], inv.rel.defers⟩, inv.tr.trans s2, ?_, ?_, ?_, ?_⟩
  · intro q' hq' hk'
    rw [ds hq', ← inv.mains q' hq' hk']
    constructor
    · rintro (h | h)
      · exact h
      · rw [h] at hk'; omega
    · exact .inl
  · intro q' hlt hk'
    have := inv.Fle
    exact (ds (by omega)).2 (.inl (inv.news q' hlt hk'))
  · intro q' x t' h1 h2 h3
    rcases (ds (lt_of_get hf h1)).1 h2 with h | h
    · have hne : q' ≠ q := fun e => hnd (e ▸ h)
      have := other_dst hf hq h1 k3 h3 hne
      simp only [if_neg this]
      exact inv.env1 q' x t' h1 h h3
    · rw [h] at h1 ⊢
      rw [hq] at h1; cases h1
      rw [k3] at h3; cases h3
      simp only [if_true]
      rw [if_pos ⟨hk, hFq⟩]
  · intro t' h1
    have hno : t' ≠ t := fun e => h1 q ao hq ((ds hqN).2 (.inr rfl)) (e ▸ k3)
    simp only [if_neg hno]
    exact inv.env0 t' (fun q' x g1 g2 => h1 q' x g1 ((ds (lt_of_get hf g1)).2 (.inl g2)))
  · exact EnvRel.put (inv.rel.env.keeps s2 s3) (.opq rv) (by rw [inv.rel.size]; exact htn)
  · intro b
    constructor
    · rintro (h | h)
      · obtain ⟨q', h1, h2⟩ := (inv.own b).1 h
        have hne : q' ≠ q := fun e => hnd (e ▸ h1.2.1)
        exact ⟨q', (hp q').2 (.inl h1), by rw [if_neg hne]; exact h2⟩
      · exact ⟨q, (hp q).2 (.inr rfl), by rw [if_pos rfl]; exact h.symm⟩
    · rintro ⟨q', h1, h2⟩
      rcases (hp q').1 h1 with h | h
      · have hne : q' ≠ q := fun e => hnd (e ▸ h.2.1)
        rw [if_neg hne] at h2
        exact .inl ((inv.own b).2 ⟨q', h, h2⟩)
      · rw [if_pos h] at h2; exact .inr h2.symm
  · intro q1 q2 h1 h2 h3
    rcases (hp q1).1 h1 with g1 | g1 <;> rcases (hp q2).1 h2 with g2 | g2
    · have n1 : q1 ≠ q := fun e => hnd (e ▸ g1.2.1)
      have n2 : q2 ≠ q := fun e => hnd (e ▸ g2.2.1)
      rw [if_neg n1, if_neg n2] at h3
      exact inv.inj q1 q2 g1 g2 h3
    · have n1 : q1 ≠ q := fun e => hnd (e ▸ g1.2.1)
      rw [if_neg n1, if_pos g2] at h3
      have := hblt q1 g1; omega
    · have n2 : q2 ≠ q := fun e => hnd (e ▸ g2.2.1)
      rw [if_pos g1, if_neg n2] at h3
      have := hblt q2 g2; omega
    · rw [g1, g2]
  · intro q' h1
    rcases (hp q').1 h1 with h | h
    · have hne : q' ≠ q := fun e => hnd (e ▸ h.2.1)
      rw [if_neg hne]; exact inv.fresh q' h
    · rw [if_pos h]; exact inv.tr.size
  · intro q' x t' h1 h2 h3
    rcases (hp q').1 h1 with h | h
    · have hne : q' ≠ q := fun e => hnd (e ▸ h.2.1)
      have hot := other_dst hf hq h2 k3 h3 hne
      obtain ⟨cs', us', Ty', g1, g2, g3, g4⟩ := inv.pend q' x t' h h2 h3
      rw [if_neg hne, put_tmps (by intro e; cases e; exact hot rfl)]
      refine ⟨cs', us', Ty', g1, by rw [gr.old _ (hblt q' h)]; exact g2, ?_, g4⟩
      exact g3.keeps s2 s3
    · subst h
      rw [hq] at h2; cases h2
      rw [k3] at h3; cases h3
      rw [if_pos rfl]
      have ht1 : (T (q' + 1)).h = h' := by rw [← hst, put_h]
      refine ⟨cs, us, Ty, by rw [ht1, hh'], gr.new, r2.keeps s2 s3, ?_⟩
      intro κ2 h2 w2 M2 f1 f2 f3
      have hv : (T (q' + 1)).env t = v := by rw [← hst, k3, put_at]
      have hrv : (a.put (some t) rv).tmps.getD t undef = rv := by
        have : t < a.tmps.size := by rw [inv.rel.size]; exact htn
        simp [Act.put, Array.getD_eq_getD_getElem?, Array.getElem?_setIfInBounds, this]
      rw [hv, hrv]
      exact r3 κ2 h2 w2 M2 f1 f2 f3

/-- An effect, when the front stands at it. -/
theorem exec2 (hcf : CallsOK P cf) (hf : Fit P n ops l o p bef kind) (hT : ∀ q ao, l[q]? = some ao → stepO cf d ao (T q) = some (T (q + 1)))
    {q : Nat} (inv : Inv n ops l o bef kind T d M0 κ0 w0 listed q κ env a w S B)
    {oo : Oper} {ao a0 : AOper} (hq : l[q]? = some ao) (hc : compOper P ops oo = some a0) (hdk : dstOK n a0 = true) (e1 : ao.dst = a0.dst) (e2 : ao.op = a0.op) (e3 : ao.guard = a0.guard)
    (hnd : ¬ Done o listed q) (hrd : ∀ i, i < ops.size → bef i q → Done o listed i) (hk : kind q = 2)
    (hK : ∀ κ' env' a' w', Inv n ops l o bef kind T d M0 κ0 w0 (listed.setIfInBounds (o q) true) (q + 1) κ' env' a' w' S B → K a' w') :
    if Region.wanted oo (yielded ops a.tmps) then oo.wp P a w K Q ∨ (oo.asks P a w ∧ LetsOut Q) else K (a.put oo.dst undef) w := by
  obtain ⟨c1, c2⟩ := compOper_spec hc
  have hqN := lt_of_get hf hq
  have hlk := look_eq hf hT inv hq hnd hrd (fun _ => rfl)
  have ds : ∀ {q'}, q' < ops.size → (Done o (listed.setIfInBounds (o q) true) q' ↔ Done o listed q' ∨ q' = q) := fun h => done_set hf inv.lsize hqN h
  have hdo : oo.dst = ao.dst := by rw [e1, c1]
  have hdn : ∀ t, ao.dst = some t → t < n := by rw [e1]; exact dstOK_spec hdk
  have hp : ∀ q', Pend ops.size o kind (listed.setIfInBounds (o q) true) (q + 1) q' ↔ Pend ops.size o kind listed q q' := by
    intro q'
    constructor
    · rintro ⟨h1, h2, h3, h4⟩
      rcases (ds h1).1 h2 with h | h
      · exact ⟨h1, h, h3, by omega⟩
      · omega
    · rintro ⟨h1, h2, h3, h4⟩
      refine ⟨h1, (ds h1).2 (.inl h2), h3, ?_⟩
      rcases Nat.lt_or_ge q q' with h | h
      · exact h
      · have : q' = q := by omega
        rw [this] at h3; omega
  -- what is owed behind it
  have fin : ∀ κ' w' v u, RelH κ' (T (q + 1)).h w' (fun b => M0 b ∨ S b) → Trans κ (T q).h w κ' (T (q + 1)).h w' → V κ' (T (q + 1)).h w' (Mx κ' (T (q + 1)).h (fun b => M0 b ∨ S b)) v u → (∀ t, ao.dst = some t → (T (q + 1)).env t = v) → K (a.put oo.dst u) w' := by
    intro κ' w' v u hr ht hv hT1
    have hkp := ht.keeps _ inv.rel.hp.m0lt
    refine hK κ' (St.put ⟨env, (T (q + 1)).h⟩ ao.dst v).env _ w' ⟨by simp [inv.lsize], cl_set hf inv hqN hrd, hqN, ?_, ?_, ?_, ?_, ?_, inv.tr.trans ht, ?_, ?_, ?_, ?_⟩
    · intro q' hq' hk'
      rw [ds hq', inv.mains q' hq' hk']
      omega
    · intro q' hlt hk'
      refine (ds (by omega)).2 (.inl (inv.news q' ?_ hk'))
      rcases Nat.lt_or_ge q' q with h | h
      · exact h
      · have : q' = q := by omega
        rw [this] at hk'; omega
    · intro q' x t h1 h2 h3
      rcases (ds (lt_of_get hf h1)).1 h2 with h | h
      · have hne : q' ≠ q := fun e => hnd (e ▸ h)
        have : ao.dst ≠ some t := fun e => other_dst hf hq h1 e h3 hne rfl
        rw [put_env this]
        rw [show (St.env ⟨env, (T (q + 1)).h⟩ t) = env t from rfl, inv.env1 q' x t h1 h h3]
        by_cases hc' : kind q' = 1 ∧ q ≤ q'
        · rw [if_pos hc', if_pos ⟨hc'.1, by omega⟩]
        · rw [if_neg hc', if_neg (fun h' => hc' ⟨h'.1, by omega⟩)]
      · rw [h] at h1 ⊢
        rw [hq] at h1; cases h1
        rw [h3, put_at, if_neg (by omega)]
        exact (hT1 t h3).symm
    · intro t h1
      have hno : ao.dst ≠ some t := h1 q ao hq ((ds hqN).2 (.inr rfl))
      rw [put_env hno]
      exact inv.env0 t (fun q' x g1 g2 => h1 q' x g1 ((ds (lt_of_get hf g1)).2 (.inl g2)))
    · have := SRel.put (dst := ao.dst) (s := ⟨env, (T q).h⟩) hr (inv.rel.env.keeps ht hkp) inv.rel.size inv.rel.defers hv hdn
      have e : (⟨(St.put ⟨env, (T (q + 1)).h⟩ ao.dst v).env, (T (q + 1)).h⟩ : St) = St.put ⟨env, (T (q + 1)).h⟩ ao.dst v := by cases ao.dst <;> rfl
      rw [e, hdo]; exact this
    · intro b; rw [inv.own b]
      constructor
      · rintro ⟨q', h1, h2⟩; exact ⟨q', (hp q').2 h1, h2⟩
      · rintro ⟨q', h1, h2⟩; exact ⟨q', (hp q').1 h1, h2⟩
    · exact fun q1 q2 h1 h2 => inv.inj q1 q2 ((hp q1).1 h1) ((hp q2).1 h2)
    · exact fun q1 h1 => inv.fresh q1 ((hp q1).1 h1)
    · intro q' x t h1 h2 h3
      have h1' := (hp q').1 h1
      have hne : q' ≠ q := fun e => hnd (e ▸ h1'.2.1)
      have hd' : oo.dst ≠ some t := fun e => other_dst hf hq h2 (hdo ▸ e) h3 hne rfl
      rw [put_tmps hd']
      obtain ⟨cs, us, Ty, g1, g2, g3, g4⟩ := inv.pend q' x t h1' h2 h3
      have hS : S (B q') := (inv.own _).2 ⟨q', h1', rfl⟩
      refine ⟨cs, us, Ty, g1, ?_, g3.keeps ht hkp, g4⟩
      rw [ht.frame (B q') (inv.rel.hp.m0lt _ (.inr hS)) (fun ⟨k', m1, _, m3⟩ => inv.rel.hp.m0 k' _ m1 m3 (.inr hS))]
      exact g2
  have hst := hT q ao hq
  unfold stepO at hst
  simp only [Option.bind_eq_some_iff] at hst
  obtain ⟨b, hb, hst⟩ := hst
  have hwe : wants env a0.guard = some b := by
    rw [← e3, ← hb]
    exact wants_eq (fun t b' hg => hlk t (by simp [looks, hg]))
  rw [wanted_rel inv.rel.env hc hwe]
  cases b with
  | true =>
    simp only [if_true, Option.map_eq_some_iff] at hst ⊢
    obtain ⟨⟨v, h'⟩, hev, hst⟩ := hst
    have hh' : (T (q + 1)).h = h' := by rw [← hst, put_h]
    have hev' : evOp cf d oo.dst a0.op env (T q).h = some (v, h') := by
      rw [← hev, ← e2, hdo]
      exact evOp_eq (fun t ht => hlk t (by simp [looks, ht]))
    refine .inl (op_wp hcf inv.rel.hp inv.rel.env c2 hev' ?_)
    intro κ' w' u q1 q2 q3
    rw [← hh'] at q1 q2 q3
    exact fin κ' w' v u q1 q2 q3 (fun t ht => by rw [← hst, ht, put_at])
  | false =>
    simp only [Bool.false_eq_true, if_false, Option.some.injEq] at hst ⊢
    have hh' : (T (q + 1)).h = (T q).h := by rw [← hst, put_h]
    refine fin κ w .undef undef (by rw [hh']; exact inv.rel.hp) (by rw [hh']; exact Trans.refl _ _ _) V.undef (fun t ht => by rw [← hst, ht, put_at])
end
end Go.Va
end
section
namespace Go.Va

theorem filter_less {f g : Nat → Bool} {i : Nat} (hf : f i = true) (hg : g i = false) (ho : ∀ j, j ≠ i → g j = f j) : ∀ {L : List Nat}, L.Nodup → i ∈ L → (L.filter f).length = (L.filter g).length + 1
  | [], _, h => by simp at h
  | x :: L, hn, h => by
    have hn' := List.nodup_cons.1 hn
    by_cases e : x = i
    · subst e
      have same : ∀ {L : List Nat}, x ∉ L → L.filter g = L.filter f := by
        intro L hL
        apply List.filter_congr
        intro j hj
        exact ho j (fun e => hL (e ▸ hj))
      rw [List.filter_cons_of_pos hf, List.filter_cons_of_neg (by simp [hg]), same hn'.1]
      simp
    · have hm : i ∈ L := by
        simp at h
        rcases h with h | h
        · exact absurd h.symm e
        · exact h
      have ih := filter_less hf hg ho hn'.2 hm
      simp only [List.filter_cons, ho x e]
      split <;> simp [ih]

section
variable {P : Program} {n : Nat} {ops : Array Oper} {l : List AOper} {o p : Nat → Nat} {bef : Nat → Nat → Prop} {kind : Nat → Nat} {T : Nat → St} {cf : CallFn} {d : Nat} {M0 : Nat → Prop} {κ0 : Kap} {w0 : World} {Q : Exit → Act → World → Prop}

def left (N : Nat) (listed : Array Bool) : Nat := ((List.range N).filter fun i => !listed.getD i true).length

theorem left_set {N i : Nat} {listed : Array Bool} (hi : i < N) (hs : listed.size = N) (hl : listed.getD i false = false) : left N listed = left N (listed.setIfInBounds i true) + 1 := by
  unfold left
  have hl' : listed[i]? = some false := by
    rw [Array.getD_eq_getD_getElem?] at hl
    have : i < listed.size := by omega
    rw [Array.getElem?_eq_getElem this] at hl ⊢
    simp at hl; simp [hl]
  refine filter_less (i := i) ?_ ?_ ?_ List.nodup_range (List.mem_range.2 hi)
  · simp [Array.getD_eq_getD_getElem?, hl']
  · have : i < listed.size := by omega
    simp [Array.getD_eq_getD_getElem?, Array.getElem?_setIfInBounds, this]
  · intro j hj
    have : i ≠ j := fun e => hj e.symm
    simp [Array.getD_eq_getD_getElem?, Array.getElem?_setIfInBounds, this]

theorem finish (hf : Fit P n ops l o p bef kind) (hT : ∀ q ao, l[q]? = some ao → stepO cf d ao (T q) = some (T (q + 1))) (hm : ∀ b, M0 b → b < w0.heap.size)
    (hQ : ∀ κ' a' w', SRel n κ' (T ops.size) a' w' M0 → Trans κ0 (T 0).h w0 κ' (T ops.size).h w' → Q .normal a' w')
    {listed : Array Bool} {F : Nat} {κ : Kap} {env : Nat → AV} {a : Act} {w : World} {S : Nat → Prop} {B : Nat → Nat}
    (inv : Inv n ops l o bef kind T d M0 κ0 w0 listed F κ env a w S B) (hall : ∀ q, q < ops.size → Done o listed q) : Q .normal a w := by
  have hle := inv.Fle
  obtain ⟨κ', env', S', inv'⟩ := inc hT hf hm (ops.size - F) F κ env S inv (by omega) (fun q h1 h2 => by
    rcases hf.k2 q (by omega) with h | h | h
    · exact .inl h
    · exact .inr ⟨h, hall q (by omega)⟩
    · have := (inv.mains q (by omega) h).1 (hall q (by omega)); omega)
  have e : F + (ops.size - F) = ops.size := by omega
  rw [e] at inv'
  have hS : (fun b => M0 b ∨ S' b) = M0 := by
    funext b
    apply propext
    constructor
    · rintro (h | h)
      · exact h
      · obtain ⟨q, ⟨h1, _, _, h4⟩, _⟩ := (inv'.own b).1 h; omega
    · exact .inl
  have henv : env' = (T ops.size).env := by
    funext t
    by_cases hw : ∃ (j : Nat) (x : AOper), l[j]? = some x ∧ x.dst = some t
    · obtain ⟨j, x, hj, hx⟩ := hw
      have hjN := lt_of_get hf hj
      rw [inv'.env1 j x t hj (hall j hjN) hx, if_neg (by omega)]
      refine (T_env hT ops.size (by omega) (by have := hf.len; omega) ?_).symm
      intro j' x' h1 h2 h3 h4
      rcases (hf.c5 j j' x x' t hjN h2 hj h3 hx).1 with h | h
      · omega
      · exact h h4
    · rw [inv'.env0 t (fun q x h1 _ h3 => hw ⟨q, x, h1, h3⟩)]
      exact (T_env hT ops.size (by omega) (by have := hf.len; omega) (fun j' x' _ _ h3 h4 => hw ⟨j', x', h3, h4⟩)).symm
  have hr := inv'.rel
  rw [hS, henv] at hr
  exact hQ κ' a w hr inv'.tr

theorem any_wp (hcf : CallsOK P cf) (hf : Fit P n ops l o p bef kind) (hT : ∀ q ao, l[q]? = some ao → stepO cf d ao (T q) = some (T (q + 1))) (hun : ∀ q ao, l[q]? = some ao → ∀ G ∈ ao.un, G ≤ ops.size → sameAt ao (T q) (T G).h = true)
    (hm : ∀ b, M0 b → b < w0.heap.size) (hQ : ∀ κ' a' w', SRel n κ' (T ops.size) a' w' M0 → Trans κ0 (T 0).h w0 κ' (T ops.size).h w' → Q .normal a' w') :
    ∀ (fuel : Nat) (listed : Array Bool) (F : Nat) (κ : Kap) (env : Nat → AV) (a : Act) (w : World) (S : Nat → Prop) (B : Nat → Nat),
      Inv n ops l o bef kind T d M0 κ0 w0 listed F κ env a w S B → (F = 0 ∨ kind (F - 1) = 2) → left ops.size listed = fuel → wpAny P .any ops Q fuel listed a w := by
  intro fuel
  induction fuel with
  | zero =>
    intro listed F κ env a w S B inv hfr hl
    have hnil : (List.range ops.size).filter (fun i => !listed.getD i true) = [] := List.length_eq_zero_iff.1 hl
    have hall : ∀ i, i < ops.size → listed.getD i true = true := by
      intro i hi
      have := List.filter_eq_nil_iff.1 hnil i (List.mem_range.2 hi)
      simpa using this
    refine ⟨?_, finish hf hT hm hQ inv (fun q hq => ?_)⟩
    · unfold Region.ready
      rw [List.filter_eq_nil_iff]
      intro i hi
      rw [hall i (List.mem_range.1 hi)]
      simp
    · have h1 := hall (o q) (hf.po q hq).1
      unfold Done
      have : o q < listed.size := by rw [inv.lsize]; exact (hf.po q hq).1
      simp [Array.getD_eq_getD_getElem?, Array.getElem?_eq_getElem this] at h1 ⊢
      exact h1
  | succ fuel ih =>
    intro listed F κ env a w S B inv hfr hl
    have same : ∀ i, i < ops.size → listed.getD i true = listed.getD i false := by
      intro i hi
      have : i < listed.size := by rw [inv.lsize]; exact hi
      simp [Array.getD_eq_getD_getElem?, Array.getElem?_eq_getElem this]
    refine ⟨fun hnil => finish hf hT hm hQ inv ?_, ?_⟩
    · have key : ∀ m q, q < m → q < ops.size → Done o listed q := by
        intro m
        induction m with
        | zero => intro q h; omega
        | succ m ihm =>
          intro q hqm hq
          rcases Nat.lt_or_ge q m with h | h
          · exact ihm q h hq
          · have : q = m := by omega
            subst this
            obtain ⟨oo, ao, a0, ho, _, _⟩ := hf.get q hq
            by_cases hd : Done o listed q
            · exact hd
            · exfalso
              have hmem : o q ∈ Region.ready .any ops listed := by
                unfold Region.ready
                rw [List.mem_filter]
                refine ⟨List.mem_range.2 (hf.po q hq).1, ?_⟩
                rw [same _ (hf.po q hq).1]
                have : listed.getD (o q) false = false := by unfold Done at hd; simpa using hd
                rw [this, ho]
                simp only [Bool.not_false, Option.map_some, Option.getD_some, Bool.true_and, Array.all_eq_true_iff_forall_mem]
                intro e he
                cases hb : Region.binds .any e with
                | false => simp
                | true =>
                  obtain ⟨g1, g2⟩ := hf.edge q oo e hq ho (by simpa using he) hb
                  have g3 := hf.c1 _ _ (hf.op e.on g1).1 hq g2
                  have g4 := ihm _ g3 (hf.op e.on g1).1
                  unfold Done at g4
                  rw [(hf.op e.on g1).2] at g4
                  simp [g4]
              rw [hnil] at hmem
              cases hmem
      exact fun q hq => key ops.size q hq hq
    · intro i hi
      unfold Region.ready at hi
      rw [List.mem_filter] at hi
      obtain ⟨hiN, hi⟩ := hi
      have hiN := List.mem_range.1 hiN
      obtain ⟨hqN, hoq⟩ := hf.op i hiN
      generalize hpq : p i = q at hqN hoq
      subst hoq
      obtain ⟨oo, ao, a0, ho, hq, hc, hdk, e1, e2, e3⟩ := hf.get q hqN
      rw [same _ hiN, ho] at hi
      simp only [Option.map_some, Option.getD_some, Bool.and_eq_true, Bool.not_eq_true', Array.all_eq_true_iff_forall_mem] at hi
      obtain ⟨hi1, hi2⟩ := hi
      have hnd : ¬ Done o listed q := by unfold Done; rw [hi1]; simp
      have hed : ∀ e ∈ oo.after.toList, plainE e = true → listed.getD e.on false = true := by
        intro e he hb
        have := hi2 e (by simpa using he)
        have hb' : Region.binds .any e = true := hb
        simpa [hb'] using this
      have hrd : ∀ i', i' < ops.size → bef i' q → Done o listed i' := by
        intro i' hi' hb
        obtain ⟨e, h1, h2, h3, h4⟩ := hf.back i' q oo hi' hqN hb ho
        have h5 := hed e h1 h2
        rcases h4 with h4 | h4
        · unfold Done; rw [← h4]; exact h5
        · refine inv.cl i' (p e.on) hi' (hf.op e.on h3).1 ?_ h4
          unfold Done; rw [(hf.op e.on h3).2]; exact h5
      have hless := left_set (i := o q) hiN inv.lsize (by simpa using hi1)
      unfold wpOp
      rw [ho]
      simp only
      rcases hf.k2 q hqN with hk | hk | hk
      · exact exec0 hcf hf hT hun inv hfr ho hq hc hdk e1 e2 e3 hnd hrd hk (fun env' a' inv' => ih _ F κ env' a' w S B inv' hfr (by omega))
      · exact exec1 hf hT inv hq hc hdk e1 e2 e3 hnd hrd hk (fun env' a' w' S' B' inv' => ih _ F κ env' a' w' S' B' inv' hfr (by omega))
      · have hFq : F ≤ q := by
          rcases Nat.lt_or_ge q F with h | h
          · exact absurd ((inv.mains q hqN hk).2 h) hnd
          · exact h
        obtain ⟨κ', env', S', inv'⟩ := inc hT hf hm (q - F) F κ env S inv (by omega) (fun j h1 h2 => by
          rcases hf.k2 j (by omega) with h | h | h
          · exact .inl h
          · exact .inr ⟨h, hrd j (by omega) (hf.c3 j q (by omega) hqN h hk)⟩
          · have := (inv.mains j (by omega) h).1 (hrd j (by omega) (hf.c2 j q (by omega) hqN h hk)); omega)
        have e : F + (q - F) = q := by omega
        rw [e] at inv'
        exact exec2 hcf hf hT inv' hq hc hdk e1 e2 e3 hnd hrd hk (fun κ'' env'' a' w' inv'' => ih _ (q + 1) κ'' env'' a' w' S' B inv'' (.inr (by simpa using hk)) (by omega))

theorem draws_ok (hmix : P.follows .mixedOrders = true) (hcf : CallsOK P cf) (n d : Nat) : DrawsOK P n cf d := by
  intro id ops l ord hreg M0 κ s s' a w Q hs hev hQ
  obtain ⟨o, p, bef, kind, hf⟩ := reg_fit hreg
  unfold evDraw at hev
  simp only [Option.bind_eq_some_iff] at hev
  obtain ⟨tr, htr, hev⟩ := hev
  split at hev
  · rename_i hok
    obtain ⟨t1, t2, t3⟩ := trace_get htr
    have hlen := hf.len
    have hget : ∀ q, q ≤ ops.size → ∃ x, tr[q]? = some x ∧ tr.getD q s = x := by
      intro q hq
      have : q < tr.length := by omega
      exact ⟨tr[q], List.getElem?_eq_getElem this, by simp [List.getD_eq_getElem?_getD, List.getElem?_eq_getElem this]⟩
    have hT0 : tr.getD 0 s = s := by rw [List.getD_eq_getElem?_getD, t2]; rfl
    have hTN : tr.getD ops.size s = s' := by
      rw [List.getLast?_eq_getElem?] at hev
      rw [List.getD_eq_getElem?_getD]
      have : tr.length - 1 = ops.size := by omega
      rw [this] at hev
      rw [hev]; rfl
    have hT : ∀ q ao, l[q]? = some ao → stepO cf d ao (tr.getD q s) = some (tr.getD (q + 1) s) := by
      intro q ao h
      obtain ⟨s1, s2, g1, g2, g3⟩ := t3 q ao h
      rw [List.getD_eq_getElem?_getD, List.getD_eq_getElem?_getD, g1, g2]
      exact g3
    have hun : ∀ q ao, l[q]? = some ao → ∀ G ∈ ao.un, G ≤ ops.size → sameAt ao (tr.getD q s) (tr.getD G s).h = true := by
      intro q ao h G hG hGN
      unfold drawOK at hok
      have h1 := all_zipIdx hok h
      simp only at h1
      have h2 := List.all_eq_true.1 h1 G hG
      obtain ⟨x, g1, g2⟩ := hget q (Nat.le_of_lt (lt_of_get hf h))
      obtain ⟨y, g3, g4⟩ := hget G hGN
      rw [g1, g3] at h2
      rw [g2, g4]
      exact h2
    refine wp_region_any hmix ?_
    have g : Grown w { w with drawn := w.drawn + 1 } := ⟨Nat.le_refl _, fun _ _ => rfl, rfl, rfl, rfl⟩
    have hM : (fun b => M0 b ∨ False) = M0 := by funext b; simp
    have hnd : ∀ q, ¬ Done o (Array.replicate ops.size false) q := by
      intro q hd
      unfold Done at hd
      simp only [Array.getD_eq_getD_getElem?, Array.getElem?_replicate] at hd
      split at hd <;> simp at hd
    have tr0 : Trans κ s.h w κ s.h { w with drawn := w.drawn + 1 } := g.trans
    refine any_wp (T := fun q => tr.getD q s) (M0 := M0) (κ0 := κ) (w0 := w) hcf hf hT hun hs.hp.m0lt ?_ ops.size _ 0 κ s.env a _ (fun _ => False) (fun _ => 0) ?_ (.inl rfl) ?_
    · intro κ' a' w' q1 q2
      simp only [hT0, hTN] at q1 q2
      exact hQ κ' a' w' q1 q2
    · refine ⟨by simp, fun i q _ _ h => absurd h (hnd q), Nat.zero_le _, fun q _ _ => ⟨fun h => absurd h (hnd q), fun h => by omega⟩, fun q h => by omega, fun q ao t _ h => absurd h (hnd q), fun t _ => by simp only [hT0], ?_, ?_, ?_, ?_, ?_, ?_⟩
      · rw [hM]
        simp only [hT0]
        exact ⟨g.relH hs.hp, hs.env.keeps tr0 (tr0.keeps M0 hs.hp.m0lt), hs.size, hs.defers⟩
      · simp only [hT0]; exact tr0
      · intro b; simp only [false_iff, not_exists, not_and]; exact fun q h => absurd h.2.1 (hnd q)
      · exact fun q q' h => absurd h.2.1 (hnd q)
      · exact fun q h => absurd h.2.1 (hnd q)
      · exact fun q ao t h => absurd h.2.1 (hnd q)
    · unfold left
      have : (List.range ops.size).filter (fun i => !(Array.replicate ops.size false).getD i true) = List.range ops.size := by
        rw [List.filter_eq_self]
        intro i hi
        have := List.mem_range.1 hi
        simp [Array.getD_eq_getD_getElem?, Array.getElem?_replicate, this]
      rw [this]; simp
  · cases hev

/-- THE INTERPRETER IS SOUND: what it answers is what the model answers. -/
theorem fev_calls {cx : Cx} (hmix : P.follows .mixedOrders = true) (hcx : CxOK P cx) {f : FuncId} {args : List PV} {r : PV} (hf : FEv cx f args r) {M : Nat → Prop} {w : World}
    (hm : ∀ b, M b → b < w.heap.size) {vals : Array Value} (hv : VL w M args vals.toList) :
    Calls P f vals w fun e w1 => ∃ v, e = .returned v ∧ Grown w w1 ∧ VP w1 M r v :=
  fev_rel hcx (fun _ hcf n d => draws_ok hmix hcf n d) hf hm hv
end
end Go.Va
end
section
namespace Go.Va

def Le (cf cf' : CallFn) : Prop := ∀ d f a h k r, cf d f a h k = some r → cf' d f a h k = some r

theorem bind_mono {α β : Type} {x y : Option α} {f g : α → Option β} {r : β} (hx : ∀ a, x = some a → y = some a) (hf : ∀ a, x = some a → f a = some r → g a = some r) (h : x.bind f = some r) : y.bind g = some r := by
  cases hxa : x with
  | none => rw [hxa] at h; cases h
  | some a => rw [hxa] at h; rw [hx a hxa]; exact hf a hxa h
theorem map_mono {α β : Type} {x y : Option α} {f : α → β} {r : β} (hx : ∀ a, x = some a → y = some a) (h : x.map f = some r) : y.map f = some r := by
  cases hxa : x with
  | none => rw [hxa] at h; cases h
  | some a => rw [hxa] at h; rw [hx a hxa]; exact h

mutual
theorem frzV_mono {h : Hp} : ∀ {n : Nat} {x : AV} {r : PV × List Key}, frzV h n x = some r → frzV h (n + 1) x = some r
  | 0, _, _, hf => by simp [frzV] at hf
  | n + 1, .p x, r, hf => by simpa [frzV] using hf
  | n + 1, .ref k ver off m s clip, r, hf => by
    rw [frzV] at hf ⊢
    refine bind_mono (fun _ h => h) (fun cs _ hf => ?_) hf
    split at hf
    · rename_i hle; rw [if_pos hle]; exact map_mono (fun _ h => frzL_mono h) hf
    · cases hf
  | n + 1, .ptr k ver off, r, hf => by
    rw [frzV] at hf ⊢
    exact bind_mono (fun _ h => h) (fun cs _ hf => map_mono (fun _ h => frzL_mono h) hf) hf
  | n + 1, .agg cs, r, hf => by rw [frzV] at hf ⊢; exact map_mono (fun _ h => frzL_mono h) hf
  | n + 1, .tup cs, r, hf => by rw [frzV] at hf ⊢; exact map_mono (fun _ h => frzL_mono h) hf
  | n + 1, .func f a b, r, hf => by
    rw [frzV] at hf ⊢
    exact bind_mono (fun _ h => frzL_mono h) (fun cs _ hf => map_mono (fun _ h => frzL_mono h) hf) hf
  | n + 1, .map _ _, _, hf => by simp [frzV] at hf
  | n + 1, .iter _ _, _, hf => by simp [frzV] at hf
  | n + 1, .opq, _, hf => by simp [frzV] at hf
theorem frzL_mono {h : Hp} : ∀ {n : Nat} {xs : List AV} {r : List PV × List Key}, frzL h n xs = some r → frzL h (n + 1) xs = some r
  | 0, _, _, hf => by simp [frzL] at hf
  | n + 1, [], r, hf => by simpa [frzL] using hf
  | n + 1, x :: xs, r, hf => by
    rw [frzL] at hf ⊢
    exact bind_mono (fun _ h => frzV_mono h) (fun cs _ hf => map_mono (fun _ h => frzL_mono h) hf) hf
end
theorem frzV_le {h : Hp} {n m : Nat} (hnm : n ≤ m) {x : AV} {r : PV × List Key} (hf : frzV h n x = some r) : frzV h m x = some r := by
  obtain ⟨j, rfl⟩ := Nat.exists_eq_add_of_le hnm
  induction j with
  | zero => exact hf
  | succ j ih => exact frzV_mono (ih (Nat.le_add_right _ _))
theorem frzL_le {h : Hp} {n m : Nat} (hnm : n ≤ m) {x : List AV} {r : List PV × List Key} (hf : frzL h n x = some r) : frzL h m x = some r := by
  obtain ⟨j, rfl⟩ := Nat.exists_eq_add_of_le hnm
  induction j with
  | zero => exact hf
  | succ j ih => exact frzL_mono (ih (Nat.le_add_right _ _))
theorem frzFns_le {h : Hp} {n m : Nat} (hnm : n ≤ m) : ∀ {x : List AV} {r : List AV × List Key}, frzFns h n x = some r → frzFns h m x = some r
  | [], r, hf => by simpa [frzFns] using hf
  | x :: xs, r, hf => by
    cases x with
    | func f a b => rw [frzFns] at hf ⊢; exact bind_mono (fun _ h => frzV_le hnm h) (fun _ _ hf => map_mono (fun _ h => frzFns_le hnm h) hf) hf
    | _ => simp only [frzFns] at hf ⊢; exact map_mono (fun _ h => frzFns_le hnm h) hf

section
variable {cf cf' : CallFn} (hc : Le cf cf') {d : Nat}
include hc

theorem evOp_mono {dst : Option Nat} {o : AOp} {env : Nat → AV} {h : Hp} {r : AV × Hp} (hf : evOp cf d dst o env h = some r) : evOp cf' d dst o env h = some r := by
  cases o with
  | call x args =>
    simp only [evOp] at hf ⊢
    refine bind_mono (fun _ h => h) (fun t _ hf => ?_) hf
    split at hf
    · exact hc _ _ _ _ _ _ hf
    · exact hc _ _ _ _ _ _ hf
    · cases hf
  | _ => exact hf
theorem stepO_mono {o : AOper} {s s' : St} (hf : stepO cf d o s = some s') : stepO cf' d o s = some s' := by
  unfold stepO at hf ⊢
  refine bind_mono (fun _ h => h) (fun w _ hf => ?_) hf
  split at hf
  · rename_i hw; simp only [hw, if_true]; exact map_mono (fun _ h => evOp_mono hc h) hf
  · rename_i hw; simp only [hw]; exact hf
theorem evOps_mono : ∀ {l : List AOper} {s s' : St}, evOps cf d l s = some s' → evOps cf' d l s = some s'
  | [], _, _, hf => hf
  | o :: l, s, s', hf => by
    rw [evOps] at hf ⊢
    exact bind_mono (fun _ h => stepO_mono hc h) (fun _ _ hf => evOps_mono hf) hf
theorem evTrace_mono : ∀ {l : List AOper} {s : St} {r : List St}, evTrace cf d l s = some r → evTrace cf' d l s = some r
  | [], _, _, hf => hf
  | o :: l, s, s', hf => by
    rw [evTrace] at hf ⊢
    exact bind_mono (fun _ h => stepO_mono hc h) (fun _ _ hf => map_mono (fun _ h => evTrace_mono h) hf) hf
theorem evDraw_mono {l : List AOper} {s s' : St} (hf : evDraw cf d l s = some s') : evDraw cf' d l s = some s' := by
  unfold evDraw at hf ⊢
  exact bind_mono (fun _ h => evTrace_mono hc h) (fun _ _ hf => hf) hf

theorem evCode_mono {cx : Cx} : ∀ {n m : Nat} {c : ACode} {s : St} {r : AExit × St}, n ≤ m → evCode cx cf d n c s = some r → evCode cx cf' d m c s = some r
  | 0, _, _, _, _, _, hf => by simp [evCode] at hf
  | n + 1, 0, _, _, _, hnm, _ => by omega
  | n + 1, m + 1, c, s, r, hnm, hf => by
    have hnm' : n ≤ m := by omega
    cases c with
    | reg ops draw =>
      simp only [evCode] at hf ⊢
      refine map_mono (fun x hx => ?_) hf
      cases draw with
      | true => simp only [if_true] at hx ⊢; exact evDraw_mono hc hx
      | false => simp only [Bool.false_eq_true, if_false] at hx ⊢; exact evOps_mono hc hx
    | seq a b =>
      simp only [evCode] at hf ⊢
      refine bind_mono (fun _ h => evCode_mono hnm' h) (fun x _ hf => ?_) hf
      split at hf
      · rename_i he; rw [if_pos he]; exact evCode_mono hnm' hf
      · rename_i he; rw [if_neg he]; exact hf
    | cond c a b =>
      simp only [evCode] at hf ⊢
      split at hf
      · exact evCode_mono hnm' hf
      · cases hf
    | block id c => simp only [evCode] at hf ⊢; exact map_mono (fun _ h => evCode_mono hnm' h) hf
    | loop c =>
      simp only [evCode] at hf ⊢
      refine bind_mono (fun _ h => evCode_mono hnm' h) (fun x _ hf => ?_) hf
      split at hf
      · rename_i he; rw [if_pos he]; exact evCode_mono hnm' hf
      · rename_i he; rw [if_neg he]; exact hf
    | _ => simp only [evCode] at hf ⊢; exact hf

theorem runBody_mono {cx : Cx} {n m : Nat} (hnm : n ≤ m) {fn : AFn} {args : List AV} {h : Hp} {r : AV × Hp} (hf : runBody cx cf d n fn args h = some r) : runBody cx cf' d m fn args h = some r := by
  unfold runBody at hf ⊢
  split at hf
  · rename_i hl; rw [if_pos hl]
    exact bind_mono (fun _ h => evCode_mono hc hnm h) (fun _ _ hf => hf) hf
  · cases hf
theorem closedFn_mono {cx : Cx} {n m : Nat} (hnm : n ≤ m) {fn : AFn} {ps : List PV} {r : PV} (hf : closedFn cx cf n fn ps = some r) : closedFn cx cf' m fn ps = some r := by
  unfold closedFn at hf ⊢
  exact bind_mono (fun _ h => runBody_mono hc hnm h) (fun _ _ hf => map_mono (fun _ h => frzV_le hnm h) hf) hf
theorem ownedFn_mono {cx : Cx} {n m : Nat} (hnm : n ≤ m) {fn : AFn} {ps : List PV} {r : PV ⊕ (Nat × Nat × Bool × List PV)} (hf : ownedFn cx cf n fn ps = some r) : ownedFn cx cf' m fn ps = some r := by
  unfold ownedFn at hf ⊢
  refine bind_mono (fun _ h => runBody_mono hc hnm h) (fun x _ hf => ?_) hf
  obtain ⟨v, h⟩ := x
  simp only at hf ⊢
  split at hf
  · exact hf
  · exact hf
  · refine bind_mono (fun _ h => h) (fun cs _ hf => ?_) hf
    split at hf
    · rename_i hh; rw [if_pos hh]; exact map_mono (fun _ h => frzL_le hnm h) hf
    · cases hf
  · cases hf

theorem evCall0_mono {cx : Cx} {n m : Nat} (hnm : n ≤ m) : Le (evCall0 cx cf n) (evCall0 cx cf' m) := by
  intro d f args h key r hf
  unfold evCall0 at hf ⊢
  split at hf
  · exact hf
  · refine bind_mono (fun _ h => h) (fun fn _ hf => ?_) hf
    split at hf
    · exact bind_mono (fun _ h => frzFns_le hnm h) (fun _ _ hf => runBody_mono hc hnm hf) hf
    · split at hf
      · exact map_mono (fun _ h => closedFn_mono hc hnm h) hf
      · exact bind_mono (fun _ h => frzL_le hnm h) (fun _ _ hf => map_mono (fun _ h => closedFn_mono hc hnm h) hf) hf
    · split at hf
      · exact map_mono (fun _ h => ownedFn_mono hc hnm h) hf
      · exact bind_mono (fun _ h => frzL_le hnm h) (fun _ _ hf => map_mono (fun _ h => ownedFn_mono hc hnm h) hf) hf
end

theorem evCall_succ {cx : Cx} : ∀ k, Le (evCall cx k) (evCall cx (k + 1))
  | 0 => fun _ _ _ _ _ _ hf => by simp [evCall] at hf
  | k + 1 => evCall0_mono (evCall_succ k) (Nat.le_succ k)
theorem evCall_le {cx : Cx} {k m : Nat} (hkm : k ≤ m) : Le (evCall cx k) (evCall cx m) := by
  obtain ⟨j, rfl⟩ := Nat.exists_eq_add_of_le hkm
  induction j with
  | zero => exact fun _ _ _ _ _ _ hf => hf
  | succ j ih => exact fun d f a h key r hf => evCall_succ _ d f a h key r (ih (Nat.le_add_right _ _) d f a h key r hf)
end Go.Va
end
section
namespace Go.Va

section lim
open Classical in
/-- What a growing row of answers comes to. -/
noncomputable def lim {α : Type} (p : Nat → Option α) : Option α := if h : ∃ r k, p k = some r then some h.choose else none

theorem lim_iff {α : Type} {p : Nat → Option α} (hp : ∀ k m r, k ≤ m → p k = some r → p m = some r) {r : α} : lim p = some r ↔ ∃ k, p k = some r := by
  unfold lim
  split
  · rename_i h
    obtain ⟨k, hk⟩ := h.choose_spec
    constructor
    · intro e; cases e; exact ⟨k, hk⟩
    · rintro ⟨m, hm⟩
      have h1 := hp k (max k m) _ (Nat.le_max_left _ _) hk
      have h2 := hp m (max k m) _ (Nat.le_max_right _ _) hm
      rw [h1] at h2; exact h2
  · rename_i h
    constructor
    · intro e; cases e
    · rintro ⟨m, hm⟩; exact absurd ⟨r, m, hm⟩ h
end lim

theorem opt_ext {α : Type} {x y : Option α} (h : ∀ r, x = some r ↔ y = some r) : x = y := by
  cases x with
  | none =>
    cases y with
    | none => rfl
    | some b => exact absurd ((h b).2 rfl) (by simp)
  | some a => exact ((h a).1 rfl).symm

noncomputable def frzD (h : Hp) (x : AV) : Option (PV × List Key) := lim fun k => frzV h k x
noncomputable def frzLD (h : Hp) (x : List AV) : Option (List PV × List Key) := lim fun k => frzL h k x
noncomputable def callD (cx : Cx) : CallFn := fun d f args h key => lim fun k => evCall cx k d f args h key
noncomputable def codeD (cx : Cx) (d : Nat) (c : ACode) (s : St) : Option (AExit × St) := lim fun k => evCode cx (evCall cx k) d k c s

theorem frzD_iff {h : Hp} {x : AV} {r : PV × List Key} : frzD h x = some r ↔ ∃ k, frzV h k x = some r := lim_iff (fun _ _ _ hkm hk => frzV_le hkm hk)
theorem frzLD_iff {h : Hp} {x : List AV} {r : List PV × List Key} : frzLD h x = some r ↔ ∃ k, frzL h k x = some r := lim_iff (fun _ _ _ hkm hk => frzL_le hkm hk)
theorem callD_iff {cx : Cx} {d : Nat} {f : FuncId} {args : List AV} {h : Hp} {key : Key} {r : AV × Hp} : callD cx d f args h key = some r ↔ ∃ k, evCall cx k d f args h key = some r :=
  lim_iff (fun _ _ _ hkm hk => evCall_le hkm _ _ _ _ _ _ hk)
theorem codeD_iff {cx : Cx} {d : Nat} {c : ACode} {s : St} {r : AExit × St} : codeD cx d c s = some r ↔ ∃ k, evCode cx (evCall cx k) d k c s = some r :=
  lim_iff (fun _ _ _ hkm hk => evCode_mono (evCall_le hkm) hkm hk)
theorem le_callD {cx : Cx} {k : Nat} : Le (evCall cx k) (callD cx) := fun _ _ _ _ _ _ h => callD_iff.2 ⟨k, h⟩

/-! ### Freezing -/
theorem frzD_p {h : Hp} {x : PV} : frzD h (.p x) = some (x, []) := frzD_iff.2 ⟨1, rfl⟩
theorem frzLD_nil {h : Hp} : frzLD h [] = some ([], []) := frzLD_iff.2 ⟨1, rfl⟩
theorem frzLD_cons {h : Hp} {x : AV} {xs : List AV} : frzLD h (x :: xs) = (frzD h x).bind fun r => (frzLD h xs).map fun q => (r.1 :: q.1, r.2 ++ q.2) := by
  apply opt_ext
  intro r
  rw [frzLD_iff]
  simp only [Option.bind_eq_some_iff, Option.map_eq_some_iff, frzD_iff, frzLD_iff]
  constructor
  · rintro ⟨k, hk⟩
    cases k with
    | zero => simp [frzL] at hk
    | succ k =>
      simp only [frzL, Option.bind_eq_some_iff, Option.map_eq_some_iff] at hk
      obtain ⟨a, h1, b, h2, e⟩ := hk
      exact ⟨a, ⟨k, h1⟩, b, ⟨k, h2⟩, e⟩
  · rintro ⟨a, ⟨k, h1⟩, b, ⟨m, h2⟩, e⟩
    refine ⟨max k m + 1, ?_⟩
    simp only [frzL, Option.bind_eq_some_iff, Option.map_eq_some_iff]
    exact ⟨a, frzV_le (Nat.le_max_left _ _) h1, b, frzL_le (Nat.le_max_right _ _) h2, e⟩
theorem frzLD_ps {h : Hp} : ∀ {xs : List PV}, frzLD h (xs.map .p) = some (xs, [])
  | [] => frzLD_nil
  | x :: xs => by rw [List.map_cons, frzLD_cons, frzD_p, Option.bind_some, frzLD_ps]; rfl
theorem frzD_agg {h : Hp} {cs : List AV} : frzD h (.agg cs) = (frzLD h cs).map fun r => (.agg r.1, r.2) := by
  apply opt_ext
  intro r
  rw [frzD_iff]
  simp only [Option.map_eq_some_iff, frzLD_iff]
  constructor
  · rintro ⟨k, hk⟩
    cases k with
    | zero => simp [frzV] at hk
    | succ k => simp only [frzV, Option.map_eq_some_iff] at hk; obtain ⟨a, h1, e⟩ := hk; exact ⟨a, ⟨k, h1⟩, e⟩
  · rintro ⟨a, ⟨k, h1⟩, e⟩; exact ⟨k + 1, by simp only [frzV, Option.map_eq_some_iff]; exact ⟨a, h1, e⟩⟩
theorem frzD_tup {h : Hp} {cs : List AV} : frzD h (.tup cs) = (frzLD h cs).map fun r => (.tup r.1, r.2) := by
  apply opt_ext
  intro r
  rw [frzD_iff]
  simp only [Option.map_eq_some_iff, frzLD_iff]
  constructor
  · rintro ⟨k, hk⟩
    cases k with
    | zero => simp [frzV] at hk
    | succ k => simp only [frzV, Option.map_eq_some_iff] at hk; obtain ⟨a, h1, e⟩ := hk; exact ⟨a, ⟨k, h1⟩, e⟩
  · rintro ⟨a, ⟨k, h1⟩, e⟩; exact ⟨k + 1, by simp only [frzV, Option.map_eq_some_iff]; exact ⟨a, h1, e⟩⟩
theorem frzD_ref {h : Hp} {k : Key} {ver off m s : Nat} {clip : Bool} : frzD h (.ref k ver off m s clip) = (h.cellsAt k ver).bind fun cs => if off + m * s ≤ cs.length then (frzLD h ((cs.drop off).take (m * s))).map fun r => (.frz .any m r.1, k :: r.2) else none := by
  apply opt_ext
  intro r
  rw [frzD_iff]
  simp only [Option.bind_eq_some_iff]
  constructor
  · rintro ⟨n, hk⟩
    cases n with
    | zero => simp [frzV] at hk
    | succ n =>
      simp only [frzV, Option.bind_eq_some_iff] at hk
      obtain ⟨cs, h1, h2⟩ := hk
      refine ⟨cs, h1, ?_⟩
      split at h2
      · rename_i hle
        rw [if_pos hle]
        simp only [Option.map_eq_some_iff, frzLD_iff] at h2 ⊢
        obtain ⟨a, h3, e⟩ := h2
        exact ⟨a, ⟨n, h3⟩, e⟩
      · cases h2
  · rintro ⟨cs, h1, h2⟩
    split at h2
    · rename_i hle
      simp only [Option.map_eq_some_iff, frzLD_iff] at h2
      obtain ⟨a, ⟨n, h3⟩, e⟩ := h2
      refine ⟨n + 1, ?_⟩
      simp only [frzV, Option.bind_eq_some_iff]
      exact ⟨cs, h1, by rw [if_pos hle]; simp only [Option.map_eq_some_iff]; exact ⟨a, h3, e⟩⟩
    · cases h2

/-! ### Code -/
section code
variable {cx : Cx} {d : Nat}

theorem codeD_skip {s : St} : codeD cx d .skip s = some (.norm, s) := codeD_iff.2 ⟨1, rfl⟩
theorem codeD_ret {s : St} : codeD cx d .ret s = some (.ret, s) := codeD_iff.2 ⟨1, rfl⟩
theorem codeD_exit {s : St} {id : Nat} : codeD cx d (.exit id) s = some (.ex id, s) := codeD_iff.2 ⟨1, rfl⟩

theorem codeD_seq {a b : ACode} {s : St} : codeD cx d (.seq a b) s = (codeD cx d a s).bind fun r => if r.1 = .norm then codeD cx d b r.2 else some r := by
  apply opt_ext
  intro r
  rw [codeD_iff]
  simp only [Option.bind_eq_some_iff]
  constructor
  · rintro ⟨k, hk⟩
    cases k with
    | zero => simp [evCode] at hk
    | succ k =>
      simp only [evCode, Option.bind_eq_some_iff] at hk
      obtain ⟨⟨e, s'⟩, h1, h2⟩ := hk
      refine ⟨(e, s'), codeD_iff.2 ⟨k + 1, evCode_mono (evCall_le (Nat.le_refl _)) (Nat.le_succ k) h1⟩, ?_⟩
      simp only at h2 ⊢
      split at h2
      · rename_i he; rw [if_pos he]; exact codeD_iff.2 ⟨k + 1, evCode_mono (evCall_le (Nat.le_refl _)) (Nat.le_succ k) h2⟩
      · rename_i he; rw [if_neg he]; exact h2
  · rintro ⟨⟨e, s'⟩, h1, h2⟩
    obtain ⟨k, h1⟩ := codeD_iff.1 h1
    simp only at h2
    by_cases he : e = .norm
    · rw [if_pos he] at h2
      obtain ⟨m, h2⟩ := codeD_iff.1 h2
      refine ⟨max k m + 1, ?_⟩
      simp only [evCode, Option.bind_eq_some_iff]
      refine ⟨(e, s'), evCode_mono (evCall_le (by omega)) (Nat.le_max_left _ _) h1, ?_⟩
      simp only [if_pos he]
      exact evCode_mono (evCall_le (by omega)) (Nat.le_max_right _ _) h2
    · rw [if_neg he] at h2
      refine ⟨k + 1, ?_⟩
      simp only [evCode, Option.bind_eq_some_iff]
      refine ⟨(e, s'), evCode_mono (evCall_le (Nat.le_succ k)) (Nat.le_refl _) h1, ?_⟩
      simp only [if_neg he]; exact h2

theorem codeD_cond {c : Opd} {a b : ACode} {s : St} : codeD cx d (.cond c a b) s = match c.ev s.env with | .p (.bool t) => codeD cx d (if t then a else b) s | _ => none := by
  apply opt_ext
  intro r
  rw [codeD_iff]
  constructor
  · rintro ⟨k, hk⟩
    cases k with
    | zero => simp [evCode] at hk
    | succ k =>
      simp only [evCode] at hk
      split at hk
      · rename_i t heq; rw [heq]; exact codeD_iff.2 ⟨k + 1, evCode_mono (evCall_le (Nat.le_refl _)) (Nat.le_succ k) hk⟩
      · cases hk
  · intro h
    split at h
    · rename_i t heq
      obtain ⟨k, h⟩ := codeD_iff.1 h
      refine ⟨k + 1, ?_⟩
      simp only [evCode, heq]
      exact evCode_mono (evCall_le (Nat.le_succ k)) (Nat.le_refl _) h
    · cases h

theorem codeD_block {id : Nat} {c : ACode} {s : St} : codeD cx d (.block id c) s = (codeD cx d c s).map fun r => (if r.1 = .ex id then .norm else r.1, r.2) := by
  apply opt_ext
  intro r
  rw [codeD_iff]
  simp only [Option.map_eq_some_iff]
  constructor
  · rintro ⟨k, hk⟩
    cases k with
    | zero => simp [evCode] at hk
    | succ k =>
      simp only [evCode, Option.map_eq_some_iff] at hk
      obtain ⟨x, h1, e⟩ := hk
      exact ⟨x, codeD_iff.2 ⟨k + 1, evCode_mono (evCall_le (Nat.le_refl _)) (Nat.le_succ k) h1⟩, e⟩
  · rintro ⟨x, h1, e⟩
    obtain ⟨k, h1⟩ := codeD_iff.1 h1
    refine ⟨k + 1, ?_⟩
    simp only [evCode, Option.map_eq_some_iff]
    exact ⟨x, evCode_mono (evCall_le (Nat.le_succ k)) (Nat.le_refl _) h1, e⟩

theorem codeD_loop {c : ACode} {s : St} : codeD cx d (.loop c) s = (codeD cx d c s).bind fun r => if r.1 = .norm then codeD cx d (.loop c) r.2 else some r := by
  apply opt_ext
  intro r
  rw [codeD_iff]
  simp only [Option.bind_eq_some_iff]
  constructor
  · rintro ⟨k, hk⟩
    cases k with
    | zero => simp [evCode] at hk
    | succ k =>
      simp only [evCode, Option.bind_eq_some_iff] at hk
      obtain ⟨⟨e, s'⟩, h1, h2⟩ := hk
      refine ⟨(e, s'), codeD_iff.2 ⟨k + 1, evCode_mono (evCall_le (Nat.le_refl _)) (Nat.le_succ k) h1⟩, ?_⟩
      simp only at h2 ⊢
      split at h2
      · rename_i he; rw [if_pos he]; exact codeD_iff.2 ⟨k + 1, evCode_mono (evCall_le (Nat.le_refl _)) (Nat.le_succ k) h2⟩
      · rename_i he; rw [if_neg he]; exact h2
  · rintro ⟨⟨e, s'⟩, h1, h2⟩
    obtain ⟨k, h1⟩ := codeD_iff.1 h1
    simp only at h2
    by_cases he : e = .norm
    · rw [if_pos he] at h2
      obtain ⟨m, h2⟩ := codeD_iff.1 h2
      refine ⟨max k m + 1, ?_⟩
      simp only [evCode, Option.bind_eq_some_iff]
      refine ⟨(e, s'), evCode_mono (evCall_le (by omega)) (Nat.le_max_left _ _) h1, ?_⟩
      simp only [if_pos he]
      exact evCode_mono (evCall_le (by omega)) (Nat.le_max_right _ _) h2
    · rw [if_neg he] at h2
      refine ⟨k + 1, ?_⟩
      simp only [evCode, Option.bind_eq_some_iff]
      refine ⟨(e, s'), evCode_mono (evCall_le (Nat.le_succ k)) (Nat.le_refl _) h1, ?_⟩
      simp only [if_neg he]; exact h2

theorem stepD_iff {o : AOper} {s s' : St} : stepO (callD cx) d o s = some s' ↔ ∃ k, stepO (evCall cx k) d o s = some s' := by
  constructor
  · intro h
    unfold stepO at h
    simp only [Option.bind_eq_some_iff] at h
    obtain ⟨w, hw, h⟩ := h
    by_cases hwt : w = true
    · subst hwt
      simp only [if_true, Option.map_eq_some_iff] at h
      obtain ⟨v, hv, e⟩ := h
      have : ∃ k, evOp (evCall cx k) d o.dst o.op s.env s.h = some v := by
        cases ho : o.op with
        | call x args =>
          rw [ho] at hv
          simp only [evOp, Option.bind_eq_some_iff] at hv ⊢
          obtain ⟨t, ht, hv⟩ := hv
          split at hv
          · rename_i f a b heq
            obtain ⟨k, hk⟩ := callD_iff.1 hv
            exact ⟨k, t, ht, hk⟩
          · rename_i f a b heq
            obtain ⟨k, hk⟩ := callD_iff.1 hv
            exact ⟨k, t, ht, hk⟩
          · cases hv
        | _ => rw [ho] at hv; exact ⟨0, hv⟩
      obtain ⟨k, hk⟩ := this
      refine ⟨k, ?_⟩
      unfold stepO
      simp only [hw, Option.bind_some, if_true, Option.map_eq_some_iff]
      exact ⟨v, hk, e⟩
    · refine ⟨0, ?_⟩
      unfold stepO
      simp only [hw, Option.bind_some, if_neg hwt] at h ⊢
      exact h
  · rintro ⟨k, h⟩; exact stepO_mono le_callD h

theorem opsD_iff : ∀ {l : List AOper} {s s' : St}, evOps (callD cx) d l s = some s' ↔ ∃ k, evOps (evCall cx k) d l s = some s'
  | [], s, s' => ⟨fun h => ⟨0, h⟩, fun ⟨_, h⟩ => h⟩
  | o :: l, s, s' => by
    constructor
    · intro h
      simp only [evOps, Option.bind_eq_some_iff] at h
      obtain ⟨s1, h1, h2⟩ := h
      obtain ⟨k, h1⟩ := stepD_iff.1 h1
      obtain ⟨m, h2⟩ := opsD_iff.1 h2
      refine ⟨max k m, ?_⟩
      simp only [evOps, Option.bind_eq_some_iff]
      exact ⟨s1, stepO_mono (evCall_le (Nat.le_max_left _ _)) h1, evOps_mono (evCall_le (Nat.le_max_right _ _)) h2⟩
    · rintro ⟨k, h⟩; exact evOps_mono le_callD h
theorem traceD_iff : ∀ {l : List AOper} {s : St} {r : List St}, evTrace (callD cx) d l s = some r ↔ ∃ k, evTrace (evCall cx k) d l s = some r
  | [], s, s' => ⟨fun h => ⟨0, h⟩, fun ⟨_, h⟩ => h⟩
  | o :: l, s, r => by
    constructor
    · intro h
      simp only [evTrace, Option.bind_eq_some_iff, Option.map_eq_some_iff] at h
      obtain ⟨s1, h1, t, h2, e⟩ := h
      obtain ⟨k, h1⟩ := stepD_iff.1 h1
      obtain ⟨m, h2⟩ := traceD_iff.1 h2
      refine ⟨max k m, ?_⟩
      simp only [evTrace, Option.bind_eq_some_iff, Option.map_eq_some_iff]
      exact ⟨s1, stepO_mono (evCall_le (Nat.le_max_left _ _)) h1, t, evTrace_mono (evCall_le (Nat.le_max_right _ _)) h2, e⟩
    · rintro ⟨k, h⟩; exact evTrace_mono le_callD h
theorem drawD_iff {l : List AOper} {s s' : St} : evDraw (callD cx) d l s = some s' ↔ ∃ k, evDraw (evCall cx k) d l s = some s' := by
  constructor
  · intro h
    unfold evDraw at h
    simp only [Option.bind_eq_some_iff] at h
    obtain ⟨tr, h1, h2⟩ := h
    obtain ⟨k, h1⟩ := traceD_iff.1 h1
    exact ⟨k, by unfold evDraw; simp only [Option.bind_eq_some_iff]; exact ⟨tr, h1, h2⟩⟩
  · rintro ⟨k, h⟩; exact evDraw_mono le_callD h

theorem codeD_reg {ops : List AOper} {dr : Bool} {s : St} : codeD cx d (.reg ops dr) s = (if dr then evDraw (callD cx) d ops s else evOps (callD cx) d ops s).map fun s' => (.norm, s') := by
  apply opt_ext
  intro r
  rw [codeD_iff]
  simp only [Option.map_eq_some_iff]
  constructor
  · rintro ⟨k, hk⟩
    cases k with
    | zero => simp [evCode] at hk
    | succ k =>
      simp only [evCode, Option.map_eq_some_iff] at hk
      obtain ⟨x, h1, e⟩ := hk
      refine ⟨x, ?_, e⟩
      cases dr with
      | true => simp only [if_true] at h1 ⊢; exact drawD_iff.2 ⟨k + 1, h1⟩
      | false => simp only [Bool.false_eq_true, if_false] at h1 ⊢; exact opsD_iff.2 ⟨k + 1, h1⟩
  · rintro ⟨x, h1, e⟩
    cases dr with
    | true =>
      simp only [if_true] at h1
      obtain ⟨k, h1⟩ := drawD_iff.1 h1
      refine ⟨k + 1, ?_⟩
      simp only [evCode, Option.map_eq_some_iff, if_true]
      exact ⟨x, evDraw_mono (evCall_le (Nat.le_succ k)) h1, e⟩
    | false =>
      simp only [Bool.false_eq_true, if_false] at h1
      obtain ⟨k, h1⟩ := opsD_iff.1 h1
      refine ⟨k + 1, ?_⟩
      simp only [evCode, Option.map_eq_some_iff, Bool.false_eq_true, if_false]
      exact ⟨x, evOps_mono (evCall_le (Nat.le_succ k)) h1, e⟩
end code
end Go.Va
end
section
namespace Go.Va

section
variable {cx : Cx} {d : Nat}

noncomputable def bodyD (cx : Cx) (d : Nat) (fn : AFn) (args : List AV) (h : Hp) : Option (AV × Hp) :=
  if args.length ≤ fn.ntmps then
    (codeD cx d fn.body ⟨enter args, h⟩).bind fun r =>
      if r.1 = .norm ∨ r.1 = .ret then (resL r.2 fn.results).map fun vs => (joinRes vs, r.2.h) else none
  else none

noncomputable def closedD (cx : Cx) (fn : AFn) (ps : List PV) : Option PV :=
  (bodyD cx 0 fn (ps.map .p) Hp.none).bind fun r => (frzD r.2 r.1).map (·.1.er)

/-- What a function answers on values. -/
noncomputable def funD (cx : Cx) (f : FuncId) (ps : List PV) : Option PV := (cx.fns f).bind fun fn => closedD cx fn ps

theorem bodyD_iff {fn : AFn} {args : List AV} {h : Hp} {r : AV × Hp} : bodyD cx d fn args h = some r ↔ ∃ k, runBody cx (evCall cx k) d k fn args h = some r := by
  unfold bodyD runBody
  by_cases hl : args.length ≤ fn.ntmps
  · simp only [if_pos hl, Option.bind_eq_some_iff, codeD_iff]
    constructor
    · rintro ⟨x, ⟨k, h1⟩, h2⟩; exact ⟨k, x, h1, h2⟩
    · rintro ⟨k, x, h1, h2⟩; exact ⟨x, ⟨k, h1⟩, h2⟩
  · simp [if_neg hl]

theorem closedD_iff {fn : AFn} {ps : List PV} {r : PV} : closedD cx fn ps = some r ↔ ∃ k, closedFn cx (evCall cx k) k fn ps = some r := by
  unfold closedD closedFn
  simp only [Option.bind_eq_some_iff, Option.map_eq_some_iff, bodyD_iff, frzD_iff]
  constructor
  · rintro ⟨x, ⟨k, h1⟩, y, ⟨m, h2⟩, e⟩
    exact ⟨max k m, x, runBody_mono (evCall_le (Nat.le_max_left _ _)) (Nat.le_max_left _ _) h1, y, frzV_le (Nat.le_max_right _ _) h2, e⟩
  · rintro ⟨k, x, h1, y, h2, e⟩
    exact ⟨x, ⟨k, h1⟩, y, ⟨k, h2⟩, e⟩

theorem funD_fev {f : FuncId} {ps : List PV} {r : PV} : funD cx f ps = some r ↔ FEv cx f ps r := by
  unfold funD FEv
  simp only [Option.bind_eq_some_iff, closedD_iff]
  constructor
  · rintro ⟨fn, h1, k, h2⟩; exact ⟨k, fn, h1, h2⟩
  · rintro ⟨k, fn, h1, h2⟩; exact ⟨fn, h1, k, h2⟩

theorem funD_of {f : FuncId} {fn : AFn} (hf : cx.fns f = some fn) (ps : List PV) : funD cx f ps = closedD cx fn ps := by
  unfold funD; rw [hf]; rfl

/-- A closed call on values. -/
theorem callD_closed {f : FuncId} {args : List AV} {ps : List PV} {h : Hp} {key : Key} (hp : cx.prim f = none) (hc : cx.pol f = .closed) (ha : pures args = some ps) :
    callD cx d f args h key = (funD cx f (PV.erL ps)).map fun r => (.p r, h) := by
  apply opt_ext
  intro r
  rw [callD_iff]
  simp only [Option.map_eq_some_iff, funD_fev, FEv]
  constructor
  · rintro ⟨k, hk⟩
    cases k with
    | zero => simp [evCall] at hk
    | succ k =>
      simp only [evCall, evCall0, hp, hc, ha, Option.bind_eq_some_iff, Option.map_eq_some_iff] at hk
      obtain ⟨fn, h1, p, h2, e⟩ := hk
      exact ⟨p, ⟨k, fn, h1, h2⟩, e⟩
  · rintro ⟨p, ⟨k, fn, h1, h2⟩, e⟩
    exact ⟨k + 1, by simp only [evCall, evCall0, hp, hc, ha, Option.bind_eq_some_iff, Option.map_eq_some_iff]; exact ⟨fn, h1, p, h2, e⟩⟩

/-- A closed call on values that lie in the table. -/
theorem callD_closed' {f : FuncId} {args : List AV} {h : Hp} {key : Key} (hp : cx.prim f = none) (hc : cx.pol f = .closed) (ha : pures args = none) :
    callD cx d f args h key = (frzLD h args).bind fun q => (funD cx f (PV.erL q.1)).map fun r => (.p r, if r.flat then h else markRO h q.2) := by
  apply opt_ext
  intro r
  rw [callD_iff]
  simp only [Option.bind_eq_some_iff, Option.map_eq_some_iff, funD_fev, FEv, frzLD_iff]
  constructor
  · rintro ⟨k, hk⟩
    cases k with
    | zero => simp [evCall] at hk
    | succ k =>
      simp only [evCall, evCall0, hp, hc, ha, Option.bind_eq_some_iff, Option.map_eq_some_iff] at hk
      obtain ⟨fn, h1, q, h2, p, h3, e⟩ := hk
      exact ⟨q, ⟨k, h2⟩, p, ⟨k, fn, h1, h3⟩, e⟩
  · rintro ⟨q, ⟨k, h2⟩, p, ⟨m, fn, h1, h3⟩, e⟩
    refine ⟨max k m + 1, ?_⟩
    simp only [evCall, evCall0, hp, hc, ha, Option.bind_eq_some_iff, Option.map_eq_some_iff]
    exact ⟨fn, h1, q, frzL_le (Nat.le_max_left _ _) h2, p, closedFn_mono (evCall_le (Nat.le_max_right _ _)) (Nat.le_max_right _ _) h3, e⟩

theorem mark_nil {h : Hp} : markRO h [] = h := by
  cases h; simp [markRO]
theorem callD_prim {f : FuncId} {args : List AV} {h : Hp} {key : Key} {spec : Nat → List AV → Hp → Key → Option (AV × Hp)} (hp : cx.prim f = some spec) : callD cx d f args h key = spec d args h key := by
  apply opt_ext
  intro r
  rw [callD_iff]
  constructor
  · rintro ⟨k, hk⟩
    cases k with
    | zero => simp [evCall] at hk
    | succ k => simpa only [evCall, evCall0, hp] using hk
  · intro h; exact ⟨1, by simpa only [evCall, evCall0, hp] using h⟩
end
end Go.Va
end
section
namespace Go.Va
/-- Where nothing is to be tested, a drawn region is the text's order. -/
theorem evDraw_plain {cf : CallFn} {d : Nat} : ∀ {l : List AOper} {s : St}, (∀ o ∈ l, o.un = []) → evDraw cf d l s = evOps cf d l s := by
  intro l s hu
  have key : ∀ (l : List AOper) (s : St), (evTrace cf d l s).bind (fun tr => tr.getLast?) = evOps cf d l s := by
    intro l
    induction l with
    | nil => intro s; rfl
    | cons o l ih =>
      intro s
      simp only [evTrace, evOps]
      cases h : stepO cf d o s with
      | none => rfl
      | some s' =>
        simp only [Option.bind_some]
        rw [← ih s']
        cases h2 : evTrace cf d l s' with
        | none => rfl
        | some tr =>
          simp only [Option.map_some, Option.bind_some]
          obtain ⟨t1, _, _⟩ := trace_get h2
          cases tr with
          | nil => simp at t1
          | cons a tr => simp [List.getLast?_cons_cons]
  unfold evDraw
  rw [← key l s]
  congr 1
  funext tr
  have : drawOK l tr = true := by
    unfold drawOK
    rw [List.all_eq_true]
    rintro ⟨o, i⟩ hm
    have ho : o ∈ l := by
      have := List.mem_zipIdx hm
      simp at this
      exact this.2 ▸ List.getElem_mem _
    simp [hu o ho]
  rw [this]; rfl

theorem codeD_draw {cx : Cx} {d : Nat} {ops : List AOper} {s : St} (hu : (ops.all fun o => o.un.isEmpty) = true) : codeD cx d (.reg ops true) s = (evOps (callD cx) d ops s).map fun s' => (.norm, s') := by
  rw [codeD_reg]
  simp only [if_true]
  rw [evDraw_plain (fun o ho => by simpa using List.all_eq_true.1 hu o ho)]
theorem codeD_text {cx : Cx} {d : Nat} {ops : List AOper} {s : St} : codeD cx d (.reg ops false) s = (evOps (callD cx) d ops s).map fun s' => (.norm, s') := by
  rw [codeD_reg]; rfl
end Go.Va
end
section
namespace Go.Va

/-- A loop that goes over a list: 'Inv i a' ahead of round i; 'Q rest i a' says what comes out when 'rest' is still to be gone over. -/
theorem loop_on {cx : Cx} {d : Nat} {c : ACode} {α A : Type} (l : List α) (Inv : Nat → A → St → Prop) (Q : List α → Nat → A → AExit × St → Prop)
    (step : ∀ (i : Nat) (a : A) (s : St) (x : α) (rest : List α), i < l.length → l[i]? = some x → l.drop i = x :: rest → Inv i a s → ∃ r, codeD cx d c s = some r ∧
      ((r.1 = .norm ∧ ∃ a', Inv (i + 1) a' r.2 ∧ ∀ r', Q rest (i + 1) a' r' → Q (x :: rest) i a r') ∨ (r.1 ≠ .norm ∧ Q (x :: rest) i a r)))
    (last : ∀ (a : A) (s : St), Inv l.length a s → ∃ r, codeD cx d c s = some r ∧ r.1 ≠ .norm ∧ Q [] l.length a r) :
    ∀ (a : A) (s : St), Inv 0 a s → ∃ r, codeD cx d (.loop c) s = some r ∧ Q l 0 a r := by
  have main : ∀ (k : Nat) (i : Nat) (a : A) (s : St), i + k = l.length → Inv i a s → ∃ r, codeD cx d (.loop c) s = some r ∧ Q (l.drop i) i a r := by
    intro k
    induction k with
    | zero =>
      intro i a s hk hi
      have : i = l.length := by omega
      subst this
      obtain ⟨r, h1, h2, h3⟩ := last a s hi
      refine ⟨r, ?_, by rw [List.drop_length]; exact h3⟩
      rw [codeD_loop, h1]; simp [h2]
    | succ k ih =>
      intro i a s hk hi
      have hlt : i < l.length := by omega
      have hd : l.drop i = l[i] :: l.drop (i + 1) := List.drop_eq_getElem_cons hlt
      obtain ⟨r, h1, h2⟩ := step i a s l[i] (l.drop (i + 1)) hlt (List.getElem?_eq_getElem hlt) hd hi
      rw [hd, codeD_loop, h1]
      rcases h2 with ⟨h2, a', h3, h4⟩ | ⟨h2, h3⟩
      · obtain ⟨r', g1, g2⟩ := ih (i + 1) a' r.2 (by omega) h3
        exact ⟨r', by simp [h2, g1], h4 r' g2⟩
      · exact ⟨r, by simp [h2], h3⟩
  intro a s hi
  have := main l.length 0 a s (by omega) hi
  simpa using this

/-- What a loop over a list comes to: it goes on with another state, or ends. -/
def runL {α A R : Type} (f : Nat → A → α → A ⊕ R) : List α → Nat → A → A ⊕ R
  | [], _, a => .inl a
  | x :: xs, i, a => match f i a x with | .inl a' => runL f xs (i + 1) a' | .inr y => .inr y
theorem runL_fold {α A R : Type} {g : A → α → A} : ∀ (l : List α) (i : Nat) (a : A), runL (R := R) (fun _ a x => .inl (g a x)) l i a = .inl (l.foldl g a)
  | [], _, _ => rfl
  | x :: xs, i, a => by simp [runL, runL_fold xs]

/-- A loop that goes over a list, by its step. -/
theorem loop_run {cx : Cx} {d : Nat} {c : ACode} {α A R : Type} (l : List α) (f : Nat → A → α → A ⊕ R) (Inv : Nat → A → St → Prop) (OutR : R → AExit × St → Prop) (e : AExit) (he : e ≠ .norm)
    (step : ∀ (i : Nat) (a : A) (s : St) (x : α) (rest : List α), i < l.length → l[i]? = some x → l.drop i = x :: rest → Inv i a s → ∃ r, codeD cx d c s = some r ∧
      (match f i a x with | .inl a' => r.1 = .norm ∧ Inv (i + 1) a' r.2 | .inr y => r.1 ≠ .norm ∧ OutR y r))
    (last : ∀ (a : A) (s : St), Inv l.length a s → ∃ r, codeD cx d c s = some r ∧ r.1 = e ∧ Inv l.length a r.2) :
    ∀ (a : A) (s : St), Inv 0 a s → ∃ r, codeD cx d (.loop c) s = some r ∧ (match runL f l 0 a with | .inl a' => r.1 = e ∧ Inv l.length a' r.2 | .inr y => OutR y r) := by
  refine loop_on l Inv (fun rest i a r => match runL f rest i a with | .inl a' => r.1 = e ∧ Inv l.length a' r.2 | .inr y => OutR y r) ?_ ?_
  · intro i a s x rest h1 h2 h3 h4
    obtain ⟨r, g1, g2⟩ := step i a s x rest h1 h2 h3 h4
    refine ⟨r, g1, ?_⟩
    cases hf : f i a x with
    | inl a' =>
      rw [hf] at g2
      exact .inl ⟨g2.1, a', g2.2, fun r' h => by simp only [runL, hf]; exact h⟩
    | inr y =>
      rw [hf] at g2
      exact .inr ⟨g2.1, by simp only [runL, hf]; exact g2.2⟩
  · intro a s h
    obtain ⟨r, g1, g2, g3⟩ := last a s h
    exact ⟨r, g1, by rw [g2]; exact he, by simp only [runL]; exact ⟨g2, g3⟩⟩

/-- .. where no round ends it. -/
theorem loop_fold {cx : Cx} {d : Nat} {c : ACode} {α A : Type} (l : List α) (g : A → α → A) (Inv : Nat → A → St → Prop) (e : AExit) (he : e ≠ .norm)
    (step : ∀ (i : Nat) (a : A) (s : St) (x : α) (rest : List α), i < l.length → l[i]? = some x → l.drop i = x :: rest → Inv i a s → ∃ r, codeD cx d c s = some r ∧ r.1 = .norm ∧ Inv (i + 1) (g a x) r.2)
    (last : ∀ (a : A) (s : St), Inv l.length a s → ∃ r, codeD cx d c s = some r ∧ r.1 = e ∧ Inv l.length a r.2) (a : A) (s : St) (h : Inv 0 a s) :
    ∃ r, codeD cx d (.loop c) s = some r ∧ r.1 = e ∧ Inv l.length (l.foldl g a) r.2 := by
  have := loop_run (R := Empty) l (fun _ a x => .inl (g a x)) Inv (fun _ _ => False) e he (fun i a s x rest h1 h2 h3 h4 => step i a s x rest h1 h2 h3 h4) last a s h
  rw [runL_fold] at this
  exact this

/-- The first element that answers. -/
def findL {α R : Type} (f : Nat → α → Option R) : List α → Nat → Option R
  | [], _ => none
  | x :: xs, i => match f i x with | none => findL f xs (i + 1) | some y => some y
/-- .. where nothing is kept but the place. -/
theorem loop_find {cx : Cx} {d : Nat} {c : ACode} {α R : Type} (l : List α) (f : Nat → α → Option R) (Inv : Nat → St → Prop) (OutR : R → AExit × St → Prop) (e : AExit) (he : e ≠ .norm)
    (step : ∀ (i : Nat) (s : St) (x : α) (rest : List α), i < l.length → l[i]? = some x → l.drop i = x :: rest → Inv i s → ∃ r, codeD cx d c s = some r ∧
      (match f i x with | none => r.1 = .norm ∧ Inv (i + 1) r.2 | some y => r.1 ≠ .norm ∧ OutR y r))
    (last : ∀ (s : St), Inv l.length s → ∃ r, codeD cx d c s = some r ∧ r.1 = e ∧ Inv l.length r.2) (s : St) (h : Inv 0 s) :
    ∃ r, codeD cx d (.loop c) s = some r ∧ (match findL f l 0 with | none => r.1 = e ∧ Inv l.length r.2 | some y => OutR y r) := by
  have key : ∀ (l : List α) (i : Nat), runL (fun i (_ : Unit) x => match f i x with | none => .inl () | some y => .inr y) l i () = match findL f l i with | none => .inl () | some y => .inr y := by
    intro l
    induction l with
    | nil => intro i; rfl
    | cons x l ih =>
      intro i
      simp only [runL, findL]
      cases f i x with
      | none => exact ih (i + 1)
      | some y => rfl
  have := loop_run l (fun i (_ : Unit) x => match f i x with | none => .inl () | some y => .inr y) (fun i _ s => Inv i s) OutR e he (fun i a s x rest h1 h2 h3 h4 => by
    obtain ⟨r, g1, g2⟩ := step i s x rest h1 h2 h3 h4
    refine ⟨r, g1, ?_⟩
    cases hf : f i x with
    | none => rw [hf] at g2; exact g2
    | some y => rw [hf] at g2; exact g2) (fun a s h => last s h) () s h
  rw [key] at this
  obtain ⟨r, g1, g2⟩ := this
  refine ⟨r, g1, ?_⟩
  cases hf : findL f l 0 with
  | none => rw [hf] at g2; exact g2
  | some y => rw [hf] at g2; exact g2

/-- A loop with a measure. -/
theorem loop_wf {cx : Cx} {d : Nat} {c : ACode} {A : Type} (Inv : A → St → Prop) (Q : A → AExit × St → Prop) (μ : A → Nat)
    (step : ∀ (a : A) (s : St), Inv a s → ∃ r, codeD cx d c s = some r ∧
      ((r.1 = .norm ∧ ∃ a', μ a' < μ a ∧ Inv a' r.2 ∧ ∀ r', Q a' r' → Q a r') ∨ (r.1 ≠ .norm ∧ Q a r))) :
    ∀ (a : A) (s : St), Inv a s → ∃ r, codeD cx d (.loop c) s = some r ∧ Q a r := by
  have main : ∀ (k : Nat) (a : A) (s : St), μ a < k → Inv a s → ∃ r, codeD cx d (.loop c) s = some r ∧ Q a r := by
    intro k
    induction k with
    | zero => intro a s h; omega
    | succ k ih =>
      intro a s hk hi
      obtain ⟨r, h1, h2⟩ := step a s hi
      rw [codeD_loop, h1]
      rcases h2 with ⟨h2, a', h3, h4, h5⟩ | ⟨h2, h3⟩
      · obtain ⟨r', g1, g2⟩ := ih a' r.2 (by omega) h4
        exact ⟨r', by simp [h2, g1], h5 r' g2⟩
      · exact ⟨r, by simp [h2], h3⟩
  exact fun a s hi => main _ a s (Nat.lt_succ_self _) hi

theorem frzLD_pures {h : Hp} : ∀ {args : List AV} {ps : List PV}, pures args = some ps → frzLD h args = some (ps, [])
  | [], ps, ha => by simp only [pures, Option.some.injEq] at ha; subst ha; exact frzLD_nil
  | .p x :: args, ps, ha => by
    simp only [pures, Option.map_eq_some_iff] at ha
    obtain ⟨q, hq, rfl⟩ := ha
    rw [frzLD_cons, frzD_p, Option.bind_some, frzLD_pures hq]; rfl
  | .ref .. :: _, _, ha => by simp [pures] at ha
  | .ptr .. :: _, _, ha => by simp [pures] at ha
  | .map .. :: _, _, ha => by simp [pures] at ha
  | .iter .. :: _, _, ha => by simp [pures] at ha
  | .agg .. :: _, _, ha => by simp [pures] at ha
  | .tup .. :: _, _, ha => by simp [pures] at ha
  | .func .. :: _, _, ha => by simp [pures] at ha
  | .opq :: _, _, ha => by simp [pures] at ha

/-- A closed call, whatever lies in the table. -/
theorem callD_cl {cx : Cx} {d : Nat} {f : FuncId} {args : List AV} {h : Hp} {key : Key} (hp : cx.prim f = none) (hc : cx.pol f = .closed) :
    callD cx d f args h key = (frzLD h args).bind fun q => (funD cx f (PV.erL q.1)).map fun r => (.p r, if r.flat then h else markRO h q.2) := by
  cases ha : pures args with
  | none => exact callD_closed' hp hc ha
  | some ps =>
    rw [callD_closed hp hc ha, frzLD_pures ha, Option.bind_some]
    congr 1
    funext r
    rw [mark_nil, ite_self]

theorem mkAgg_map {xs : List PV} : mkAgg (xs.map .p) = .p (.agg xs) := by
  have : ∀ (xs : List PV), pures (xs.map .p) = some xs := by
    intro xs; induction xs with
    | nil => rfl
    | cons x xs ih => simp only [List.map_cons, pures, ih, Option.map_some]
  simp [mkAgg, this]
theorem pures_map : ∀ (xs : List PV), pures (xs.map .p) = some xs
  | [] => rfl
  | x :: xs => by simp only [List.map_cons, pures, pures_map xs, Option.map_some]

theorem mark_getk {h : Hp} {ks : List Key} {k : Key} : (markRO h ks).get k = if k ∈ ks then (h.get k).mark else h.get k := rfl
theorem set_getk {h : Hp} {k k' : Key} {e : HE} : (h.set k e).get k' = if k' = k then e else h.get k' := rfl

attribute [simp] PV.er PV.erL PV.flat PV.flatL
end Go.Va
end
section
namespace Go.Va


/-! ## Rows -/
theorem flat_len {α : Type} {f : α → List PV} {s : Nat} (hf : ∀ a, (f a).length = s) : ∀ (l : List α), (l.flatMap f).length = l.length * s
  | [] => by simp
  | a :: l => by simp [flat_len hf l, hf a, Nat.add_mul, Nat.add_comm]
theorem flat_drop {α : Type} {f : α → List PV} {s : Nat} (hf : ∀ a, (f a).length = s) : ∀ (l : List α) (i : Nat), (l.flatMap f).drop (i * s) = (l.drop i).flatMap f
  | [], i => by simp
  | a :: l, 0 => by simp
  | a :: l, i + 1 => by
    have : (i + 1) * s = (f a).length + i * s := by rw [hf a]; rw [Nat.add_mul]; omega
    rw [List.flatMap_cons, this, ← List.drop_drop, List.drop_left, flat_drop hf l i]; rfl
theorem flat_take {α : Type} {f : α → List PV} {s : Nat} (hf : ∀ a, (f a).length = s) : ∀ (l : List α) (i : Nat), (l.flatMap f).take (i * s) = (l.take i).flatMap f
  | [], i => by simp
  | a :: l, 0 => by simp
  | a :: l, i + 1 => by
    have : (i + 1) * s = (f a).length + i * s := by rw [hf a]; rw [Nat.add_mul]; omega
    rw [List.flatMap_cons, this, List.take_length_add_append, flat_take hf l i]; rfl
theorem flat_er {α : Type} {f : α → List PV} (hf : ∀ a, PV.erL (f a) = f a) : ∀ (l : List α), PV.erL (l.flatMap f) = l.flatMap f
  | [] => by simp
  | a :: l => by
    have : ∀ (x y : List PV), PV.erL (x ++ y) = PV.erL x ++ PV.erL y := by
      intro x y; induction x with
      | nil => rfl
      | cons a x ih => simp [PV.erL, ih]
    rw [List.flatMap_cons, this, hf a, flat_er hf l]
@[simp] theorem erL_app (x y : List PV) : PV.erL (x ++ y) = PV.erL x ++ PV.erL y := by
  induction x with
  | nil => rfl
  | cons a x ih => simp [PV.erL, ih]

/-- A slice of elements, each of some cells. -/
@[simp] abbrev sl {α : Type} (f : α → List PV) (l : List α) : PV := .frz .any l.length (l.flatMap f)

/-! ## Whole numbers, strings -/
def ints (l : List Int) : List PV := l.map fun z => .int .i64 z
def strs (l : List ByteArray) : List PV := l.map fun b => .str b
@[simp] theorem ints_len (l : List Int) : (ints l).length = l.length := by simp [ints]
@[simp] theorem strs_len (l : List ByteArray) : (strs l).length = l.length := by simp [strs]
@[simp] theorem ints_er : ∀ (l : List Int), PV.erL (ints l) = ints l
  | [] => rfl
  | a :: l => by have := ints_er l; simp only [ints] at this; simp [ints, PV.erL, PV.er, this]
@[simp] theorem strs_er : ∀ (l : List ByteArray), PV.erL (strs l) = strs l
  | [] => rfl
  | a :: l => by have := strs_er l; simp only [strs] at this; simp [strs, PV.erL, PV.er, this]
@[simp] theorem ints_drop (l : List Int) (i : Nat) : (ints l).drop i = ints (l.drop i) := by simp [ints, List.map_drop]
@[simp] theorem ints_take (l : List Int) (i : Nat) : (ints l).take i = ints (l.take i) := by simp [ints, List.map_take]
@[simp] theorem strs_drop (l : List ByteArray) (i : Nat) : (strs l).drop i = strs (l.drop i) := by simp [strs, List.map_drop]
@[simp] theorem strs_take (l : List ByteArray) (i : Nat) : (strs l).take i = strs (l.take i) := by simp [strs, List.map_take]
@[simp] theorem ints_cons (a : Int) (l : List Int) : ints (a :: l) = .int .i64 a :: ints l := rfl
@[simp] theorem strs_cons (a : ByteArray) (l : List ByteArray) : strs (a :: l) = .str a :: strs l := rfl
@[simp] theorem ints_nil : ints [] = [] := rfl
@[simp] theorem strs_nil : strs [] = [] := rfl
@[simp] theorem ints_app (a b : List Int) : ints (a ++ b) = ints a ++ ints b := by simp [ints]
@[simp] theorem strs_app (a b : List ByteArray) : strs (a ++ b) = strs a ++ strs b := by simp [strs]
@[simp] theorem ints_flat : ∀ (l : List Int), PV.flatL (ints l) = true
  | [] => rfl
  | a :: l => by have := ints_flat l; simp [PV.flatL, PV.flat, this]

/-! ## Numbers -/
def digsF : Nat → Nat → List Nat
  | 0, _ => []
  | f + 1, n => if n = 0 then [] else (n % 4294967296) :: digsF f (n / 4294967296)
/-- The words of a number. -/
def digs (n : Nat) : List Nat := digsF n n
/-- A number's words as a value. -/
def mag (n : Nat) : PV := .frz .any (digs n).length ((digs n).map fun (w : Nat) => PV.int .u32 (w : Int))
@[simp] theorem mag_er (n : Nat) : (mag n).er = mag n := by
  have : ∀ (l : List Nat), PV.erL (l.map fun (w : Nat) => PV.int .u32 (w : Int)) = l.map fun (w : Nat) => PV.int .u32 (w : Int) := by
    intro l; induction l with
    | nil => rfl
    | cons a l ih => simp [PV.erL, PV.er, ih]
  simp [mag, PV.er, this]
/-- The four cells of a rational number that is whole. -/
@[simp] abbrev cRat (z : Int) : List PV := [.bool (decide (z < 0)), mag z.natAbs, .bool false, mag 1]

/-! ## Monomials, terms, polynomials -/
structure Mono where
  l : List Int
  h : l.length = 8
  deriving DecidableEq
attribute [simp] Mono.h
theorem Mono.ext {a b : Mono} (h : a.l = b.l) : a = b := by cases a; cases b; cases h; rfl
structure Term where
  c : Int
  m : Mono
  deriving DecidableEq
abbrev Poly := List Term
def cTerm (t : Term) : List PV := cRat t.c ++ ints t.m.l
@[simp] theorem cTerm_len (t : Term) : (cTerm t).length = 12 := by simp [cTerm]
@[simp] theorem cTerm_er (t : Term) : PV.erL (cTerm t) = cTerm t := by simp [cTerm]
@[simp high] theorem poly_len (p : Poly) : (p.flatMap cTerm).length = p.length * 12 := flat_len cTerm_len p
@[simp] theorem poly_drop (p : Poly) (i : Nat) : (p.flatMap cTerm).drop (i * 12) = (p.drop i).flatMap cTerm := flat_drop cTerm_len p i
@[simp] theorem poly_take (p : Poly) (i : Nat) : (p.flatMap cTerm).take (i * 12) = (p.take i).flatMap cTerm := flat_take cTerm_len p i
@[simp] theorem poly_er (p : Poly) : PV.erL (p.flatMap cTerm) = p.flatMap cTerm := flat_er cTerm_er p
@[simp] abbrev poly (p : Poly) : PV := sl cTerm p

/-! ## Equations, systems, edits -/
structure Eqn where
  id : Int
  p : Poly
  deriving DecidableEq
def cEqn (e : Eqn) : List PV := [.int .i64 e.id, poly e.p]
@[simp] theorem cEqn_len (t : Eqn) : (cEqn t).length = 2 := by simp [cEqn]
@[simp] theorem cEqn_er (t : Eqn) : PV.erL (cEqn t) = cEqn t := by simp [cEqn]
@[simp high] theorem eqs_len (p : List Eqn) : (p.flatMap cEqn).length = p.length * 2 := flat_len cEqn_len p
@[simp] theorem eqs_drop (p : List Eqn) (i : Nat) : (p.flatMap cEqn).drop (i * 2) = (p.drop i).flatMap cEqn := flat_drop cEqn_len p i
@[simp] theorem eqs_take (p : List Eqn) (i : Nat) : (p.flatMap cEqn).take (i * 2) = (p.take i).flatMap cEqn := flat_take cEqn_len p i
@[simp] theorem eqs_er (p : List Eqn) : PV.erL (p.flatMap cEqn) = p.flatMap cEqn := flat_er cEqn_er p
structure Sys where
  vars : List ByteArray
  eqs : List Eqn
  neqs : List Eqn
  next : Int
  deriving DecidableEq
/-- A slice of strings. -/
@[simp] abbrev names (l : List ByteArray) : PV := .frz .any l.length (strs l)
@[simp] abbrev cSys (s : Sys) : List PV := [names s.vars, sl cEqn s.eqs, sl cEqn s.neqs, .int .i64 s.next]
structure Edt where
  kind : Int
  name : ByteArray
  at_ : Int
  to : Int
  id : Int
  p : Poly
  neq : Bool
  deriving DecidableEq
@[simp] abbrev cEdt (e : Edt) : List PV := [.int .i64 e.kind, .str e.name, .int .i64 e.at_, .int .i64 e.to, .int .i64 e.id, poly e.p, .bool e.neq]
def sys0 : Sys := ⟨[], [], [], 0⟩
/-! ## Loads -/
@[simp] theorem ints_ld (m : Mono) (r : List PV) : (ints m.l ++ r).take 8 = ints m.l := by
  rw [List.take_append_of_le_length (by simp)]; exact List.take_of_length_le (by simp)
@[simp] theorem ints_ld' (m : Mono) : (ints m.l).take 8 = ints m.l := List.take_of_length_le (by simp)
end Go.Va
end
section
namespace Go.Va
@[simp] def o1 (d : Nat) (o : AOp) : AOper := ⟨some d, o, none, []⟩
@[simp] def o0 (o : AOp) : AOper := ⟨none, o, none, []⟩
@[simp] def gd (t : Nat) (b : Bool) (o : AOper) : AOper := ⟨o.dst, o.op, some (t, b), []⟩
@[simp] def oM (d j : Nat) : AOper := ⟨some d, .mov (.t j), none, []⟩
@[simp] def oV (d : Nat) (x : PV) : AOper := ⟨some d, .mov (.c x), none, []⟩
@[simp] def oL (d j : Nat) : AOper := ⟨some d, .ld false 1 (.t j), none, []⟩
@[simp] def oA (d n j : Nat) : AOper := ⟨some d, .ld true n (.t j), none, []⟩
@[simp] def oF (d n j : Nat) : AOper := ⟨some d, .fad n (.t j), none, []⟩
@[simp] def oC (d f : Nat) (l : List Opd) : AOper := ⟨some d, .call (.c (.func f [] [])) l, none, []⟩
@[simp] def oB (d : Nat) (o : BinOp) (i j : Nat) : AOper := ⟨some d, .bin o (.t i) (.t j), none, []⟩
@[simp] def oK (d : Nat) (o : BinOp) (i : Nat) (z : Int) : AOper := ⟨some d, .bin o (.t i) (.c (.int .i64 z)), none, []⟩
@[simp] def oI (d s i j : Nat) : AOper := ⟨some d, .iadS s (.t i) (.t j), none, []⟩
@[simp] def oE (d i n : Nat) : AOper := ⟨some d, .ext (.t i) n, none, []⟩
@[simp] def oN (d i : Nat) : AOper := ⟨some d, .lenS (.t i), none, []⟩
@[simp] def oS (n i j : Nat) : AOper := ⟨none, .st n (.t i) (.t j), none, []⟩
@[simp] def kE : PV := .frz .nil 0 []
@[simp] def kI (z : Int) : Opd := .c (.int .i64 z)
@[simp] def kF : Opd := .c (.bool false)
@[simp] def kT : Opd := .c (.bool true)
@[simp] def zSys : List PV := [kE, kE, kE, .int .i64 0]
@[simp] def zEdt : List PV := [.int .i64 0, .str ⟨#[]⟩, .int .i64 0, .int .i64 0, .int .i64 0, kE, .bool false]
@[simp] def zMon : List PV := [.int .i64 0, .int .i64 0, .int .i64 0, .int .i64 0, .int .i64 0, .int .i64 0, .int .i64 0, .int .i64 0]
@[simp] def zInt : List PV := [.bool false, kE]
@[simp] def zRat : List PV := [.bool false, kE, .bool false, kE]
@[simp] def zTerm : List PV := [.bool false, kE, .bool false, kE, .int .i64 0, .int .i64 0, .int .i64 0, .int .i64 0, .int .i64 0, .int .i64 0, .int .i64 0, .int .i64 0]
@[simp] def zVer : List PV := [.int .i64 0, .int .i64 0, kE]
@[simp] def zDon : List PV := [kE, kE, kE, .int .i64 0, .int .i64 0, .int .i64 0]
@[simp] def zEq : List PV := [.int .i64 0, kE]
end Go.Va
end
section
open Go.Proofs
namespace Go.Va
def c3_0 : ACode := .seq (.seq (.reg [
  oM 33 10,
  oM 34 9,
  oN 35 34,
  oB 36 .lss 33 35] false)
  (.cond (.t 36)
  (.skip)
  (.exit 0)))
  (.seq (.block 1 (.seq (.reg [
  oA 40 4 8,
  oM 41 9,
  oM 42 10,
  oI 43 7 41 42,
  oA 44 7 43,
  oC 45 20 [.t 40, .t 44],
  oM 39 45,
  oE 46 39 0,
  oE 47 39 1,
  o1 11 (.alloc zSys),
  oS 4 11 46,
  oM 12 47] true)
  (.seq (.reg [
  oA 49 4 8,
  oM 50 9,
  oM 51 10,
  oI 52 7 50 51,
  oA 53 7 52,
  oC 54 21 [.t 49, .t 53],
  oM 48 54,
  oE 55 48 0,
  oE 56 48 1,
  o1 13 (.alloc zSys),
  oS 4 13 55,
  oM 14 56] true)
  (.seq (.reg [
  oA 58 4 8,
  oM 59 9,
  oM 60 10,
  oI 61 7 59 60,
  oA 62 7 61,
  oC 63 22 [.t 58, .t 62],
  oM 57 63,
  oE 64 57 0,
  oE 65 57 1,
  o1 15 (.alloc zEdt),
  oS 7 15 64,
  oM 16 65] true)
  (.seq (.reg [
  oA 67 4 8,
  oM 68 9,
  oM 69 10,
  oI 70 7 68 69,
  oA 71 7 70,
  oC 72 23 [.t 67, .t 71],
  oM 66 72,
  oE 73 66 0,
  oE 74 66 1,
  o1 17 (.alloc zEdt),
  oS 7 17 73,
  oM 18 74] true)
  (.seq (.reg [
  oM 75 12,
  oM 76 14,
  oB 77 .neq 75 76,
  oM 78 77,
  gd 78 false (oA 79 4 11),
  gd 78 false (oA 80 4 13),
  gd 78 false (oC 81 24 [.t 79, .t 80]),
  gd 78 false (o1 82 (.un .not (.t 81))),
  o1 83 (.pick (.t 78) kT (.t 82)),
  oM 84 83,
  gd 84 false (oM 85 16),
  gd 84 false (oM 86 18),
  gd 84 false (oB 87 .neq 85 86),
  o1 88 (.pick (.t 84) kT (.t 87)),
  oM 89 88,
  gd 89 false (oA 90 7 15),
  gd 89 false (oA 91 7 17),
  gd 89 false (oC 92 25 [.t 90, .t 91]),
  gd 89 false (o1 93 (.un .not (.t 92))),
  o1 94 (.pick (.t 89) kT (.t 93))] false)
  (.cond (.t 94)
  (.seq (.reg [
  oV 6 (.bool false)] false)
  (.ret))
  (.skip))))))))
  (.reg [
  oM 37 10,
  oK 38 .add 37 1,
  oM 10 38] false))
def fn3 : AFn where
 ntmps := 123
 rs := 0
 results := [.tmp 6]
 body := .seq (.reg [
  o1 5 (.box 7 (.t 2)),
  oV 6 (.bool false)] false)
  (.seq (.reg [
  oC 21 16 [],
  oM 7 21] false)
  (.seq (.seq (.reg [
  oM 22 7,
  o1 23 (.un .not (.t 22))] false)
  (.cond (.t 23)
  (.seq (.reg [
  oV 6 (.bool false)] false)
  (.ret))
  (.skip)))
  (.seq (.reg [
  oM 24 0,
  oC 25 17 [(.t 24), (kI 12)],
  o1 8 (.alloc zSys),
  oS 4 8 25] false)
  (.seq (.reg [
  oA 26 4 8,
  oM 27 1,
  oC 28 18 [(.t 26), (.t 27), (kI 4)],
  ⟨(some 29), .ld true 7 (.t 5), none, [0]⟩,
  oC 30 19 [.t 29],
  o1 31 (.bsl 7 1 zEdt [(0, 7, (.t 30))]),
  o1 32 (.app 7 80 (.t 28) (.t 31)),
  oM 9 32] true)
  (.seq (.seq (.reg [
  oV 10 (.int .i64 0)] false)
  (.block 0 (.loop c3_0)))
  (.seq (.reg [
  oA 95 4 8,
  oM 96 9,
  oC 97 26 [.t 95, .t 96],
  ⟨(some 98), .ld true 4 (.t 8), none, [0]⟩,
  oM 99 9,
  oC 100 27 [.t 98, .t 99],
  o1 19 (.alloc zDon),
  o1 20 (.alloc zDon),
  oS 6 19 97,
  oS 6 20 100] true)
  (.seq (.reg [
  oF 101 5 19,
  oL 102 101,
  oF 103 5 20,
  oL 104 103,
  oB 105 .eql 102 104,
  oM 106 105,
  gd 106 true (oF 107 4 19),
  gd 106 true (oL 108 107),
  gd 106 true (oF 109 4 20),
  gd 106 true (oL 110 109),
  gd 106 true (oB 111 .eql 108 110),
  o1 112 (.pick (.t 106) (.t 111) kF),
  oM 113 112,
  gd 113 true (oF 114 0 19),
  gd 113 true (oA 115 4 114),
  gd 113 true (oF 116 0 20),
  gd 113 true (oA 117 4 116),
  gd 113 true (oC 118 24 [.t 115, .t 117]),
  o1 119 (.pick (.t 113) (.t 118) kF),
  oM 120 119,
  gd 120 true (oM 121 7),
  o1 122 (.pick (.t 120) (.t 121) kF),
  oM 6 122] false)
  (.ret))))))))
theorem cfn3 : compFn Tryz.prog 3 = some fn3 := by kernel_rfl
def fn4 : AFn where
 ntmps := 41
 rs := 0
 results := [.tmp 4]
 body := .seq (.reg [
  o1 3 (.box 7 (.t 1)),
  oV 4 (.bool false)] false)
  (.seq (.reg [
  oC 9 16 [],
  oM 5 9] false)
  (.seq (.seq (.reg [
  oM 10 5,
  o1 11 (.un .not (.t 10))] false)
  (.cond (.t 11)
  (.seq (.reg [
  oV 4 (.bool false)] false)
  (.ret))
  (.skip)))
  (.seq (.reg [
  oM 12 0,
  oC 13 17 [(.t 12), (kI 12)],
  o1 6 (.alloc zSys),
  oS 4 6 13] false)
  (.seq (.reg [
  ⟨(some 15), .ld true 4 (.t 6), none, [3]⟩,
  oA 16 7 3,
  oC 17 19 [.t 16],
  oC 18 20 [.t 15, .t 17],
  oM 14 18,
  oE 19 14 0,
  oE 20 14 1,
  o1 7 (.alloc zSys),
  oS 4 7 19,
  oM 8 20] true)
  (.seq (.seq (.reg [
  oM 21 8,
  oK 22 .neq 21 0] false)
  (.cond (.t 22)
  (.seq (.reg [
  oA 23 4 7,
  o1 24 (.build zSys []),
  oC 25 24 [.t 23, .t 24],
  oM 26 25,
  gd 26 true (oM 27 5),
  o1 28 (.pick (.t 26) (.t 27) kF),
  oM 4 28] false)
  (.ret))
  (.skip)))
  (.seq (.reg [
  oA 29 4 7,
  oC 30 28 [.t 29],
  oM 31 30,
  gd 31 true (oF 32 3 7),
  gd 31 true (oL 33 32),
  gd 31 true (oF 34 3 6),
  gd 31 true (oL 35 34),
  gd 31 true (oB 36 .geq 33 35),
  o1 37 (.pick (.t 31) (.t 36) kF),
  oM 38 37,
  gd 38 true (oM 39 5),
  o1 40 (.pick (.t 38) (.t 39) kF),
  oM 4 40] false)
  (.ret)))))))
theorem cfn4 : compFn Tryz.prog 4 = some fn4 := by kernel_rfl
def fn5 : AFn where
 ntmps := 92
 rs := 0
 results := [.tmp 4]
 body := .seq (.reg [
  oV 4 (.bool false)] false)
  (.seq (.reg [
  oC 18 16 [],
  oM 5 18] false)
  (.seq (.seq (.reg [
  oM 19 5,
  o1 20 (.un .not (.t 19))] false)
  (.cond (.t 20)
  (.seq (.reg [
  oV 4 (.bool false)] false)
  (.ret))
  (.skip)))
  (.seq (.reg [
  oM 21 0,
  oC 22 17 [(.t 21), (kI 12)],
  o1 6 (.alloc zSys),
  oS 4 6 22] false)
  (.seq (.reg [
  oA 23 4 6,
  oM 24 1,
  oC 25 18 [(.t 23), (.t 24), (kI 1)],
  oM 7 25] false)
  (.seq (.seq (.reg [
  oM 26 7,
  oN 27 26,
  oK 28 .eql 27 0] false)
  (.cond (.t 28)
  (.seq (.reg [
  oM 29 5,
  oM 4 29] false)
  (.ret))
  (.skip)))
  (.seq (.reg [
  oA 31 4 6,
  oM 32 7,
  o1 33 (.iadS 7 (.t 32) (kI 0)),
  oA 34 7 33,
  oC 35 20 [.t 31, .t 34],
  oM 30 35,
  oE 36 30 0,
  oE 37 30 1,
  o1 8 (.alloc zSys),
  oS 4 8 36,
  oM 9 37] true)
  (.seq (.reg [
  oA 39 4 6,
  oM 40 7,
  o1 41 (.iadS 7 (.t 40) (kI 0)),
  oA 42 7 41,
  oC 43 22 [.t 39, .t 42],
  oM 38 43,
  oE 44 38 0,
  oE 45 38 1,
  o1 10 (.alloc zEdt),
  oS 7 10 44,
  oM 11 45] true)
  (.seq (.seq (.reg [
  oM 46 9,
  oK 47 .neq 46 0,
  oM 48 47,
  gd 48 false (oM 49 11),
  gd 48 false (oK 50 .neq 49 0),
  o1 51 (.pick (.t 48) kT (.t 50))] false)
  (.cond (.t 51)
  (.seq (.reg [
  oV 4 (.bool false)] false)
  (.ret))
  (.skip)))
  (.seq (.reg [
  oA 53 4 8,
  oA 54 7 10,
  oC 55 20 [.t 53, .t 54],
  oM 52 55,
  oE 56 52 0,
  oE 57 52 1,
  o1 12 (.alloc zSys),
  oS 4 12 56,
  oM 13 57] false)
  (.seq (.reg [
  oA 59 4 8,
  oA 60 7 10,
  oC 61 22 [.t 59, .t 60],
  oM 58 61,
  oE 62 58 0,
  oE 63 58 1,
  o1 14 (.alloc zEdt),
  oS 7 14 62,
  oM 15 63] false)
  (.seq (.seq (.reg [
  oM 64 13,
  oK 65 .neq 64 0,
  oM 66 65,
  gd 66 false (oM 67 15),
  gd 66 false (oK 68 .neq 67 0),
  o1 69 (.pick (.t 66) kT (.t 68)),
  oM 70 69,
  gd 70 false (oA 71 4 12),
  gd 70 false (oA 72 4 6),
  gd 70 false (oC 73 29 [.t 71, .t 72]),
  gd 70 false (o1 74 (.un .not (.t 73))),
  o1 75 (.pick (.t 70) kT (.t 74))] false)
  (.cond (.t 75)
  (.seq (.reg [
  oV 4 (.bool false)] false)
  (.ret))
  (.skip)))
  (.seq (.reg [
  oA 77 4 12,
  oA 78 7 14,
  oC 79 20 [.t 77, .t 78],
  oM 76 79,
  oE 80 76 0,
  oE 81 76 1,
  o1 16 (.alloc zSys),
  oS 4 16 80,
  oM 17 81] false)
  (.seq (.reg [
  oM 82 17,
  oK 83 .eql 82 0,
  oM 84 83,
  gd 84 true (oA 85 4 16),
  gd 84 true (oA 86 4 8),
  gd 84 true (oC 87 29 [.t 85, .t 86]),
  o1 88 (.pick (.t 84) (.t 87) kF),
  oM 89 88,
  gd 89 true (oM 90 5),
  o1 91 (.pick (.t 89) (.t 90) kF),
  oM 4 91] false)
  (.ret))))))))))))))
theorem cfn5 : compFn Tryz.prog 5 = some fn5 := by kernel_rfl
def c7_0 : ACode := .seq (.seq (.reg [
  oM 120 17,
  oF 121 1 9,
  oL 122 121,
  oN 123 122,
  oB 124 .lss 120 123] false)
  (.cond (.t 124)
  (.skip)
  (.exit 0)))
  (.seq (.block 1 (.seq (.reg [
  oF 127 1 9,
  oL 128 127,
  oM 129 17,
  oI 130 2 128 129,
  oF 131 0 130,
  oL 132 131,
  oM 133 11,
  oB 134 .eql 132 133,
  oM 135 134,
  gd 135 true (oF 136 0 8),
  gd 135 true (oL 137 136),
  gd 135 true (oK 138 .eql 137 5),
  gd 135 true (oM 139 138),
  gd 139 false (oF 140 0 8),
  gd 139 false (oL 141 140),
  gd 139 false (oK 142 .eql 141 7),
  gd 135 true (o1 143 (.pick (.t 139) kT (.t 142))),
  o1 144 (.pick (.t 135) (.t 143) kF),
  oM 145 144,
  gd 145 true (oF 146 1 9),
  gd 145 true (oL 147 146),
  gd 145 true (oM 148 17),
  gd 145 true (oI 149 2 147 148),
  gd 145 true (oF 150 1 149),
  gd 145 true (oL 151 150),
  gd 145 true (oF 152 5 8),
  gd 145 true (oL 153 152),
  gd 145 true (oC 154 34 [.t 151, .t 153]),
  gd 145 true (o1 155 (.un .not (.t 154))),
  o1 156 (.pick (.t 145) (.t 155) kF)] true)
  (.cond (.t 156)
  (.seq (.reg [
  oV 4 (.bool false)] false)
  (.ret))
  (.skip))))
  (.reg [
  oM 125 17,
  oK 126 .add 125 1,
  oM 17 126] false))
def fn7 : AFn where
 ntmps := 198
 rs := 0
 results := [.tmp 4]
 body := .seq (.reg [
  oV 4 (.bool false)] false)
  (.seq (.reg [
  oC 18 16 [],
  oM 5 18] false)
  (.seq (.seq (.reg [
  oM 19 5,
  o1 20 (.un .not (.t 19))] false)
  (.cond (.t 20)
  (.seq (.reg [
  oV 4 (.bool false)] false)
  (.ret))
  (.skip)))
  (.seq (.reg [
  oM 21 0,
  oC 22 17 [(.t 21), (kI 12)],
  o1 6 (.alloc zSys),
  oS 4 6 22] false)
  (.seq (.reg [
  oA 23 4 6,
  oM 24 1,
  oC 25 18 [(.t 23), (.t 24), (kI 1)],
  oM 7 25] false)
  (.seq (.seq (.reg [
  oM 26 7,
  oN 27 26,
  oK 28 .eql 27 0,
  oM 29 28,
  gd 29 false (oM 30 7),
  gd 29 false (o1 31 (.iadS 7 (.t 30) (kI 0))),
  gd 29 false (oF 32 0 31),
  gd 29 false (oL 33 32),
  gd 29 false (oK 34 .lss 33 5),
  o1 35 (.pick (.t 29) kT (.t 34))] false)
  (.cond (.t 35)
  (.seq (.reg [
  oM 36 5,
  oM 4 36] false)
  (.ret))
  (.skip)))
  (.seq (.reg [
  oM 37 7,
  o1 38 (.iadS 7 (.t 37) (kI 0)),
  oA 39 7 38,
  o1 8 (.alloc zEdt),
  oS 7 8 39] false)
  (.seq (.reg [
  oA 41 4 6,
  oA 42 7 8,
  oC 43 20 [.t 41, .t 42],
  oM 40 43,
  oE 44 40 0,
  oE 45 40 1,
  o1 9 (.alloc zSys),
  oS 4 9 44,
  oM 10 45] false)
  (.seq (.reg [
  oF 46 4 8,
  oL 47 46,
  oM 11 47] false)
  (.seq (.seq (.reg [
  oM 48 11,
  oK 49 .eql 48 0] false)
  (.cond (.t 49)
  (.reg [
  oF 50 3 6,
  oL 51 50,
  oM 11 51] false)
  (.skip)))
  (.seq (.seq (.reg [
  oM 52 10,
  oK 53 .neq 52 0,
  oM 54 53,
  gd 54 false (oF 55 3 9),
  gd 54 false (oL 56 55),
  gd 54 false (oF 57 3 6),
  gd 54 false (oL 58 57),
  gd 54 false (oB 59 .lss 56 58),
  o1 60 (.pick (.t 54) kT (.t 59)),
  oM 61 60,
  gd 61 false (oF 62 0 9),
  gd 61 false (oL 63 62),
  gd 61 false (oN 64 63),
  gd 61 false (oF 65 0 6),
  gd 61 false (oL 66 65),
  gd 61 false (oN 67 66),
  gd 61 false (oB 68 .neq 64 67),
  o1 69 (.pick (.t 61) kT (.t 68))] false)
  (.cond (.t 69)
  (.seq (.reg [
  oV 4 (.bool false)] false)
  (.ret))
  (.skip)))
  (.seq (.reg [
  oF 70 0 6,
  ⟨(some 71), .ld false 1 (.t 70), none, [6, 10]⟩,
  oF 72 1 6,
  oL 73 72,
  oM 74 11,
  oC 75 33 [.t 73, .t 74],
  oF 76 2 6,
  ⟨(some 77), .ld false 1 (.t 76), none, [0]⟩,
  oM 78 11,
  oC 79 33 [.t 77, .t 78],
  o1 80 (.build zSys [(0, 1, (.t 71)), (1, 1, (.t 75)), (2, 1, (.t 79)), (3, 1, (kI 1))]),
  o1 12 (.alloc zSys),
  oS 4 12 80] true)
  (.seq (.reg [
  oF 81 0 9,
  ⟨(some 82), .ld false 1 (.t 81), none, [6, 10]⟩,
  oF 83 1 9,
  oL 84 83,
  oM 85 11,
  oC 86 33 [.t 84, .t 85],
  oF 87 2 9,
  ⟨(some 88), .ld false 1 (.t 87), none, [0]⟩,
  oM 89 11,
  oC 90 33 [.t 88, .t 89],
  o1 91 (.build zSys [(0, 1, (.t 82)), (1, 1, (.t 86)), (2, 1, (.t 90)), (3, 1, (kI 1))]),
  o1 13 (.alloc zSys),
  oS 4 13 91] true)
  (.seq (.seq (.reg [
  oA 92 4 12,
  oA 93 4 13,
  oC 94 24 [.t 92, .t 93],
  o1 95 (.un .not (.t 94))] false)
  (.cond (.t 95)
  (.seq (.reg [
  oV 4 (.bool false)] false)
  (.ret))
  (.skip)))
  (.seq (.reg [
  oF 96 1 12,
  oL 97 96,
  oN 98 97,
  oF 99 1 6,
  oL 100 99,
  oN 101 100,
  oB 102 .lss 98 101,
  oM 14 102] false)
  (.seq (.reg [
  oF 103 1 13,
  oL 104 103,
  oN 105 104,
  oF 106 1 9,
  oL 107 106,
  oN 108 107,
  oB 109 .lss 105 108,
  oM 15 109] false)
  (.seq (.reg [
  oM 110 15,
  oM 111 110,
  gd 111 false (oF 112 2 13),
  gd 111 false (oL 113 112),
  gd 111 false (oN 114 113),
  gd 111 false (oF 115 2 9),
  gd 111 false (oL 116 115),
  gd 111 false (oN 117 116),
  gd 111 false (oB 118 .lss 114 117),
  o1 119 (.pick (.t 111) kT (.t 118)),
  oM 16 119] false)
  (.seq (.seq (.reg [
  oV 17 (.int .i64 0)] false)
  (.block 0 (.loop c7_0)))
  (.seq (.seq (.reg [
  oF 157 0 8,
  oL 158 157] false)
  (.block 2 (.seq (.reg [
  oK 160 .eql 158 5,
  oM 159 160] false)
  (.cond (.t 159)
  (.seq (.reg [
  oM 161 16,
  oM 162 161,
  gd 162 true (oM 163 15),
  gd 162 true (oF 164 6 8),
  gd 162 true (oL 165 164),
  gd 162 true (o1 166 (.eqb true (.t 163) (.t 165))),
  o1 167 (.pick (.t 162) (.t 166) kF),
  oM 168 167,
  gd 168 true (oM 169 5),
  o1 170 (.pick (.t 168) (.t 169) kF),
  oM 4 170] false)
  (.ret))
  (.seq (.reg [
  oK 172 .eql 158 6,
  oM 171 172] false)
  (.cond (.t 171)
  (.seq (.reg [
  oM 173 16,
  o1 174 (.un .not (.t 173)),
  oM 175 174,
  gd 175 true (oM 176 5),
  o1 177 (.pick (.t 175) (.t 176) kF),
  oM 4 177] false)
  (.ret))
  (.seq (.reg [
  oK 179 .eql 158 8,
  oM 178 179] false)
  (.cond (.t 178)
  (.seq (.reg [
  oM 180 16,
  oM 181 180,
  gd 181 true (oM 182 15),
  gd 181 true (oM 183 14),
  gd 181 true (o1 184 (.eqb true (.t 182) (.t 183))),
  o1 185 (.pick (.t 181) (.t 184) kF),
  oM 186 185,
  gd 186 true (oM 187 5),
  o1 188 (.pick (.t 186) (.t 187) kF),
  oM 4 188] false)
  (.ret))
  (.skip)))))))))
  (.seq (.reg [
  oM 189 16,
  oM 190 189,
  gd 190 true (oM 191 15),
  gd 190 true (oM 192 14),
  gd 190 true (o1 193 (.eqb false (.t 191) (.t 192))),
  o1 194 (.pick (.t 190) (.t 193) kF),
  oM 195 194,
  gd 195 true (oM 196 5),
  o1 197 (.pick (.t 195) (.t 196) kF),
  oM 4 197] false)
  (.ret))))))))))))))))))))
theorem cfn7 : compFn Tryz.prog 7 = some fn7 := by kernel_rfl
def fn8 : AFn where
 ntmps := 122
 rs := 0
 results := [.tmp 6]
 body := .seq (.reg [
  o1 5 (.box 7 (.t 2)),
  oV 6 (.bool false)] false)
  (.seq (.reg [
  oC 17 16 [],
  oM 7 17] false)
  (.seq (.seq (.reg [
  oM 18 7,
  o1 19 (.un .not (.t 18))] false)
  (.cond (.t 19)
  (.seq (.reg [
  oV 6 (.bool false)] false)
  (.ret))
  (.skip)))
  (.seq (.reg [
  oM 20 0,
  oC 21 17 [(.t 20), (kI 12)],
  o1 8 (.alloc zSys),
  oS 4 8 21] false)
  (.seq (.reg [
  oA 22 4 8,
  oM 23 1,
  oC 24 18 [(.t 22), (.t 23), (kI 5)],
  oM 9 24] false)
  (.seq (.reg [
  oA 25 4 8,
  oM 26 9,
  oC 27 26 [.t 25, .t 26],
  o1 10 (.alloc zDon),
  oS 6 10 27] false)
  (.seq (.seq (.reg [
  oF 28 5 10,
  oL 29 28,
  oK 30 .neq 29 0,
  oM 31 30,
  gd 31 false (oF 32 4 10),
  gd 31 false (oL 33 32),
  gd 31 false (oM 34 9),
  gd 31 false (oN 35 34),
  gd 31 false (oB 36 .neq 33 35),
  o1 37 (.pick (.t 31) kT (.t 36))] false)
  (.cond (.t 37)
  (.seq (.reg [
  oV 6 (.bool false)] false)
  (.ret))
  (.skip)))
  (.seq (.reg [
  oM 38 9,
  oN 39 38,
  oK 40 .quo 39 2,
  oM 11 40] false)
  (.seq (.reg [
  oA 41 4 8,
  oM 42 9,
  oM 43 11,
  o1 44 (.slcS 7 (.t 42) none (some (.t 43)) none),
  oC 45 26 [.t 41, .t 44],
  o1 12 (.alloc zDon),
  oS 6 12 45] true)
  (.seq (.reg [
  oF 46 0 12,
  oA 47 4 46,
  oM 48 9,
  oM 49 11,
  o1 50 (.slcS 7 (.t 48) (some (.t 49)) none none),
  oC 51 26 [.t 47, .t 50],
  o1 13 (.alloc zDon),
  oS 6 13 51] true)
  (.seq (.seq (.reg [
  oF 52 5 12,
  oL 53 52,
  oK 54 .neq 53 0,
  oM 55 54,
  gd 55 false (oF 56 5 13),
  gd 55 false (oL 57 56),
  gd 55 false (oK 58 .neq 57 0),
  o1 59 (.pick (.t 55) kT (.t 58)),
  oM 60 59,
  gd 60 false (oF 61 0 13),
  gd 60 false (oA 62 4 61),
  gd 60 false (oF 63 0 10),
  gd 60 false (oA 64 4 63),
  gd 60 false (oC 65 24 [.t 62, .t 64]),
  gd 60 false (o1 66 (.un .not (.t 65))),
  o1 67 (.pick (.t 60) kT (.t 66))] false)
  (.cond (.t 67)
  (.seq (.reg [
  oV 6 (.bool false)] false)
  (.ret))
  (.skip)))
  (.seq (.reg [
  oF 69 0 10,
  ⟨(some 70), .ld true 4 (.t 69), none, [4]⟩,
  oA 71 7 5,
  oC 72 19 [.t 71],
  oC 73 20 [.t 70, .t 72],
  oM 68 73,
  oE 74 68 0,
  oE 75 68 1,
  o1 14 (.alloc zSys),
  oS 4 14 74,
  oM 15 75] true)
  (.seq (.reg [
  ⟨(some 76), .ld true 4 (.t 8), none, [4, 6, 9]⟩,
  oM 78 9,
  o1 77 (.bsl 7 0 zEdt []),
  o1 79 (.app 7 80 (.t 77) (.t 78)),
  ⟨(some 80), .ld true 7 (.t 5), none, [0]⟩,
  oC 81 19 [.t 80],
  o1 82 (.build zEdt []),
  o1 83 (.bsl 7 2 zEdt [(0, 7, (.t 81)), (7, 7, (.t 82))]),
  o1 84 (.app 7 80 (.t 79) (.t 83)),
  oC 85 26 [.t 76, .t 84],
  o1 16 (.alloc zDon),
  oS 6 16 85] true)
  (.seq (.seq (.reg [
  oM 86 15,
  oK 87 .neq 86 0] false)
  (.cond (.t 87)
  (.seq (.reg [
  oF 88 5 16,
  oL 89 88,
  oM 90 15,
  oB 91 .eql 89 90,
  oM 92 91,
  gd 92 true (oF 93 4 16),
  gd 92 true (oL 94 93),
  gd 92 true (oM 95 9),
  gd 92 true (oN 96 95),
  gd 92 true (oB 97 .eql 94 96),
  o1 98 (.pick (.t 92) (.t 97) kF),
  oM 99 98,
  gd 99 true (oF 100 0 16),
  gd 99 true (oA 101 4 100),
  gd 99 true (o1 102 (.build zSys [])),
  gd 99 true (oC 103 24 [.t 101, .t 102]),
  o1 104 (.pick (.t 99) (.t 103) kF),
  oM 105 104,
  gd 105 true (oM 106 7),
  o1 107 (.pick (.t 105) (.t 106) kF),
  oM 6 107] false)
  (.ret))
  (.skip)))
  (.seq (.reg [
  oF 108 5 16,
  oL 109 108,
  oK 110 .eql 109 1,
  oM 111 110,
  gd 111 true (oF 112 4 16),
  gd 111 true (oL 113 112),
  gd 111 true (oM 114 9),
  gd 111 true (oN 115 114),
  gd 111 true (oK 116 .add 115 1),
  gd 111 true (oB 117 .eql 113 116),
  o1 118 (.pick (.t 111) (.t 117) kF),
  oM 119 118,
  gd 119 true (oM 120 7),
  o1 121 (.pick (.t 119) (.t 120) kF),
  oM 6 121] false)
  (.ret)))))))))))))))
theorem cfn8 : compFn Tryz.prog 8 = some fn8 := by kernel_rfl
def fn9 : AFn where
 ntmps := 88
 rs := 0
 results := [.tmp 4]
 body := .seq (.reg [
  oV 4 (.bool false)] false)
  (.seq (.reg [
  oC 18 16 [],
  oM 5 18] false)
  (.seq (.seq (.reg [
  oM 19 5,
  o1 20 (.un .not (.t 19))] false)
  (.cond (.t 20)
  (.seq (.reg [
  oV 4 (.bool false)] false)
  (.ret))
  (.skip)))
  (.seq (.reg [
  oM 21 0,
  oC 22 17 [(.t 21), (kI 12)],
  oM 23 1,
  oC 24 17 [(.t 23), (kI 12)],
  o1 6 (.alloc zSys),
  o1 7 (.alloc zSys),
  oS 4 6 22,
  oS 4 7 24] false)
  (.seq (.reg [
  oA 26 4 6,
  oA 27 4 7,
  oC 28 35 [.t 26, .t 27],
  oM 25 28,
  oE 29 25 0,
  oE 30 25 1,
  oM 8 29,
  oM 9 30] false)
  (.seq (.seq (.reg [
  oM 31 9,
  oK 32 .neq 31 0] false)
  (.cond (.t 32)
  (.seq (.reg [
  oV 4 (.bool false)] false)
  (.ret))
  (.skip)))
  (.seq (.reg [
  oA 33 4 6,
  oM 34 8,
  oC 35 26 [.t 33, .t 34],
  o1 10 (.alloc zDon),
  oS 6 10 35] false)
  (.seq (.reg [
  oA 36 4 6,
  o1 11 (.alloc zSys),
  oS 4 11 36] false)
  (.seq (.reg [
  oF 37 3 6,
  oL 38 37,
  oK 39 .add 38 7,
  oF 40 3 11,
  oS 1 40 39] false)
  (.seq (.reg [
  oA 42 4 6,
  oA 43 4 11,
  oC 44 35 [.t 42, .t 43],
  oM 41 44,
  oE 45 41 0,
  oE 46 41 1,
  oM 12 45,
  oM 13 46] false)
  (.seq (.reg [
  oA 48 4 6,
  o1 49 (.build zSys []),
  oC 50 35 [.t 48, .t 49],
  oM 47 50,
  oE 51 47 0,
  oE 52 47 1,
  oM 14 51,
  oM 15 52] false)
  (.seq (.reg [
  o1 54 (.build zSys []),
  oA 55 4 7,
  oC 56 35 [.t 54, .t 55],
  oM 53 56,
  oE 57 53 0,
  oE 58 53 1,
  oM 16 57,
  oM 17 58] false)
  (.seq (.reg [
  oF 59 5 10,
  oL 60 59,
  oK 61 .eql 60 0,
  oM 62 61,
  gd 62 true (oF 63 0 10),
  gd 62 true (oA 64 4 63),
  gd 62 true (oA 65 4 7),
  gd 62 true (oC 66 29 [.t 64, .t 65]),
  o1 67 (.pick (.t 62) (.t 66) kF),
  oM 68 67,
  gd 68 true (oM 69 13),
  gd 68 true (oK 70 .eql 69 0),
  o1 71 (.pick (.t 68) (.t 70) kF),
  oM 72 71,
  gd 72 true (oM 73 12),
  gd 72 true (oN 74 73),
  gd 72 true (oK 75 .eql 74 0),
  o1 76 (.pick (.t 72) (.t 75) kF),
  oM 77 76,
  gd 77 true (oM 78 15),
  gd 77 true (oK 79 .eql 78 320),
  o1 80 (.pick (.t 77) (.t 79) kF),
  oM 81 80,
  gd 81 true (oM 82 17),
  gd 81 true (oK 83 .eql 82 320),
  o1 84 (.pick (.t 81) (.t 83) kF),
  oM 85 84,
  gd 85 true (oM 86 5),
  o1 87 (.pick (.t 85) (.t 86) kF),
  oM 4 87] false)
  (.ret)))))))))))))
theorem cfn9 : compFn Tryz.prog 9 = some fn9 := by kernel_rfl
end Go.Va
end
section
open Go.Proofs
namespace Go.Va
def fn16 : AFn where
 ntmps := 124
 rs := 0
 results := [.tmp 0]
 body := .seq (.reg [
  oV 0 (.bool false)] false)
  (.seq (.reg [
  o1 13 (.build zSys [(3, 1, (kI 1))]),
  o1 1 (.alloc zSys),
  oS 4 1 13] false)
  (.seq (.reg [
  oC 14 56 [(kI 0)],
  oC 15 56 [(kI 0)],
  oC 16 55 [.t 14, .t 15],
  oC 17 57 [(kI 1)],
  oC 18 54 [.t 16, .t 17],
  oM 2 18] false)
  (.seq (.reg [
  ⟨(some 19), .build zEdt [(0, 1, (kI 1)), (1, 1, (.c (.str ⟨#[120]⟩)))], none, []⟩,
  oM 20 2,
  o1 21 (.build zEdt [(0, 1, (kI 5)), (5, 1, (.t 20))]),
  o1 22 (.bsl 7 2 zEdt [(0, 7, (.t 19)), (7, 7, (.t 21))]),
  oM 3 22] false)
  (.seq (.reg [
  oA 23 4 1,
  oM 24 3,
  oC 25 26 [.t 23, .t 24],
  o1 4 (.alloc zDon),
  oS 6 4 25] false)
  (.seq (.seq (.reg [
  oF 26 5 4,
  oL 27 26,
  oK 28 .neq 27 0,
  oM 29 28,
  gd 29 false (oF 30 4 4),
  gd 29 false (oL 31 30),
  gd 29 false (oK 32 .neq 31 2),
  o1 33 (.pick (.t 29) kT (.t 32)),
  oM 34 33,
  gd 34 false (oF 35 0 4),
  gd 34 false (oF 36 0 35),
  gd 34 false (oL 37 36),
  gd 34 false (oN 38 37),
  gd 34 false (oK 39 .neq 38 1),
  o1 40 (.pick (.t 34) kT (.t 39)),
  oM 41 40,
  gd 41 false (oF 42 0 4),
  gd 41 false (oF 43 1 42),
  gd 41 false (oL 44 43),
  gd 41 false (oN 45 44),
  gd 41 false (oK 46 .neq 45 1),
  o1 47 (.pick (.t 41) kT (.t 46)),
  oM 48 47,
  gd 48 false (oF 49 0 4),
  gd 48 false (oF 50 1 49),
  gd 48 false (oL 51 50),
  gd 48 false (o1 52 (.iadS 2 (.t 51) (kI 0))),
  gd 48 false (oF 53 0 52),
  gd 48 false (oL 54 53),
  gd 48 false (oK 55 .neq 54 1),
  o1 56 (.pick (.t 48) kT (.t 55)),
  oM 57 56,
  gd 57 false (oF 58 0 4),
  gd 57 false (oF 59 3 58),
  gd 57 false (oL 60 59),
  gd 57 false (oK 61 .neq 60 2),
  o1 62 (.pick (.t 57) kT (.t 61)),
  oM 63 62,
  gd 63 false (oF 64 0 4),
  gd 63 false (oF 65 1 64),
  gd 63 false (oL 66 65),
  gd 63 false (o1 67 (.iadS 2 (.t 66) (kI 0))),
  gd 63 false (oF 68 1 67),
  gd 63 false (oL 69 68),
  gd 63 false (oM 70 2),
  gd 63 false (oC 71 34 [.t 69, .t 70]),
  gd 63 false (o1 72 (.un .not (.t 71))),
  o1 73 (.pick (.t 63) kT (.t 72))] false)
  (.cond (.t 73)
  (.seq (.reg [
  oV 0 (.bool false)] false)
  (.ret))
  (.skip)))
  (.seq (.reg [
  oF 75 0 4,
  oA 76 4 75,
  o1 77 (.build zEdt [(0, 1, (kI 2))]),
  oC 78 20 [.t 76, .t 77],
  oM 74 78,
  oE 79 74 0,
  oE 80 74 1,
  o1 5 (.alloc zSys),
  oS 4 5 79,
  oM 6 80] false)
  (.seq (.reg [
  oF 82 0 4,
  oA 83 4 82,
  o1 84 (.build zEdt [(0, 1, (kI 5))]),
  oC 85 22 [.t 83, .t 84],
  oM 81 85,
  oE 86 81 0,
  oE 87 81 1,
  o1 7 (.alloc zEdt),
  oS 7 7 86,
  oM 8 87] false)
  (.seq (.reg [
  oA 89 4 1,
  o1 90 (.build zEdt []),
  oC 91 20 [.t 89, .t 90],
  oM 88 91,
  oE 92 88 0,
  oE 93 88 1,
  o1 9 (.alloc zSys),
  oS 4 9 92,
  oM 10 93] false)
  (.seq (.reg [
  oA 95 4 1,
  oA 96 4 1,
  oC 97 35 [.t 95, .t 96],
  oM 94 97,
  oE 98 94 0,
  oE 99 94 1,
  oM 11 98,
  oM 12 99] false)
  (.seq (.reg [
  oM 100 6,
  oK 101 .eql 100 333,
  oM 102 101,
  gd 102 true (oM 103 8),
  gd 102 true (oK 104 .eql 103 0),
  o1 105 (.pick (.t 102) (.t 104) kF),
  oM 106 105,
  gd 106 true (oA 107 7 7),
  gd 106 true (o1 108 (.build zEdt [(0, 1, (kI 6)), (4, 1, (kI 2))])),
  gd 106 true (oC 109 25 [.t 107, .t 108]),
  o1 110 (.pick (.t 106) (.t 109) kF),
  oM 111 110,
  gd 111 true (oM 112 10),
  gd 111 true (oK 113 .eql 112 1),
  o1 114 (.pick (.t 111) (.t 113) kF),
  oM 115 114,
  gd 115 true (oM 116 12),
  gd 115 true (oK 117 .eql 116 0),
  o1 118 (.pick (.t 115) (.t 117) kF),
  oM 119 118,
  gd 119 true (oM 120 11),
  gd 119 true (oN 121 120),
  gd 119 true (oK 122 .eql 121 0),
  o1 123 (.pick (.t 119) (.t 122) kF),
  oM 0 123] false)
  (.ret)))))))))))
theorem cfn16 : compFn Tryz.prog 16 = some fn16 := by kernel_rfl
def c17_0 : ACode := .seq (.seq (.reg [
  oM 10 6,
  oM 11 0,
  oN 12 11,
  oB 13 .lss 10 12,
  oM 14 13,
  gd 14 true (oM 15 6),
  gd 14 true (oM 16 1),
  gd 14 true (oB 17 .lss 15 16),
  o1 18 (.pick (.t 14) (.t 17) kF)] false)
  (.cond (.t 18)
  (.skip)
  (.exit 0)))
  (.seq (.block 1 (.seq (.reg [
  ⟨(some 22), .ld true 4 (.t 5), none, [7]⟩,
  oA 23 4 5,
  oM 24 0,
  oM 25 6,
  oI 26 5 24 25,
  oA 27 5 26,
  oC 28 45 [.t 23, .t 27],
  oC 29 21 [.t 22, .t 28],
  oM 21 29,
  oE 30 21 0,
  oE 31 21 1,
  o1 7 (.alloc zSys),
  oS 4 7 30,
  oM 8 31] true)
  (.seq (.reg [
  oM 32 8,
  oK 33 .eql 32 0] false)
  (.cond (.t 33)
  (.reg [
  oA 34 4 7,
  oS 4 5 34] false)
  (.skip)))))
  (.reg [
  oM 19 6,
  oK 20 .add 19 1,
  oM 6 20] false))
def fn17 : AFn where
 ntmps := 36
 rs := 0
 results := [.cell 4 true 4]
 body := .seq (.reg [
  o1 4 (.alloc zSys)] false)
  (.seq (.reg [
  o1 9 (.build zSys [(3, 1, (kI 1))]),
  o1 5 (.alloc zSys),
  oS 4 5 9] false)
  (.seq (.seq (.reg [
  oV 6 (.int .i64 0)] false)
  (.block 0 (.loop c17_0)))
  (.seq (.reg [
  oA 35 4 5,
  oS 4 4 35] false)
  (.ret))))
theorem cfn17 : compFn Tryz.prog 17 = some fn17 := by kernel_rfl
def c18_0 : ACode := .seq (.seq (.reg [
  oM 13 8,
  oM 14 1,
  oN 15 14,
  oB 16 .lss 13 15,
  oM 17 16,
  gd 17 true (oM 18 8),
  gd 17 true (oM 19 2),
  gd 17 true (oB 20 .lss 18 19),
  o1 21 (.pick (.t 17) (.t 20) kF)] false)
  (.cond (.t 21)
  (.skip)
  (.exit 0)))
  (.seq (.block 1 (.seq (.reg [
  oA 24 4 3,
  oM 25 1,
  oM 26 8,
  oI 27 5 25 26,
  oA 28 5 27,
  oC 29 45 [.t 24, .t 28],
  o1 9 (.alloc zEdt),
  oS 7 9 29] true)
  (.seq (.reg [
  oA 31 4 3,
  oA 32 7 9,
  oC 33 21 [.t 31, .t 32],
  oM 30 33,
  oE 34 30 0,
  oE 35 30 1,
  o1 10 (.alloc zSys),
  oS 4 10 34,
  oM 11 35] false)
  (.seq (.reg [
  oM 36 11,
  oK 37 .eql 36 0] false)
  (.cond (.t 37)
  (.seq (.reg [
  oM 38 7,
  oA 39 7 9,
  o1 40 (.bsl 7 1 zEdt [(0, 7, (.t 39))]),
  o1 41 (.app 7 80 (.t 38) (.t 40)),
  oM 7 41] false)
  (.reg [
  oA 42 4 10,
  oS 4 3 42] false))
  (.skip))))))
  (.reg [
  oM 22 8,
  oK 23 .add 22 1,
  oM 8 23] false))
def fn18 : AFn where
 ntmps := 44
 rs := 7
 results := [.tmp 6]
 body := .seq (.reg [
  o1 3 (.box 4 (.t 0)),
  oV 6 kE] false)
  (.seq (.reg [
  o1 12 (.bsl 7 0 zEdt []),
  oM 7 12] false)
  (.seq (.seq (.reg [
  oV 8 (.int .i64 0)] false)
  (.block 0 (.loop c18_0)))
  (.seq (.reg [
  oM 43 7,
  oM 6 43] false)
  (.ret))))
theorem cfn18 : compFn Tryz.prog 18 = some fn18 := by kernel_rfl
def fn19 : AFn where
 ntmps := 30
 rs := 0
 results := [.cell 2 true 7]
 body := .seq (.reg [
  o1 1 (.box 7 (.t 0)),
  o1 2 (.alloc zEdt)] false)
  (.seq (.reg [
  oF 4 4 1,
  oL 5 4,
  oM 3 5] false)
  (.seq (.seq (.reg [
  oM 6 3,
  o1 7 (.lenT (.t 6)),
  oK 8 .gtr 7 20] false)
  (.cond (.t 8)
  (.reg [
  oM 9 3,
  o1 10 (.slcT (.t 9) none (some (kI 20))),
  oM 3 10] false)
  (.skip)))
  (.seq (.reg [
  oF 11 0 1,
  ⟨(some 12), .ld false 1 (.t 11), none, [16]⟩,
  o1 13 (.conv .i64 (.t 12)),
  oF 14 1 1,
  ⟨(some 15), .ld false 1 (.t 14), none, [16]⟩,
  o1 16 (.conv .i64 (.t 15)),
  oF 17 2 1,
  ⟨(some 18), .ld false 1 (.t 17), none, [16]⟩,
  o1 19 (.conv .i64 (.t 18)),
  oF 20 3 1,
  ⟨(some 21), .ld false 1 (.t 20), none, [16]⟩,
  o1 22 (.conv .i64 (.t 21)),
  oM 23 3,
  oF 24 5 1,
  oA 25 1 24,
  oC 26 58 [(.t 25), (kI 4), (kI 13), (kI 4)],
  oF 27 6 1,
  ⟨(some 28), .ld false 1 (.t 27), none, [0]⟩,
  o1 29 (.build zEdt [(0, 1, (.t 13)), (2, 1, (.t 16)), (3, 1, (.t 19)), (4, 1, (.t 22)), (1, 1, (.t 23)), (5, 1, (.t 26)), (6, 1, (.t 28))]),
  oS 7 2 29] true)
  (.ret))))
theorem cfn19 : compFn Tryz.prog 19 = some fn19 := by kernel_rfl
def fn20 : AFn where
 ntmps := 28
 rs := 0
 results := [.cell 4 true 4, .tmp 5]
 body := .seq (.reg [
  o1 2 (.box 4 (.t 0)),
  o1 3 (.box 7 (.t 1)),
  o1 4 (.alloc zSys),
  oV 5 (.int .i64 0)] false)
  (.seq (.reg [
  o1 9 (.mkm),
  o0 (.mup 0 (.t 9) (kI 1) (.c (.func 59 [] []))),
  o0 (.mup 0 (.t 9) (kI 2) (.c (.func 60 [] []))),
  o0 (.mup 0 (.t 9) (kI 3) (.c (.func 61 [] []))),
  o0 (.mup 0 (.t 9) (kI 4) (.c (.func 62 [] []))),
  o0 (.mup 0 (.t 9) (kI 5) (.c (.func 63 [] []))),
  o0 (.mup 0 (.t 9) (kI 6) (.c (.func 64 [] []))),
  o0 (.mup 0 (.t 9) (kI 7) (.c (.func 65 [] []))),
  o0 (.mup 0 (.t 9) (kI 8) (.c (.func 66 [] []))),
  oM 10 9,
  oM 6 10] false)
  (.seq (.reg [
  oM 12 6,
  oF 13 0 3,
  oL 14 13,
  o1 15 (.lkp 0 false [.nilf] (.t 12) (.t 14) true),
  oM 11 15,
  oE 16 11 0,
  oE 17 11 1,
  oM 7 16,
  oM 8 17] false)
  (.seq (.seq (.reg [
  oM 18 8,
  o1 19 (.un .not (.t 18))] false)
  (.cond (.t 19)
  (.seq (.reg [
  o1 20 (.build zSys []),
  oS 4 4 20,
  oV 5 (.int .i64 1)] false)
  (.ret))
  (.skip)))
  (.seq (.reg [
  oM 21 7,
  oA 22 4 2,
  oA 23 7 3,
  o1 24 (.build [kE, kE, kE, (.int .i64 0), (.int .i64 0), (.str ⟨#[]⟩), (.int .i64 0), (.int .i64 0), (.int .i64 0), kE, (.bool false)] [(0, 4, (.t 22)), (4, 7, (.t 23))]),
  o1 25 (.call (.t 21) [.t 24]),
  oE 26 25 0,
  oE 27 25 1,
  oS 4 4 26,
  oM 5 27] false)
  (.ret)))))
theorem cfn20 : compFn Tryz.prog 20 = some fn20 := by kernel_rfl
def fn21 : AFn where
 ntmps := 157
 rs := 0
 results := [.cell 4 true 4, .tmp 5]
 body := .seq (.reg [
  o1 2 (.box 4 (.t 0)),
  o1 3 (.box 7 (.t 1)),
  o1 4 (.alloc zSys),
  oV 5 (.int .i64 0)] false)
  (.seq (.reg [
  oA 10 4 2,
  oA 11 7 3,
  oC 12 67 [.t 10, .t 11],
  oM 6 12] false)
  (.seq (.seq (.reg [
  oM 13 6,
  oK 14 .neq 13 0] false)
  (.cond (.t 14)
  (.seq (.reg [
  o1 15 (.build zSys []),
  oM 16 6,
  oS 4 4 15,
  oM 5 16] false)
  (.ret))
  (.skip)))
  (.seq (.reg [
  oF 17 0 2,
  oL 18 17,
  oN 19 18,
  oM 7 19] false)
  (.seq (.reg [
  oA 20 4 2,
  o1 8 (.alloc zSys),
  oS 4 8 20] false)
  (.seq (.reg [
  o1 21 (.bsl 1 0 [(.str ⟨#[]⟩)] []),
  oF 22 0 2,
  oL 23 22,
  o1 24 (.app 1 16 (.t 21) (.t 23)),
  oF 25 0 8,
  oS 1 25 24] false)
  (.seq (.seq (.reg [
  oF 26 0 3,
  oL 27 26] false)
  (.block 0 (.seq (.reg [
  oK 32 .eql 27 1,
  oM 31 32] false)
  (.cond (.t 31)
  (.seq (.reg [
  oF 34 0 2,
  oL 35 34,
  oF 36 2 3,
  oL 37 36,
  o1 38 (.slcS 1 (.t 35) none (some (.t 37)) none),
  o1 33 (.bsl 1 0 [(.str ⟨#[]⟩)] []),
  o1 39 (.app 1 16 (.t 33) (.t 38)),
  oF 40 1 3,
  ⟨(some 41), .ld false 1 (.t 40), none, [0]⟩,
  o1 42 (.bsl 1 1 [(.str ⟨#[]⟩)] [(0, 1, (.t 41))]),
  o1 43 (.app 1 16 (.t 39) (.t 42)),
  oF 44 0 2,
  ⟨(some 45), .ld false 1 (.t 44), none, [0, 7]⟩,
  oF 46 2 3,
  ⟨(some 47), .ld false 1 (.t 46), none, [0, 7]⟩,
  ⟨(some 48), .slcS 1 (.t 45) (some (.t 47)) none none, none, [0, 7]⟩,
  o1 49 (.app 1 16 (.t 43) (.t 48)),
  oF 50 0 8,
  oS 1 50 49] true)
  (.seq (.reg [
  oF 51 1 2,
  ⟨(some 52), .ld false 1 (.t 51), none, [6]⟩,
  oM 53 7,
  oF 54 2 3,
  oL 55 54,
  oC 56 69 [.t 53, .t 55],
  oC 57 68 [.t 52, .t 56],
  oF 58 1 8,
  oS 1 58 57] true)
  (.reg [
  oF 59 2 2,
  ⟨(some 60), .ld false 1 (.t 59), none, [6]⟩,
  oM 61 7,
  oF 62 2 3,
  oL 63 62,
  oC 64 69 [.t 61, .t 63],
  oC 65 68 [.t 60, .t 64],
  oF 66 2 8,
  oS 1 66 65] true)))
  (.seq (.reg [
  oK 68 .eql 27 2,
  oM 67 68] false)
  (.cond (.t 67)
  (.seq (.reg [
  o1 69 (.bsl 1 0 [(.str ⟨#[]⟩)] []),
  oF 70 0 2,
  ⟨(some 71), .ld false 1 (.t 70), none, [0]⟩,
  oF 72 2 3,
  ⟨(some 73), .ld false 1 (.t 72), none, [0]⟩,
  ⟨(some 74), .slcS 1 (.t 71) none (some (.t 73)) none, none, [0]⟩,
  o1 75 (.app 1 16 (.t 69) (.t 74)),
  oF 76 0 2,
  ⟨(some 77), .ld false 1 (.t 76), none, [0, 1]⟩,
  oF 78 2 3,
  ⟨(some 79), .ld false 1 (.t 78), none, [0, 1]⟩,
  oK 80 .add 79 1,
  ⟨(some 81), .slcS 1 (.t 77) (some (.t 80)) none none, none, [0, 1]⟩,
  o1 82 (.app 1 16 (.t 75) (.t 81)),
  oF 83 0 8,
  oS 1 83 82] true)
  (.seq (.reg [
  oF 84 1 2,
  ⟨(some 85), .ld false 1 (.t 84), none, [7]⟩,
  oF 86 2 3,
  oL 87 86,
  oM 88 7,
  oK 89 .sub 88 1,
  oC 90 69 [.t 87, .t 89],
  oC 91 68 [.t 85, .t 90],
  oF 92 1 8,
  oS 1 92 91] true)
  (.reg [
  oF 93 2 2,
  ⟨(some 94), .ld false 1 (.t 93), none, [7]⟩,
  oF 95 2 3,
  oL 96 95,
  oM 97 7,
  oK 98 .sub 97 1,
  oC 99 69 [.t 96, .t 98],
  oC 100 68 [.t 94, .t 99],
  oF 101 2 8,
  oS 1 101 100] true)))
  (.seq (.reg [
  oK 103 .eql 27 3,
  oM 102 103] false)
  (.cond (.t 102)
  (.reg [
  oF 104 0 8,
  oL 105 104,
  oF 106 2 3,
  oL 107 106,
  oF 108 1 3,
  oL 109 108,
  oI 110 1 105 107,
  oS 1 110 109] false)
  (.seq (.reg [
  oK 112 .eql 27 4,
  oM 111 112] false)
  (.cond (.t 111)
  (.seq (.reg [
  oC 113 69 [(kI 0), (kI 0)],
  o1 9 (.alloc zMon),
  oS 8 9 113] false)
  (.seq (.reg [
  oF 114 2 3,
  oL 115 114,
  oF 116 3 3,
  oL 117 116,
  o1 118 (.iadA 8 1 (.t 9) (.t 115)),
  oS 1 118 117] false)
  (.seq (.reg [
  oF 119 3 3,
  oL 120 119,
  oF 121 2 3,
  oL 122 121,
  o1 123 (.iadA 8 1 (.t 9) (.t 120)),
  oS 1 123 122] false)
  (.seq (.reg [
  oF 124 0 8,
  oL 125 124,
  oF 126 2 3,
  oL 127 126,
  oF 128 0 2,
  oL 129 128,
  oF 130 3 3,
  oL 131 130,
  oI 132 1 129 131,
  oL 133 132,
  oI 134 1 125 127,
  oS 1 134 133] true)
  (.seq (.reg [
  oF 135 0 8,
  oL 136 135,
  oF 137 3 3,
  oL 138 137,
  oF 139 0 2,
  oL 140 139,
  oF 141 2 3,
  oL 142 141,
  oI 143 1 140 142,
  oL 144 143,
  oI 145 1 136 138,
  oS 1 145 144] true)
  (.seq (.reg [
  oF 146 1 2,
  oL 147 146,
  oA 148 8 9,
  oC 149 68 [.t 147, .t 148],
  oF 150 1 8,
  oS 1 150 149] false)
  (.reg [
  oF 151 2 2,
  oL 152 151,
  oA 153 8 9,
  oC 154 68 [.t 152, .t 153],
  oF 155 2 8,
  oS 1 155 154] false)))))))
  (.seq (.reg [
  oA 28 4 2,
  oA 29 7 3,
  oC 30 70 [.t 28, .t 29],
  oS 4 4 30,
  oV 5 (.int .i64 0)] false)
  (.ret))))))))))))
  (.seq (.reg [
  oA 156 4 8,
  oS 4 4 156,
  oV 5 (.int .i64 0)] false)
  (.ret))))))))
theorem cfn21 : compFn Tryz.prog 21 = some fn21 := by kernel_rfl
def fn22 : AFn where
 ntmps := 122
 rs := 0
 results := [.cell 4 true 7, .tmp 5]
 body := .seq (.reg [
  o1 2 (.box 4 (.t 0)),
  o1 3 (.box 7 (.t 1)),
  o1 4 (.alloc zEdt),
  oV 5 (.int .i64 0)] false)
  (.seq (.reg [
  oA 13 4 2,
  oA 14 7 3,
  oC 15 20 [.t 13, .t 14],
  oM 12 15,
  oE 16 12 0,
  oE 17 12 1,
  o1 6 (.alloc zSys),
  oS 4 6 16,
  oM 7 17] false)
  (.seq (.seq (.reg [
  oM 18 7,
  oK 19 .neq 18 0] false)
  (.cond (.t 19)
  (.seq (.reg [
  o1 20 (.build zEdt []),
  oM 21 7,
  oS 7 4 20,
  oM 5 21] false)
  (.ret))
  (.skip)))
  (.seq (.reg [
  o1 8 (.alloc zEq)] false)
  (.seq (.reg [
  oF 22 1 2,
  oL 23 22,
  oF 24 4 3,
  oL 25 24,
  oC 26 71 [.t 23, .t 25],
  oF 27 2 2,
  ⟨(some 28), .ld false 1 (.t 27), none, [0]⟩,
  oF 29 4 3,
  ⟨(some 30), .ld false 1 (.t 29), none, [0]⟩,
  oC 31 71 [.t 28, .t 30],
  oM 9 26,
  oM 10 31] true)
  (.seq (.seq (.reg [
  oM 32 9,
  oK 33 .geq 32 0] false)
  (.cond (.t 33)
  (.reg [
  oF 34 1 2,
  oL 35 34,
  oM 36 9,
  oI 37 2 35 36,
  oA 38 2 37,
  oS 2 8 38] false)
  (.seq (.reg [
  oM 39 10,
  oK 40 .geq 39 0] false)
  (.cond (.t 40)
  (.reg [
  oF 41 2 2,
  oL 42 41,
  oM 43 10,
  oI 44 2 42 43,
  oA 45 2 44,
  oS 2 8 45] false)
  (.skip)))))
  (.seq (.reg [
  oF 46 0 3,
  oL 47 46,
  o1 48 (.build zEdt [(0, 1, (.t 47))]),
  o1 11 (.alloc zEdt),
  oS 7 11 48] false)
  (.seq (.seq (.reg [
  oF 49 0 3,
  oL 50 49] false)
  (.block 0 (.seq (.reg [
  oK 52 .eql 50 1,
  oM 51 52] false)
  (.cond (.t 51)
  (.reg [
  oF 53 2 3,
  oL 54 53,
  o1 55 (.build zEdt [(0, 1, (kI 2)), (2, 1, (.t 54))]),
  oS 7 11 55] false)
  (.seq (.reg [
  oK 57 .eql 50 2,
  oM 56 57] false)
  (.cond (.t 56)
  (.reg [
  oF 58 2 3,
  oL 59 58,
  oF 60 0 2,
  oL 61 60,
  oF 62 2 3,
  oL 63 62,
  oI 64 1 61 63,
  oL 65 64,
  o1 66 (.build zEdt [(0, 1, (kI 1)), (2, 1, (.t 59)), (1, 1, (.t 65))]),
  oS 7 11 66] true)
  (.seq (.reg [
  oK 68 .eql 50 3,
  oM 67 68] false)
  (.cond (.t 67)
  (.reg [
  oF 69 2 3,
  oL 70 69,
  oF 71 0 2,
  ⟨(some 72), .ld false 1 (.t 71), none, [10]⟩,
  oF 73 2 3,
  ⟨(some 74), .ld false 1 (.t 73), none, [10]⟩,
  oI 75 1 72 74,
  ⟨(some 76), .ld false 1 (.t 75), none, [10]⟩,
  oF 77 2 11,
  oS 1 77 70,
  oF 78 1 11,
  oS 1 78 76] true)
  (.seq (.reg [
  oK 80 .eql 50 4,
  oM 79 80] false)
  (.cond (.t 79)
  (.reg [
  oF 81 2 3,
  oL 82 81,
  oF 83 3 3,
  ⟨(some 84), .ld false 1 (.t 83), none, [6]⟩,
  oF 85 2 11,
  oS 1 85 82,
  oF 86 3 11,
  oS 1 86 84] true)
  (.seq (.reg [
  oK 88 .eql 50 5,
  oM 87 88] false)
  (.cond (.t 87)
  (.seq (.reg [
  oF 89 4 3,
  oL 90 89,
  o1 91 (.build zEdt [(0, 1, (kI 6)), (4, 1, (.t 90))]),
  oS 7 11 91] false)
  (.seq (.reg [
  oF 92 4 3,
  oL 93 92,
  oK 94 .eql 93 0] false)
  (.cond (.t 94)
  (.reg [
  oF 95 3 6,
  oL 96 95,
  oK 97 .sub 96 1,
  oF 98 4 11,
  oS 1 98 97] false)
  (.skip))))
  (.seq (.reg [
  oK 100 .eql 50 6,
  oM 99 100] false)
  (.cond (.t 99)
  (.reg [
  oF 101 4 3,
  oL 102 101,
  oF 103 1 8,
  oL 104 103,
  oM 105 10,
  oK 106 .geq 105 0,
  o1 107 (.build zEdt [(0, 1, (kI 5)), (4, 1, (.t 102)), (5, 1, (.t 104)), (6, 1, (.t 106))]),
  oS 7 11 107] false)
  (.seq (.reg [
  oK 109 .eql 50 7,
  oM 108 109] false)
  (.cond (.t 108)
  (.reg [
  oF 110 4 3,
  oL 111 110,
  oF 112 1 8,
  ⟨(some 113), .ld false 1 (.t 112), none, [6]⟩,
  oF 114 4 11,
  oS 1 114 111,
  oF 115 5 11,
  oS 1 115 113] true)
  (.seq (.reg [
  oK 117 .eql 50 8,
  oM 116 117] false)
  (.cond (.t 116)
  (.reg [
  oF 118 4 3,
  oL 119 118,
  oF 120 4 11,
  oS 1 120 119] false)
  (.skip)))))))))))))))))))
  (.seq (.reg [
  oA 121 7 11,
  oS 7 4 121,
  oV 5 (.int .i64 0)] false)
  (.ret)))))))))
theorem cfn22 : compFn Tryz.prog 22 = some fn22 := by kernel_rfl
def fn23 : AFn where
 ntmps := 108
 rs := 0
 results := [.cell 4 true 7, .tmp 5]
 body := .seq (.reg [
  o1 2 (.box 4 (.t 0)),
  o1 3 (.box 7 (.t 1)),
  o1 4 (.alloc zEdt),
  oV 5 (.int .i64 0)] false)
  (.seq (.reg [
  oA 10 4 2,
  oA 11 7 3,
  oC 12 67 [.t 10, .t 11],
  oM 6 12] false)
  (.seq (.seq (.reg [
  oM 13 6,
  oK 14 .neq 13 0] false)
  (.cond (.t 14)
  (.seq (.reg [
  o1 15 (.build zEdt []),
  oM 16 6,
  oS 7 4 15,
  oM 5 16] false)
  (.ret))
  (.skip)))
  (.seq (.reg [
  oF 17 1 2,
  oL 18 17,
  oF 19 4 3,
  oL 20 19,
  oC 21 72 [.t 18, .t 20],
  oF 22 2 2,
  ⟨(some 23), .ld false 1 (.t 22), none, [0]⟩,
  oF 24 4 3,
  ⟨(some 25), .ld false 1 (.t 24), none, [0]⟩,
  oC 26 72 [.t 23, .t 25],
  oM 7 21,
  oM 8 26] true)
  (.seq (.reg [
  o1 27 (.build zEq []),
  o1 9 (.alloc zEq),
  oS 2 9 27] false)
  (.seq (.seq (.reg [
  oM 28 7,
  oK 29 .geq 28 0] false)
  (.cond (.t 29)
  (.reg [
  oF 30 1 2,
  oL 31 30,
  oM 32 7,
  oI 33 2 31 32,
  oA 34 2 33,
  oS 2 9 34] false)
  (.seq (.reg [
  oM 35 8,
  oK 36 .geq 35 0] false)
  (.cond (.t 36)
  (.reg [
  oF 37 2 2,
  oL 38 37,
  oM 39 8,
  oI 40 2 38 39,
  oA 41 2 40,
  oS 2 9 41] false)
  (.skip)))))
  (.seq (.seq (.reg [
  oF 42 0 3,
  oL 43 42] false)
  (.block 0 (.seq (.reg [
  oK 45 .eql 43 1,
  oM 44 45] false)
  (.cond (.t 44)
  (.seq (.reg [
  oF 46 2 3,
  oL 47 46,
  o1 48 (.build zEdt [(0, 1, (kI 2)), (2, 1, (.t 47))]),
  oS 7 4 48,
  oV 5 (.int .i64 0)] false)
  (.ret))
  (.seq (.reg [
  oK 50 .eql 43 2,
  oM 49 50] false)
  (.cond (.t 49)
  (.seq (.reg [
  oF 51 2 3,
  oL 52 51,
  oF 53 0 2,
  oL 54 53,
  oF 55 2 3,
  oL 56 55,
  oI 57 1 54 56,
  oL 58 57,
  o1 59 (.build zEdt [(0, 1, (kI 1)), (2, 1, (.t 52)), (1, 1, (.t 58))]),
  oS 7 4 59,
  oV 5 (.int .i64 0)] true)
  (.ret))
  (.seq (.reg [
  oK 61 .eql 43 3,
  oM 60 61] false)
  (.cond (.t 60)
  (.seq (.reg [
  oF 62 2 3,
  oL 63 62,
  oF 64 0 2,
  oL 65 64,
  oF 66 2 3,
  oL 67 66,
  oI 68 1 65 67,
  oL 69 68,
  o1 70 (.build zEdt [(0, 1, (kI 3)), (2, 1, (.t 63)), (1, 1, (.t 69))]),
  oS 7 4 70,
  oV 5 (.int .i64 0)] true)
  (.ret))
  (.seq (.reg [
  oK 72 .eql 43 4,
  oM 71 72] false)
  (.cond (.t 71)
  (.seq (.reg [
  oF 73 2 3,
  oL 74 73,
  oF 75 3 3,
  oL 76 75,
  o1 77 (.build zEdt [(0, 1, (kI 4)), (2, 1, (.t 74)), (3, 1, (.t 76))]),
  oS 7 4 77,
  oV 5 (.int .i64 0)] false)
  (.ret))
  (.seq (.reg [
  oK 79 .eql 43 5,
  oM 78 79] false)
  (.cond (.t 78)
  (.seq (.seq (.reg [
  oF 80 4 3,
  oL 81 80,
  oK 82 .eql 81 0] false)
  (.cond (.t 82)
  (.seq (.reg [
  oF 83 3 2,
  oL 84 83,
  o1 85 (.build zEdt [(0, 1, (kI 6)), (4, 1, (.t 84))]),
  oS 7 4 85,
  oV 5 (.int .i64 0)] false)
  (.ret))
  (.skip)))
  (.seq (.reg [
  oF 86 4 3,
  oL 87 86,
  o1 88 (.build zEdt [(0, 1, (kI 6)), (4, 1, (.t 87))]),
  oS 7 4 88,
  oV 5 (.int .i64 0)] false)
  (.ret)))
  (.seq (.reg [
  oK 90 .eql 43 6,
  oM 89 90] false)
  (.cond (.t 89)
  (.seq (.reg [
  oF 91 4 3,
  oL 92 91,
  oF 93 1 9,
  oL 94 93,
  oM 95 8,
  oK 96 .geq 95 0,
  o1 97 (.build zEdt [(0, 1, (kI 5)), (4, 1, (.t 92)), (5, 1, (.t 94)), (6, 1, (.t 96))]),
  oS 7 4 97,
  oV 5 (.int .i64 0)] false)
  (.ret))
  (.seq (.reg [
  oK 99 .eql 43 7,
  oM 98 99] false)
  (.cond (.t 98)
  (.seq (.reg [
  oF 100 4 3,
  oL 101 100,
  oF 102 1 9,
  oL 103 102,
  o1 104 (.build zEdt [(0, 1, (kI 7)), (4, 1, (.t 101)), (5, 1, (.t 103))]),
  oS 7 4 104,
  oV 5 (.int .i64 0)] false)
  (.ret))
  (.skip)))))))))))))))))
  (.seq (.reg [
  oF 105 4 3,
  oL 106 105,
  o1 107 (.build zEdt [(0, 1, (kI 8)), (4, 1, (.t 106))]),
  oS 7 4 107,
  oV 5 (.int .i64 0)] false)
  (.ret))))))))
theorem cfn23 : compFn Tryz.prog 23 = some fn23 := by kernel_rfl
def c24_0 : ACode := .seq (.seq (.reg [
  oM 36 5,
  oF 37 0 2,
  oL 38 37,
  oN 39 38,
  oB 40 .lss 36 39] false)
  (.cond (.t 40)
  (.skip)
  (.exit 0)))
  (.seq (.block 1 (.seq (.reg [
  oF 43 0 2,
  oL 44 43,
  oM 45 5,
  oI 46 1 44 45,
  oL 47 46,
  oF 48 0 3,
  oL 49 48,
  oM 50 5,
  oI 51 1 49 50,
  oL 52 51,
  oB 53 .neq 47 52] true)
  (.cond (.t 53)
  (.seq (.reg [
  oV 4 (.bool false)] false)
  (.ret))
  (.skip))))
  (.reg [
  oM 41 5,
  oK 42 .add 41 1,
  oM 5 42] false))
def fn24 : AFn where
 ntmps := 54
 rs := 0
 results := [.tmp 4]
 body := .seq (.reg [
  o1 2 (.box 4 (.t 0)),
  o1 3 (.box 4 (.t 1)),
  oV 4 (.bool false)] false)
  (.seq (.seq (.reg [
  oF 6 0 2,
  oL 7 6,
  oN 8 7,
  oF 9 0 3,
  oL 10 9,
  oN 11 10,
  oB 12 .neq 8 11,
  oM 13 12,
  gd 13 false (oF 14 3 2),
  gd 13 false (oL 15 14),
  gd 13 false (oF 16 3 3),
  gd 13 false (oL 17 16),
  gd 13 false (oB 18 .neq 15 17),
  o1 19 (.pick (.t 13) kT (.t 18)),
  oM 20 19,
  gd 20 false (oF 21 1 2),
  gd 20 false (oL 22 21),
  gd 20 false (oF 23 1 3),
  gd 20 false (oL 24 23),
  gd 20 false (oC 25 73 [.t 22, .t 24]),
  gd 20 false (o1 26 (.un .not (.t 25))),
  o1 27 (.pick (.t 20) kT (.t 26)),
  oM 28 27,
  gd 28 false (oF 29 2 2),
  gd 28 false (oL 30 29),
  gd 28 false (oF 31 2 3),
  gd 28 false (oL 32 31),
  gd 28 false (oC 33 73 [.t 30, .t 32]),
  gd 28 false (o1 34 (.un .not (.t 33))),
  o1 35 (.pick (.t 28) kT (.t 34))] false)
  (.cond (.t 35)
  (.seq (.reg [
  oV 4 (.bool false)] false)
  (.ret))
  (.skip)))
  (.seq (.seq (.reg [
  oV 5 (.int .i64 0)] false)
  (.block 0 (.loop c24_0)))
  (.seq (.reg [
  oV 4 (.bool true)] false)
  (.ret))))
theorem cfn24 : compFn Tryz.prog 24 = some fn24 := by kernel_rfl
def fn25 : AFn where
 ntmps := 52
 rs := 0
 results := [.tmp 4]
 body := .seq (.reg [
  o1 2 (.box 7 (.t 0)),
  o1 3 (.box 7 (.t 1)),
  oV 4 (.bool false)] false)
  (.seq (.reg [
  oF 5 0 2,
  oL 6 5,
  oF 7 0 3,
  oL 8 7,
  oB 9 .eql 6 8,
  oM 10 9,
  gd 10 true (oF 11 1 2),
  gd 10 true (oL 12 11),
  gd 10 true (oF 13 1 3),
  gd 10 true (oL 14 13),
  gd 10 true (oB 15 .eql 12 14),
  o1 16 (.pick (.t 10) (.t 15) kF),
  oM 17 16,
  gd 17 true (oF 18 2 2),
  gd 17 true (oL 19 18),
  gd 17 true (oF 20 2 3),
  gd 17 true (oL 21 20),
  gd 17 true (oB 22 .eql 19 21),
  o1 23 (.pick (.t 17) (.t 22) kF),
  oM 24 23,
  gd 24 true (oF 25 3 2),
  gd 24 true (oL 26 25),
  gd 24 true (oF 27 3 3),
  gd 24 true (oL 28 27),
  gd 24 true (oB 29 .eql 26 28),
  o1 30 (.pick (.t 24) (.t 29) kF),
  oM 31 30,
  gd 31 true (oF 32 4 2),
  gd 31 true (oL 33 32),
  gd 31 true (oF 34 4 3),
  gd 31 true (oL 35 34),
  gd 31 true (oB 36 .eql 33 35),
  o1 37 (.pick (.t 31) (.t 36) kF),
  oM 38 37,
  gd 38 true (oF 39 6 2),
  gd 38 true (oL 40 39),
  gd 38 true (oF 41 6 3),
  gd 38 true (oL 42 41),
  gd 38 true (o1 43 (.eqb false (.t 40) (.t 42))),
  o1 44 (.pick (.t 38) (.t 43) kF),
  oM 45 44,
  gd 45 true (oF 46 5 2),
  gd 45 true (oL 47 46),
  gd 45 true (oF 48 5 3),
  gd 45 true (oL 49 48),
  gd 45 true (oC 50 34 [.t 47, .t 49]),
  o1 51 (.pick (.t 45) (.t 50) kF),
  oM 4 51] false)
  (.ret))
theorem cfn25 : compFn Tryz.prog 25 = some fn25 := by kernel_rfl
def fn26 : AFn where
 ntmps := 19
 rs := 0
 results := [.cell 4 true 6]
 body := .seq (.reg [
  o1 2 (.box 4 (.t 0)),
  o1 4 (.alloc zDon)] false)
  (.seq (.reg [
  oA 9 4 2,
  oM 10 1,
  oC 11 74 [.t 9, .t 10],
  oM 8 11,
  oE 12 8 0,
  oE 13 8 1,
  oE 14 8 2,
  o1 5 (.alloc zSys),
  oS 4 5 12,
  oM 6 13,
  oM 7 14] false)
  (.seq (.reg [
  oA 15 4 5,
  oM 16 6,
  oM 17 7,
  o1 18 (.build zDon [(0, 4, (.t 15)), (4, 1, (.t 16)), (5, 1, (.t 17))]),
  oS 6 4 18] false)
  (.ret)))
theorem cfn26 : compFn Tryz.prog 26 = some fn26 := by kernel_rfl
def c27_0 : ACode := .seq (.seq (.reg [
  oM 8 5,
  oM 9 1,
  oN 10 9,
  oB 11 .lss 8 10] false)
  (.cond (.t 11)
  (.skip)
  (.exit 0)))
  (.seq (.block 1 (.seq (.reg [
  oA 15 4 2,
  oM 16 1,
  oM 17 5,
  oI 18 7 16 17,
  oA 19 7 18,
  oC 20 21 [.t 15, .t 19],
  oM 14 20,
  oE 21 14 0,
  oE 22 14 1,
  o1 6 (.alloc zSys),
  oS 4 6 21,
  oM 7 22] true)
  (.seq (.seq (.reg [
  oM 23 7,
  oK 24 .neq 23 0] false)
  (.cond (.t 24)
  (.seq (.reg [
  oM 25 5,
  oM 26 7,
  o1 27 (.build zDon [(4, 1, (.t 25)), (5, 1, (.t 26))]),
  oS 6 4 27] false)
  (.ret))
  (.skip)))
  (.reg [
  oA 28 4 6,
  oS 4 2 28] false))))
  (.reg [
  oM 12 5,
  oK 13 .add 12 1,
  oM 5 13] false))
def fn27 : AFn where
 ntmps := 33
 rs := 0
 results := [.cell 4 true 6]
 body := .seq (.reg [
  o1 2 (.box 4 (.t 0)),
  o1 4 (.alloc zDon)] false)
  (.seq (.seq (.reg [
  oV 5 (.int .i64 0)] false)
  (.block 0 (.loop c27_0)))
  (.seq (.reg [
  oA 29 4 2,
  oM 30 1,
  oN 31 30,
  o1 32 (.build zDon [(0, 4, (.t 29)), (4, 1, (.t 31))]),
  oS 6 4 32] false)
  (.ret)))
theorem cfn27 : compFn Tryz.prog 27 = some fn27 := by kernel_rfl
def c28_0 : ACode := .seq (.seq (.reg [
  oM 46 5,
  oM 47 4,
  oB 48 .lss 46 47] false)
  (.cond (.t 48)
  (.skip)
  (.exit 2)))
  (.seq (.block 3 (.seq (.reg [
  oF 51 0 1,
  oL 52 51,
  oM 53 4,
  oI 54 1 52 53,
  oL 55 54,
  oF 56 0 1,
  oL 57 56,
  oM 58 5,
  oI 59 1 57 58,
  oL 60 59,
  oB 61 .eql 55 60] true)
  (.cond (.t 61)
  (.seq (.reg [
  oV 2 (.bool false)] false)
  (.ret))
  (.skip))))
  (.reg [
  oM 49 5,
  oK 50 .add 49 1,
  oM 5 50] false))
def c28_1 : ACode := .seq (.seq (.reg [
  oM 41 4,
  oM 42 3,
  oB 43 .lss 41 42] false)
  (.cond (.t 43)
  (.skip)
  (.exit 0)))
  (.seq (.block 1 (.seq (.seq (.reg [
  oV 5 (.int .i64 0)] false)
  (.block 2 (.loop c28_0)))
  (.seq (.reg [
  oF 62 0 1,
  oL 63 62,
  oM 64 4,
  oI 65 1 63 64,
  oL 66 65,
  oC 67 76 [.t 66],
  o1 68 (.un .not (.t 67))] false)
  (.cond (.t 68)
  (.seq (.reg [
  oV 2 (.bool false)] false)
  (.ret))
  (.skip)))))
  (.reg [
  oM 44 4,
  oK 45 .add 44 1,
  oM 4 45] false))
def c28_2 : ACode := .seq (.seq (.reg [
  oM 76 7,
  oF 77 2 1,
  oL 78 77,
  oN 79 78,
  oB 80 .lss 76 79] false)
  (.cond (.t 80)
  (.skip)
  (.exit 6)))
  (.seq (.block 7 (.seq (.reg [
  oF 83 1 1,
  oL 84 83,
  oM 85 6,
  oI 86 2 84 85,
  oF 87 0 86,
  oL 88 87,
  oF 89 2 1,
  oL 90 89,
  oM 91 7,
  oI 92 2 90 91,
  oF 93 0 92,
  oL 94 93,
  oB 95 .eql 88 94] true)
  (.cond (.t 95)
  (.seq (.reg [
  oV 2 (.bool false)] false)
  (.ret))
  (.skip))))
  (.reg [
  oM 81 7,
  oK 82 .add 81 1,
  oM 7 82] false))
def c28_3 : ACode := .seq (.seq (.reg [
  oM 69 6,
  oF 70 1 1,
  oL 71 70,
  oN 72 71,
  oB 73 .lss 69 72] false)
  (.cond (.t 73)
  (.skip)
  (.exit 4)))
  (.seq (.block 5 (.seq (.reg [
  oV 7 (.int .i64 0)] false)
  (.block 6 (.loop c28_2))))
  (.reg [
  oM 74 6,
  oK 75 .add 74 1,
  oM 6 75] false))
def fn28 : AFn where
 ntmps := 96
 rs := 0
 results := [.tmp 2]
 body := .seq (.reg [
  o1 1 (.box 4 (.t 0)),
  oV 2 (.bool false)] false)
  (.seq (.reg [
  oF 8 0 1,
  oL 9 8,
  oN 10 9,
  oM 3 10] false)
  (.seq (.seq (.reg [
  oM 11 3,
  oK 12 .gtr 11 4,
  oM 13 12,
  gd 13 false (oF 14 3 1),
  gd 13 false (oL 15 14),
  gd 13 false (oK 16 .lss 15 1),
  o1 17 (.pick (.t 13) kT (.t 16)),
  oM 18 17,
  gd 18 false (oF 19 3 1),
  gd 18 false (oL 20 19),
  gd 18 false (oK 21 .gtr 20 1000000),
  o1 22 (.pick (.t 18) kT (.t 21)),
  oM 23 22,
  gd 23 false (oF 24 1 1),
  gd 23 false (oL 25 24),
  gd 23 false (oM 26 3),
  gd 23 false (oF 27 3 1),
  gd 23 false (oL 28 27),
  gd 23 false (oC 29 75 [.t 25, .t 26, .t 28]),
  gd 23 false (o1 30 (.un .not (.t 29))),
  o1 31 (.pick (.t 23) kT (.t 30)),
  oM 32 31,
  gd 32 false (oF 33 2 1),
  gd 32 false (oL 34 33),
  gd 32 false (oM 35 3),
  gd 32 false (oF 36 3 1),
  gd 32 false (oL 37 36),
  gd 32 false (oC 38 75 [.t 34, .t 35, .t 37]),
  gd 32 false (o1 39 (.un .not (.t 38))),
  o1 40 (.pick (.t 32) kT (.t 39))] false)
  (.cond (.t 40)
  (.seq (.reg [
  oV 2 (.bool false)] false)
  (.ret))
  (.skip)))
  (.seq (.seq (.reg [
  oV 4 (.int .i64 0)] false)
  (.block 0 (.loop c28_1)))
  (.seq (.seq (.reg [
  oV 6 (.int .i64 0)] false)
  (.block 4 (.loop c28_3)))
  (.seq (.reg [
  oV 2 (.bool true)] false)
  (.ret))))))
theorem cfn28 : compFn Tryz.prog 28 = some fn28 := by kernel_rfl
def fn29 : AFn where
 ntmps := 11
 rs := 0
 results := [.tmp 4]
 body := .seq (.reg [
  o1 2 (.box 4 (.t 0)),
  o1 3 (.box 4 (.t 1)),
  oV 4 (.bool false)] false)
  (.seq (.reg [
  oF 5 3 3,
  oL 6 5,
  oF 7 3 2,
  oS 1 7 6] false)
  (.seq (.reg [
  oA 8 4 2,
  oA 9 4 3,
  oC 10 24 [.t 8, .t 9],
  oM 4 10] false)
  (.ret)))
theorem cfn29 : compFn Tryz.prog 29 = some fn29 := by kernel_rfl
def c33_0 : ACode := .seq (.seq (.reg [
  oM 8 6,
  oM 9 0,
  oN 10 9,
  oB 11 .lss 8 10] false)
  (.cond (.t 11)
  (.skip)
  (.exit 0)))
  (.seq (.block 1 (.seq (.reg [
  oM 14 0,
  oM 15 6,
  oI 16 2 14 15,
  oF 17 0 16,
  oL 18 17,
  oM 19 1,
  oB 20 .neq 18 19] false)
  (.cond (.t 20)
  (.reg [
  oM 21 5,
  oM 22 0,
  oM 23 6,
  oI 24 2 22 23,
  oA 25 2 24,
  o1 26 (.bsl 2 1 zEq [(0, 2, (.t 25))]),
  o1 27 (.app 2 32 (.t 21) (.t 26)),
  oM 5 27] false)
  (.skip))))
  (.reg [
  oM 12 6,
  oK 13 .add 12 1,
  oM 6 13] false))
def fn33 : AFn where
 ntmps := 29
 rs := 2
 results := [.tmp 4]
 body := .seq (.reg [
  oV 4 kE] false)
  (.seq (.reg [
  o1 7 (.bsl 2 0 zEq []),
  oM 5 7] false)
  (.seq (.seq (.reg [
  oV 6 (.int .i64 0)] false)
  (.block 0 (.loop c33_0)))
  (.seq (.reg [
  oM 28 5,
  oM 4 28] false)
  (.ret))))
theorem cfn33 : compFn Tryz.prog 33 = some fn33 := by kernel_rfl
def c34_0 : ACode := .seq (.seq (.reg [
  oM 11 5,
  oM 12 0,
  oN 13 12,
  oB 14 .lss 11 13] false)
  (.cond (.t 14)
  (.skip)
  (.exit 0)))
  (.seq (.block 1 (.seq (.reg [
  oM 17 0,
  oM 18 5,
  oI 19 12 17 18,
  oA 20 12 19,
  oM 21 1,
  oM 22 5,
  oI 23 12 21 22,
  oA 24 12 23,
  oC 25 80 [.t 20, .t 24],
  o1 26 (.un .not (.t 25))] true)
  (.cond (.t 26)
  (.seq (.reg [
  oV 4 (.bool false)] false)
  (.ret))
  (.skip))))
  (.reg [
  oM 15 5,
  oK 16 .add 15 1,
  oM 5 16] false))
def fn34 : AFn where
 ntmps := 27
 rs := 0
 results := [.tmp 4]
 body := .seq (.reg [
  oV 4 (.bool false)] false)
  (.seq (.seq (.reg [
  oM 6 0,
  oN 7 6,
  oM 8 1,
  oN 9 8,
  oB 10 .neq 7 9] false)
  (.cond (.t 10)
  (.seq (.reg [
  oV 4 (.bool false)] false)
  (.ret))
  (.skip)))
  (.seq (.seq (.reg [
  oV 5 (.int .i64 0)] false)
  (.block 0 (.loop c34_0)))
  (.seq (.reg [
  oV 4 (.bool true)] false)
  (.ret))))
theorem cfn34 : compFn Tryz.prog 34 = some fn34 := by kernel_rfl
end Go.Va
end
section
open Go.Proofs
namespace Go.Va
def c35_0 : ACode := .seq (.reg [
  oB 47 .lss 46 45] false)
  (.seq (.cond (.t 47)
  (.skip)
  (.exit 0))
  (.seq (.block 1 (.reg [
  oL 48 6,
  o1 49 (.build zEdt [(0, 1, (kI 2))]),
  o1 50 (.bsl 7 1 zEdt [(0, 7, (.t 49))]),
  o1 51 (.app 7 80 (.t 48) (.t 50)),
  oS 1 6 51] false))
  (.reg [
  oK 52 .add 46 1,
  oM 46 52] false)))
def c35_1 : ACode := .seq (.reg [
  oB 57 .lss 56 55] false)
  (.seq (.cond (.t 57)
  (.skip)
  (.exit 2))
  (.seq (.block 3 (.seq (.reg [
  oM 58 56,
  oI 59 1 54 56,
  oL 60 59,
  oM 11 58,
  oM 12 60] false)
  (.reg [
  oL 61 6,
  oM 62 11,
  oM 63 12,
  o1 64 (.build zEdt [(0, 1, (kI 1)), (2, 1, (.t 62)), (1, 1, (.t 63))]),
  o1 65 (.bsl 7 1 zEdt [(0, 7, (.t 64))]),
  o1 66 (.app 7 80 (.t 61) (.t 65)),
  oS 1 6 66] false)))
  (.reg [
  oK 67 .add 56 1,
  oM 56 67] false)))
def fn35 : AFn where
 ntmps := 81
 rs := 7
 results := [.tmp 4, .tmp 5]
 body := .seq (.reg [
  o1 2 (.box 4 (.t 0)),
  o1 3 (.box 4 (.t 1)),
  oV 4 kE,
  oV 5 (.int .i64 0)] false)
  (.seq (.seq (.reg [
  oA 13 4 2,
  oC 14 81 [.t 13],
  o1 15 (.un .not (.t 14)),
  oM 16 15,
  gd 16 false (oA 17 4 3),
  gd 16 false (oC 18 81 [.t 17]),
  gd 16 false (o1 19 (.un .not (.t 18))),
  o1 20 (.pick (.t 16) kT (.t 19))] false)
  (.cond (.t 20)
  (.seq (.reg [
  oV 4 kE,
  oV 5 (.int .i64 320)] false)
  (.ret))
  (.skip)))
  (.seq (.reg [
  o1 6 (.alloc [kE])] false)
  (.seq (.reg [
  oF 21 0 2,
  oL 22 21,
  oF 23 0 3,
  oL 24 23,
  oC 25 82 [.t 22, .t 24],
  o1 7 (.alloc [(.bool false)]),
  oS 1 7 25] false)
  (.seq (.reg [
  o1 26 (.mkf 83 [] [.t 7]),
  o1 8 (.alloc [.nilf]),
  oS 1 8 26] false)
  (.seq (.reg [
  o1 27 (.mkf 85 [] [.t 8, .t 6]),
  oM 9 27] false)
  (.seq (.reg [
  o1 28 (.mkf 86 [] [.t 8, .t 6]),
  oM 10 28] false)
  (.seq (.reg [
  oM 29 9,
  oF 30 1 2,
  oL 31 30,
  oF 32 1 3,
  oL 33 32,
  o1 34 (.call (.t 29) [.t 31, .t 33])] false)
  (.seq (.reg [
  oM 35 9,
  oF 36 2 2,
  oL 37 36,
  oF 38 2 3,
  oL 39 38,
  o1 40 (.call (.t 35) [.t 37, .t 39])] false)
  (.seq (.seq (.reg [
  oL 41 7,
  o1 42 (.un .not (.t 41))] false)
  (.cond (.t 42)
  (.seq (.seq (.reg [
  oF 43 0 2,
  oL 44 43,
  oN 45 44,
  oV 46 (.int .i64 0)] false)
  (.block 0 (.loop c35_0)))
  (.seq (.reg [
  oF 53 0 3,
  oL 54 53,
  oN 55 54,
  oV 56 (.int .i64 0)] false)
  (.block 2 (.loop c35_1))))
  (.skip)))
  (.seq (.reg [
  oM 68 10,
  oF 69 1 2,
  oL 70 69,
  oF 71 1 3,
  oL 72 71,
  o1 73 (.call (.t 68) [(.t 70), (.t 72), kF])] false)
  (.seq (.reg [
  oM 74 10,
  oF 75 2 2,
  oL 76 75,
  oF 77 2 3,
  oL 78 77,
  o1 79 (.call (.t 74) [(.t 76), (.t 78), kT])] false)
  (.seq (.reg [
  oL 80 6,
  oM 4 80,
  oV 5 (.int .i64 0)] false)
  (.ret)))))))))))))
theorem cfn35 : compFn Tryz.prog 35 = some fn35 := by kernel_rfl
def fn45 : AFn where
 ntmps := 77
 rs := 0
 results := [.cell 4 true 7]
 body := .seq (.reg [
  o1 2 (.box 4 (.t 0)),
  o1 3 (.box 5 (.t 1)),
  o1 4 (.alloc zEdt)] false)
  (.seq (.reg [
  oF 7 0 2,
  oL 8 7,
  oN 9 8,
  oM 5 9] false)
  (.seq (.reg [
  oF 10 0 3,
  ⟨(some 11), .ld false 1 (.t 10), none, [29]⟩,
  o1 12 (.bin .rem (.t 11) (.c (.int .u8 16))),
  o1 13 (.conv .i64 (.t 12)),
  o1 14 (.bin .add (kI 1) (.t 13)),
  oF 15 1 3,
  ⟨(some 16), .ld false 1 (.t 15), none, [29]⟩,
  o1 17 (.conv .i64 (.t 16)),
  oM 18 5,
  oK 19 .add 18 1,
  oB 20 .rem 17 19,
  oF 21 2 3,
  ⟨(some 22), .ld false 1 (.t 21), none, [29]⟩,
  o1 23 (.conv .i64 (.t 22)),
  oM 24 5,
  oK 25 .add 24 1,
  oB 26 .rem 23 25,
  oF 27 3 3,
  ⟨(some 28), .ld false 1 (.t 27), none, [29]⟩,
  o1 29 (.conv .i64 (.t 28)),
  oF 30 3 2,
  ⟨(some 31), .ld false 1 (.t 30), none, [29]⟩,
  oK 32 .add 31 1,
  oB 33 .rem 29 32,
  oF 34 2 3,
  ⟨(some 35), .ld false 1 (.t 34), none, [29]⟩,
  o1 36 (.bin .rem (.t 35) (.c (.int .u8 4))),
  o1 37 (.bin .eql (.t 36) (.c (.int .u8 3))),
  oC 38 96 [],
  oF 39 3 3,
  ⟨(some 40), .ld false 1 (.t 39), none, [0]⟩,
  o1 41 (.bin .rem (.t 40) (.c (.int .u8 6))),
  oI 42 1 38 41,
  oL 43 42,
  o1 44 (.build zEdt [(0, 1, (.t 14)), (2, 1, (.t 20)), (3, 1, (.t 26)), (4, 1, (.t 33)), (6, 1, (.t 37)), (1, 1, (.t 43))]),
  o1 6 (.alloc zEdt),
  oS 7 6 44] true)
  (.seq (.seq (.reg [
  oF 45 0 3,
  oL 46 45,
  o1 47 (.bin .rem (.t 46) (.c (.int .u8 16))),
  o1 48 (.bin .geq (.t 47) (.c (.int .u8 8)))] false)
  (.cond (.t 48)
  (.seq (.reg [
  oF 49 1 3,
  oL 50 49,
  o1 51 (.bin .rem (.t 50) (.c (.int .u8 4))),
  o1 52 (.conv .i64 (.t 51)),
  o1 53 (.bin .add (kI 5) (.t 52)),
  oF 54 0 6,
  oS 1 54 53] false)
  (.seq (.reg [
  oF 55 1 3,
  oL 56 55,
  o1 57 (.bin .rem (.t 56) (.c (.int .u8 8))),
  o1 58 (.bin .lss (.t 57) (.c (.int .u8 5)))] false)
  (.cond (.t 58)
  (.reg [
  oF 59 0 6,
  o0 (.st 1 (.t 59) (kI 5))] false)
  (.skip))))
  (.skip)))
  (.seq (.seq (.reg [
  oF 60 0 6,
  oL 61 60,
  oK 62 .eql 61 5,
  oM 63 62,
  gd 63 true (oF 64 3 3),
  gd 63 true (oL 65 64),
  gd 63 true (o1 66 (.bin .rem (.t 65) (.c (.int .u8 4)))),
  gd 63 true (o1 67 (.bin .gtr (.t 66) (.c (.int .u8 0)))),
  o1 68 (.pick (.t 63) (.t 67) kF)] false)
  (.cond (.t 68)
  (.reg [
  oF 69 4 6,
  o0 (.st 1 (.t 69) (kI 0))] false)
  (.skip)))
  (.seq (.reg [
  oF 70 4 3,
  oA 71 1 70,
  oM 72 5,
  o1 73 (.mini [(.t 72), (kI 3)]),
  oC 74 58 [(.t 71), (.t 73), (kI 2), (kI 3)],
  oF 75 5 6,
  oS 1 75 74] false)
  (.seq (.reg [
  oA 76 7 6,
  oS 7 4 76] false)
  (.ret)))))))
theorem cfn45 : compFn Tryz.prog 45 = some fn45 := by kernel_rfl
def fn54 : AFn where
 ntmps := 10
 rs := 12
 results := [.tmp 4]
 body := .seq (.reg [
  oV 4 kE] false)
  (.seq (.reg [
  oM 5 0,
  oC 6 77 [(kI (-1))],
  oM 7 1,
  oC 8 103 [.t 6, .t 7],
  oC 9 102 [.t 5, .t 8],
  oM 4 9] false)
  (.ret))
theorem cfn54 : compFn Tryz.prog 54 = some fn54 := by kernel_rfl
def fn55 : AFn where
 ntmps := 14
 rs := 12
 results := [.tmp 4]
 body := .seq (.reg [
  oV 4 kE] false)
  (.seq (.reg [
  oM 8 0,
  oM 9 1,
  oC 10 104 [.t 8, .t 9],
  oM 7 10,
  oE 11 7 0,
  oE 12 7 1,
  oM 5 11,
  oM 6 12] false)
  (.seq (.reg [
  oM 13 5,
  oM 4 13] false)
  (.ret)))
theorem cfn55 : compFn Tryz.prog 55 = some fn55 := by kernel_rfl
def fn56 : AFn where
 ntmps := 11
 rs := 12
 results := [.tmp 2]
 body := .seq (.reg [
  oV 2 kE] false)
  (.seq (.reg [
  oM 6 0,
  oC 7 105 [.t 6],
  oM 5 7,
  oE 8 5 0,
  oE 9 5 1,
  oM 3 8,
  oM 4 9] false)
  (.seq (.reg [
  oM 10 3,
  oM 2 10] false)
  (.ret)))
theorem cfn56 : compFn Tryz.prog 56 = some fn56 := by kernel_rfl
def fn57 : AFn where
 ntmps := 6
 rs := 12
 results := [.tmp 2]
 body := .seq (.reg [
  oV 2 kE] false)
  (.seq (.reg [
  oM 3 0,
  oC 4 77 [.t 3],
  oC 5 106 [.t 4],
  oM 2 5] false)
  (.ret))
theorem cfn57 : compFn Tryz.prog 57 = some fn57 := by kernel_rfl
def c58_0 : ACode := .seq (.seq (.reg [
  oM 29 13,
  oM 30 1,
  oB 31 .lss 29 30,
  oM 32 31,
  gd 32 true (oM 33 13),
  gd 32 true (oK 34 .lss 33 4),
  o1 35 (.pick (.t 32) (.t 34) kF)] false)
  (.cond (.t 35)
  (.skip)
  (.exit 2)))
  (.seq (.block 3 (.seq (.reg [
  oM 38 13,
  oF 39 0 4,
  oL 40 39,
  oM 41 10,
  oM 42 13,
  o1 43 (.bin .add (kI 1) (.t 42)),
  oI 44 5 40 41,
  o1 45 (.iadA 5 1 (.t 44) (.t 43)),
  oL 46 45,
  oC 47 107 [.t 46],
  oM 48 12,
  oK 49 .add 48 1,
  oB 50 .rem 47 49,
  o1 51 (.iadA 8 1 (.t 11) (.t 38)),
  oS 1 51 50] false)
  (.reg [
  oM 52 12,
  oM 53 13,
  o1 54 (.iadA 8 1 (.t 11) (.t 53)),
  oL 55 54,
  oB 56 .sub 52 55,
  oM 12 56] false)))
  (.reg [
  oM 36 13,
  oK 37 .add 36 1,
  oM 13 37] false))
def c58_1 : ACode := .seq (.seq (.reg [
  oM 15 10,
  oF 16 0 4,
  oL 17 16,
  oN 18 17,
  oB 19 .lss 15 18,
  oM 20 19,
  gd 20 true (oM 21 10),
  gd 20 true (oM 22 3),
  gd 20 true (oB 23 .lss 21 22),
  o1 24 (.pick (.t 20) (.t 23) kF)] false)
  (.cond (.t 24)
  (.skip)
  (.exit 0)))
  (.seq (.block 1 (.seq (.reg [
  o1 27 (.build zMon []),
  o1 11 (.alloc zMon),
  oS 8 11 27] false)
  (.seq (.reg [
  oM 28 2,
  oM 12 28] false)
  (.seq (.seq (.reg [
  oV 13 (.int .i64 0)] false)
  (.block 2 (.loop c58_0)))
  (.reg [
  oM 57 9,
  oF 58 0 4,
  oL 59 58,
  oM 60 10,
  oI 61 5 59 60,
  o1 62 (.iadA 5 1 (.t 61) (kI 0)),
  oL 63 62,
  o1 64 (.bin .rem (.t 63) (.c (.int .i8 4))),
  o1 65 (.conv .i64 (.t 64)),
  oC 66 77 [.t 65],
  oC 67 77 [(kI 1)],
  ⟨(some 68), .ld true 8 (.t 11), none, [0, 10]⟩,
  o1 69 (.build zTerm [(0, 4, (.t 67)), (4, 8, (.t 68))]),
  o1 70 (.bsl 12 1 zTerm [(0, 12, (.t 69))]),
  oC 71 103 [.t 66, .t 70],
  oC 72 102 [.t 57, .t 71],
  oM 9 72] true)))))
  (.reg [
  oM 25 10,
  oK 26 .add 25 1,
  oM 10 26] false))
def fn58 : AFn where
 ntmps := 74
 rs := 12
 results := [.tmp 8]
 body := .seq (.reg [
  o1 4 (.box 1 (.t 0)),
  oV 8 kE] false)
  (.seq (.reg [
  o1 14 (.bsl 12 0 zTerm []),
  oM 9 14] false)
  (.seq (.seq (.reg [
  oV 10 (.int .i64 0)] false)
  (.block 0 (.loop c58_1)))
  (.seq (.reg [
  oM 73 9,
  oM 8 73] false)
  (.ret))))
theorem cfn58 : compFn Tryz.prog 58 = some fn58 := by kernel_rfl
def fn59 : AFn where
 ntmps := 41
 rs := 0
 results := [.cell 2 true 4, .tmp 3]
 body := .seq (.reg [
  o1 1 (.box 11 (.t 0)),
  o1 2 (.alloc zSys),
  oV 3 (.int .i64 0)] false)
  (.seq (.reg [
  oF 6 0 1,
  oF 7 0 6,
  oL 8 7,
  oN 9 8,
  o1 4 (.alloc [(.int .i64 0)]),
  oS 1 4 9] false)
  (.seq (.seq (.reg [
  o1 10 (.mkf 109 [] [.t 4]),
  o1 11 (.build [(.int .i64 0), .nilf] [(0, 1, (kI 2)), (1, 1, (.t 10))]),
  o1 12 (.mkf 110 [] [.t 1, .t 4]),
  o1 13 (.build [(.int .i64 0), .nilf] [(0, 1, (kI 330)), (1, 1, (.t 12))]),
  o1 14 (.mkf 111 [] [.t 1]),
  o1 15 (.build [(.int .i64 0), .nilf] [(0, 1, (kI 331)), (1, 1, (.t 14))]),
  o1 16 (.bsl 2 3 [(.int .i64 0), .nilf] [(0, 2, (.t 11)), (2, 2, (.t 13)), (4, 2, (.t 15))]),
  oC 17 108 [.t 16],
  oM 5 17] false)
  (.seq (.reg [
  oM 18 5,
  oK 19 .neq 18 0] false)
  (.cond (.t 19)
  (.seq (.reg [
  o1 20 (.build zSys []),
  oM 21 5,
  oS 4 2 20,
  oM 3 21] false)
  (.ret))
  (.skip))))
  (.seq (.reg [
  ⟨(some 22), .ld true 11 (.t 1), none, [5, 13, 18]⟩,
  oF 23 0 1,
  oF 24 0 23,
  oL 25 24,
  oC 26 116 [.t 25],
  oF 27 4 1,
  oF 28 2 27,
  ⟨(some 29), .ld false 1 (.t 28), none, [0]⟩,
  oF 30 4 1,
  oF 31 1 30,
  ⟨(some 32), .ld false 1 (.t 31), none, [0]⟩,
  o1 33 (.bsl 1 1 [(.str ⟨#[]⟩)] [(0, 1, (.t 32))]),
  oC 34 115 [.t 26, .t 29, .t 33],
  ⟨(some 35), .ld false 1 (.t 4), none, [0, 5]⟩,
  oF 36 4 1,
  oF 37 2 36,
  ⟨(some 38), .ld false 1 (.t 37), none, [0, 5]⟩,
  oC 39 117 [.t 35, .t 38],
  oC 40 114 [.t 22, .t 34, .t 39],
  oS 4 2 40,
  oV 3 (.int .i64 0)] true)
  (.ret))))
theorem cfn59 : compFn Tryz.prog 59 = some fn59 := by kernel_rfl
def fn60 : AFn where
 ntmps := 39
 rs := 0
 results := [.cell 2 true 4, .tmp 3]
 body := .seq (.reg [
  o1 1 (.box 11 (.t 0)),
  o1 2 (.alloc zSys),
  oV 3 (.int .i64 0)] false)
  (.seq (.seq (.reg [
  o1 5 (.mkf 118 [] [.t 1]),
  o1 6 (.build [(.int .i64 0), .nilf] [(0, 1, (kI 330)), (1, 1, (.t 5))]),
  oA 7 11 1,
  o1 8 (.mkf 120 [.t 7] []),
  o1 9 (.build [(.int .i64 0), .nilf] [(0, 1, (kI 333)), (1, 1, (.t 8))]),
  o1 10 (.bsl 2 2 [(.int .i64 0), .nilf] [(0, 2, (.t 6)), (2, 2, (.t 9))]),
  oC 11 108 [.t 10],
  oM 4 11] false)
  (.seq (.reg [
  oM 12 4,
  oK 13 .neq 12 0] false)
  (.cond (.t 13)
  (.seq (.reg [
  o1 14 (.build zSys []),
  oM 15 4,
  oS 4 2 14,
  oM 3 15] false)
  (.ret))
  (.skip))))
  (.seq (.reg [
  ⟨(some 16), .ld true 11 (.t 1), none, [5, 13, 22]⟩,
  oF 17 0 1,
  oF 18 0 17,
  oL 19 18,
  oC 20 116 [.t 19],
  oF 21 4 1,
  oF 22 2 21,
  ⟨(some 23), .ld false 1 (.t 22), none, [0]⟩,
  oF 24 4 1,
  oF 25 2 24,
  ⟨(some 26), .ld false 1 (.t 25), none, [0]⟩,
  oK 27 .add 26 1,
  oC 28 121 [.t 20, .t 23, .t 27],
  oF 29 4 1,
  oF 30 2 29,
  ⟨(some 31), .ld false 1 (.t 30), none, [0, 5]⟩,
  oF 32 0 1,
  oF 33 0 32,
  ⟨(some 34), .ld false 1 (.t 33), none, [0, 5]⟩,
  oN 35 34,
  oK 36 .sub 35 1,
  oC 37 117 [.t 31, .t 36],
  oC 38 114 [.t 16, .t 28, .t 37],
  oS 4 2 38,
  oV 3 (.int .i64 0)] true)
  (.ret)))
theorem cfn60 : compFn Tryz.prog 60 = some fn60 := by kernel_rfl
def fn61 : AFn where
 ntmps := 33
 rs := 0
 results := [.cell 2 true 4, .tmp 3]
 body := .seq (.reg [
  o1 1 (.box 11 (.t 0)),
  o1 2 (.alloc zSys),
  oV 3 (.int .i64 0)] false)
  (.seq (.seq (.reg [
  o1 5 (.mkf 122 [] [.t 1]),
  o1 6 (.build [(.int .i64 0), .nilf] [(0, 1, (kI 330)), (1, 1, (.t 5))]),
  o1 7 (.mkf 123 [] [.t 1]),
  o1 8 (.build [(.int .i64 0), .nilf] [(0, 1, (kI 331)), (1, 1, (.t 7))]),
  o1 9 (.bsl 2 2 [(.int .i64 0), .nilf] [(0, 2, (.t 6)), (2, 2, (.t 8))]),
  oC 10 108 [.t 9],
  oM 4 10] false)
  (.seq (.reg [
  oM 11 4,
  oK 12 .neq 11 0] false)
  (.cond (.t 12)
  (.seq (.reg [
  o1 13 (.build zSys []),
  oM 14 4,
  oS 4 2 13,
  oM 3 14] false)
  (.ret))
  (.skip))))
  (.seq (.reg [
  oF 15 0 1,
  oF 16 0 15,
  oL 17 16,
  oC 18 116 [.t 17],
  oF 19 0 1,
  oF 20 0 19,
  oS 1 20 18] false)
  (.seq (.reg [
  oF 21 0 1,
  oF 22 0 21,
  oL 23 22,
  oF 24 4 1,
  oF 25 2 24,
  oL 26 25,
  oF 27 4 1,
  oF 28 1 27,
  oL 29 28,
  oI 30 1 23 26,
  oS 1 30 29] false)
  (.seq (.reg [
  oF 31 0 1,
  oA 32 4 31,
  oS 4 2 32,
  oV 3 (.int .i64 0)] false)
  (.ret)))))
theorem cfn61 : compFn Tryz.prog 61 = some fn61 := by kernel_rfl
def fn62 : AFn where
 ntmps := 66
 rs := 0
 results := [.cell 2 true 4, .tmp 3]
 body := .seq (.reg [
  o1 1 (.box 11 (.t 0)),
  o1 2 (.alloc zSys),
  oV 3 (.int .i64 0)] false)
  (.seq (.seq (.reg [
  oA 6 11 1,
  oF 7 4 1,
  oF 8 2 7,
  oL 9 8,
  oC 10 119 [.t 6, .t 9],
  o1 11 (.un .not (.t 10)),
  oM 12 11,
  gd 12 false (oA 13 11 1),
  gd 12 false (oF 14 4 1),
  gd 12 false (oF 15 3 14),
  gd 12 false (oL 16 15),
  gd 12 false (oC 17 119 [.t 13, .t 16]),
  gd 12 false (o1 18 (.un .not (.t 17))),
  o1 19 (.pick (.t 12) kT (.t 18))] false)
  (.cond (.t 19)
  (.seq (.reg [
  o1 20 (.build zSys []),
  oS 4 2 20,
  oV 3 (.int .i64 330)] false)
  (.ret))
  (.skip)))
  (.seq (.reg [
  oC 21 117 [(kI 0), (kI 0)],
  o1 4 (.alloc zMon),
  oS 8 4 21] false)
  (.seq (.reg [
  oF 22 4 1,
  oF 23 2 22,
  oL 24 23,
  oF 25 4 1,
  oF 26 3 25,
  ⟨(some 27), .ld false 1 (.t 26), none, [14]⟩,
  oF 28 4 1,
  oF 29 3 28,
  oL 30 29,
  oF 31 4 1,
  oF 32 2 31,
  ⟨(some 33), .ld false 1 (.t 32), none, [14]⟩,
  o1 34 (.iadA 8 1 (.t 4) (.t 24)),
  oS 1 34 30,
  o1 35 (.iadA 8 1 (.t 4) (.t 27)),
  oS 1 35 33] true)
  (.seq (.reg [
  oF 36 0 1,
  oF 37 0 36,
  oL 38 37,
  oC 39 116 [.t 38],
  oM 5 39] false)
  (.seq (.reg [
  oM 40 5,
  oF 41 4 1,
  oF 42 2 41,
  oL 43 42,
  oM 44 5,
  oF 45 4 1,
  oF 46 3 45,
  ⟨(some 47), .ld false 1 (.t 46), none, [22]⟩,
  oM 48 5,
  oF 49 4 1,
  oF 50 3 49,
  oL 51 50,
  oI 52 1 48 51,
  oL 53 52,
  oM 54 5,
  oF 55 4 1,
  oF 56 2 55,
  oL 57 56,
  oI 58 1 54 57,
  oL 59 58,
  oI 60 1 40 43,
  oS 1 60 53,
  oI 61 1 44 47,
  oS 1 61 59] true)
  (.seq (.reg [
  oA 62 11 1,
  oM 63 5,
  oA 64 8 4,
  oC 65 114 [.t 62, .t 63, .t 64],
  oS 4 2 65,
  oV 3 (.int .i64 0)] false)
  (.ret)))))))
theorem cfn62 : compFn Tryz.prog 62 = some fn62 := by kernel_rfl
def fn63 : AFn where
 ntmps := 56
 rs := 0
 results := [.cell 2 true 4, .tmp 3]
 body := .seq (.reg [
  o1 1 (.box 11 (.t 0)),
  o1 2 (.alloc zSys),
  oV 3 (.int .i64 0)] false)
  (.seq (.reg [
  oF 7 0 1,
  oF 8 1 7,
  o1 4 (.alloc [.nilp]),
  oS 1 4 8] false)
  (.seq (.seq (.reg [
  oF 9 4 1,
  oF 10 6 9,
  oL 11 10] false)
  (.cond (.t 11)
  (.reg [
  oF 12 0 1,
  oF 13 2 12,
  oS 1 4 13] false)
  (.skip)))
  (.seq (.seq (.reg [
  o1 14 (.mkf 124 [] [.t 1]),
  o1 15 (.build [(.int .i64 0), .nilf] [(0, 1, (kI 332)), (1, 1, (.t 14))]),
  o1 16 (.mkf 126 [] [.t 4, .t 1]),
  o1 17 (.build [(.int .i64 0), .nilf] [(0, 1, (kI 2)), (1, 1, (.t 16))]),
  oA 18 11 1,
  o1 19 (.mkf 127 [.t 18] []),
  o1 20 (.build [(.int .i64 0), .nilf] [(0, 1, (kI 320)), (1, 1, (.t 19))]),
  o1 21 (.bsl 2 3 [(.int .i64 0), .nilf] [(0, 2, (.t 15)), (2, 2, (.t 17)), (4, 2, (.t 20))]),
  oC 22 108 [.t 21],
  oM 5 22] false)
  (.seq (.reg [
  oM 23 5,
  oK 24 .neq 23 0] false)
  (.cond (.t 24)
  (.seq (.reg [
  o1 25 (.build zSys []),
  oM 26 5,
  oS 4 2 25,
  oM 3 26] false)
  (.ret))
  (.skip))))
  (.seq (.reg [
  oF 27 4 1,
  oF 28 4 27,
  oL 29 28,
  oM 6 29] false)
  (.seq (.seq (.reg [
  oM 30 6,
  oK 31 .eql 30 0] false)
  (.cond (.t 31)
  (.reg [
  oF 32 0 1,
  oF 33 3 32,
  oL 34 33,
  oM 6 34] false)
  (.skip)))
  (.seq (.reg [
  ⟨(some 35), .ld false 1 (.t 4), none, [10]⟩,
  oL 36 4,
  o1 37 (.nilc (.t 36)),
  oL 38 37,
  oM 39 6,
  oF 40 4 1,
  oF 41 5 40,
  oL 42 41,
  o1 43 (.build zEq [(0, 1, (.t 39)), (1, 1, (.t 42))]),
  oC 44 128 [.t 38, .t 43],
  oF 45 0 1,
  oF 46 3 45,
  ⟨(some 47), .ld false 1 (.t 46), none, [0]⟩,
  oM 48 6,
  oK 49 .add 48 1,
  o1 50 (.maxi [.t 47, .t 49]),
  o1 51 (.nilc (.t 35)),
  oS 1 51 44,
  oF 52 0 1,
  oF 53 3 52,
  oS 1 53 50] true)
  (.seq (.reg [
  oF 54 0 1,
  oA 55 4 54,
  oS 4 2 55,
  oV 3 (.int .i64 0)] false)
  (.ret))))))))
theorem cfn63 : compFn Tryz.prog 63 = some fn63 := by kernel_rfl
def fn64 : AFn where
 ntmps := 28
 rs := 0
 results := [.cell 2 true 4, .tmp 3]
 body := .seq (.reg [
  o1 1 (.box 11 (.t 0)),
  o1 2 (.alloc zSys),
  oV 3 (.int .i64 0)] false)
  (.seq (.seq (.reg [
  oA 4 11 1,
  oC 5 125 [.t 4],
  o1 6 (.un .not (.t 5))] false)
  (.cond (.t 6)
  (.seq (.reg [
  o1 7 (.build zSys []),
  oS 4 2 7,
  oV 3 (.int .i64 332)] false)
  (.ret))
  (.skip)))
  (.seq (.reg [
  oF 8 0 1,
  oF 9 1 8,
  oL 10 9,
  oF 11 4 1,
  oF 12 4 11,
  oL 13 12,
  oC 14 129 [.t 10, .t 13],
  oF 15 0 1,
  oF 16 2 15,
  ⟨(some 17), .ld false 1 (.t 16), none, [0]⟩,
  oF 18 4 1,
  oF 19 4 18,
  ⟨(some 20), .ld false 1 (.t 19), none, [0]⟩,
  oC 21 129 [.t 17, .t 20],
  oF 22 0 1,
  oF 23 1 22,
  oS 1 23 14,
  oF 24 0 1,
  oF 25 2 24,
  oS 1 25 21] true)
  (.seq (.reg [
  oF 26 0 1,
  oA 27 4 26,
  oS 4 2 27,
  oV 3 (.int .i64 0)] false)
  (.ret))))
theorem cfn64 : compFn Tryz.prog 64 = some fn64 := by kernel_rfl
def fn65 : AFn where
 ntmps := 49
 rs := 0
 results := [.cell 2 true 4, .tmp 3]
 body := .seq (.reg [
  o1 1 (.box 11 (.t 0)),
  o1 2 (.alloc zSys),
  oV 3 (.int .i64 0)] false)
  (.seq (.seq (.reg [
  oA 6 11 1,
  o1 7 (.mkf 125 [.t 6] []),
  o1 8 (.build [(.int .i64 0), .nilf] [(0, 1, (kI 332)), (1, 1, (.t 7))]),
  oA 9 11 1,
  o1 10 (.mkf 127 [.t 9] []),
  o1 11 (.build [(.int .i64 0), .nilf] [(0, 1, (kI 320)), (1, 1, (.t 10))]),
  o1 12 (.bsl 2 2 [(.int .i64 0), .nilf] [(0, 2, (.t 8)), (2, 2, (.t 11))]),
  oC 13 108 [.t 12],
  oM 4 13] false)
  (.seq (.reg [
  oM 14 4,
  oK 15 .neq 14 0] false)
  (.cond (.t 15)
  (.seq (.reg [
  o1 16 (.build zSys []),
  oM 17 4,
  oS 4 2 16,
  oM 3 17] false)
  (.ret))
  (.skip))))
  (.seq (.reg [
  oF 18 4 1,
  oF 19 4 18,
  oL 20 19,
  oF 21 4 1,
  oF 22 5 21,
  oL 23 22,
  o1 24 (.build zEq [(0, 1, (.t 20)), (1, 1, (.t 23))]),
  o1 5 (.alloc zEq),
  oS 2 5 24] false)
  (.seq (.seq (.reg [
  oF 25 0 1,
  oF 26 1 25,
  oL 27 26,
  oF 28 4 1,
  oF 29 4 28,
  oL 30 29,
  oC 31 71 [.t 27, .t 30],
  oK 32 .geq 31 0] false)
  (.cond (.t 32)
  (.reg [
  oF 33 0 1,
  oF 34 1 33,
  oL 35 34,
  oA 36 2 5,
  oC 37 128 [.t 35, .t 36],
  oF 38 0 1,
  oF 39 1 38,
  oS 1 39 37] false)
  (.reg [
  oF 40 0 1,
  oF 41 2 40,
  oL 42 41,
  oA 43 2 5,
  oC 44 128 [.t 42, .t 43],
  oF 45 0 1,
  oF 46 2 45,
  oS 1 46 44] false)))
  (.seq (.reg [
  oF 47 0 1,
  oA 48 4 47,
  oS 4 2 48,
  oV 3 (.int .i64 0)] false)
  (.ret)))))
theorem cfn65 : compFn Tryz.prog 65 = some fn65 := by kernel_rfl
end Go.Va
end
section
open Go.Proofs
namespace Go.Va
def fn66 : AFn where
 ntmps := 78
 rs := 0
 results := [.cell 2 true 4, .tmp 3]
 body := .seq (.reg [
  o1 1 (.box 11 (.t 0)),
  o1 2 (.alloc zSys),
  oV 3 (.int .i64 0)] false)
  (.seq (.reg [
  oF 7 0 1,
  oF 8 1 7,
  oL 9 8,
  oF 10 4 1,
  oF 11 4 10,
  oL 12 11,
  oC 13 71 [.t 9, .t 12],
  oF 14 0 1,
  oF 15 2 14,
  ⟨(some 16), .ld false 1 (.t 15), none, [0]⟩,
  oF 17 4 1,
  oF 18 4 17,
  ⟨(some 19), .ld false 1 (.t 18), none, [0]⟩,
  oC 20 71 [.t 16, .t 19],
  o1 4 (.alloc [(.int .i64 0)]),
  o1 5 (.alloc [(.int .i64 0)]),
  oS 1 4 13,
  oS 1 5 20] true)
  (.seq (.seq (.reg [
  oA 21 11 1,
  o1 22 (.mkf 125 [.t 21] []),
  o1 23 (.build [(.int .i64 0), .nilf] [(0, 1, (kI 332)), (1, 1, (.t 22))]),
  o1 24 (.mkf 130 [] [.t 4, .t 1, .t 5]),
  o1 25 (.build [(.int .i64 0), .nilf] [(0, 1, (kI 2)), (1, 1, (.t 24))]),
  o1 26 (.bsl 2 2 [(.int .i64 0), .nilf] [(0, 2, (.t 23)), (2, 2, (.t 25))]),
  oC 27 108 [.t 26],
  oM 6 27] false)
  (.seq (.reg [
  oM 28 6,
  oK 29 .neq 28 0] false)
  (.cond (.t 29)
  (.seq (.reg [
  o1 30 (.build zSys []),
  oM 31 6,
  oS 4 2 30,
  oM 3 31] false)
  (.ret))
  (.skip))))
  (.seq (.seq (.reg [
  oL 32 4,
  oK 33 .geq 32 0] false)
  (.cond (.t 33)
  (.reg [
  oF 34 0 1,
  oF 35 1 34,
  oL 36 35,
  oF 37 4 1,
  oF 38 4 37,
  oL 39 38,
  oC 40 129 [.t 36, .t 39],
  oF 41 0 1,
  oF 42 2 41,
  ⟨(some 43), .ld false 1 (.t 42), none, [0]⟩,
  oF 44 0 1,
  oF 45 1 44,
  ⟨(some 46), .ld false 1 (.t 45), none, [0]⟩,
  ⟨(some 47), .ld false 1 (.t 4), none, [0]⟩,
  oI 48 2 46 47,
  ⟨(some 49), .ld true 2 (.t 48), none, [0]⟩,
  oC 50 128 [.t 43, .t 49],
  oF 51 0 1,
  oF 52 1 51,
  oS 1 52 40,
  oF 53 0 1,
  oF 54 2 53,
  oS 1 54 50] true)
  (.reg [
  oF 55 0 1,
  oF 56 1 55,
  oL 57 56,
  oF 58 0 1,
  oF 59 2 58,
  oL 60 59,
  oL 61 5,
  oI 62 2 60 61,
  oA 63 2 62,
  oC 64 128 [.t 57, .t 63],
  oF 65 0 1,
  oF 66 2 65,
  ⟨(some 67), .ld false 1 (.t 66), none, [0]⟩,
  oF 68 4 1,
  oF 69 4 68,
  ⟨(some 70), .ld false 1 (.t 69), none, [0]⟩,
  oC 71 129 [.t 67, .t 70],
  oF 72 0 1,
  oF 73 1 72,
  oS 1 73 64,
  oF 74 0 1,
  oF 75 2 74,
  oS 1 75 71] true)))
  (.seq (.reg [
  oF 76 0 1,
  oA 77 4 76,
  oS 4 2 77,
  oV 3 (.int .i64 0)] false)
  (.ret)))))
theorem cfn66 : compFn Tryz.prog 66 = some fn66 := by kernel_rfl
def fn67 : AFn where
 ntmps := 98
 rs := 0
 results := [.tmp 4]
 body := .seq (.reg [
  o1 2 (.box 4 (.t 0)),
  o1 3 (.box 7 (.t 1)),
  oV 4 (.int .i64 0)] false)
  (.seq (.reg [
  oF 7 0 2,
  oL 8 7,
  oN 9 8,
  oM 5 9] false)
  (.seq (.seq (.reg [
  oF 10 0 3,
  oL 11 10] false)
  (.block 0 (.seq (.reg [
  oK 13 .eql 11 1,
  oM 12 13] false)
  (.cond (.t 12)
  (.seq (.seq (.reg [
  oM 14 5,
  oK 15 .geq 14 4] false)
  (.cond (.t 15)
  (.seq (.reg [
  oV 4 (.int .i64 2)] false)
  (.ret))
  (.skip)))
  (.seq (.seq (.reg [
  oF 16 2 3,
  oL 17 16,
  oK 18 .lss 17 0,
  oM 19 18,
  gd 19 false (oF 20 2 3),
  gd 19 false (oL 21 20),
  gd 19 false (oM 22 5),
  gd 19 false (oB 23 .gtr 21 22),
  o1 24 (.pick (.t 19) kT (.t 23))] false)
  (.cond (.t 24)
  (.seq (.reg [
  oV 4 (.int .i64 330)] false)
  (.ret))
  (.skip)))
  (.seq (.seq (.reg [
  oF 25 1 3,
  oL 26 25,
  oC 27 76 [.t 26],
  o1 28 (.un .not (.t 27)),
  oM 29 28,
  gd 29 false (oA 30 4 2),
  gd 29 false (oF 31 1 3),
  gd 29 false (oL 32 31),
  gd 29 false (oC 33 131 [.t 30, .t 32]),
  gd 29 false (oK 34 .geq 33 0),
  o1 35 (.pick (.t 29) kT (.t 34))] false)
  (.cond (.t 35)
  (.seq (.reg [
  oV 4 (.int .i64 331)] false)
  (.ret))
  (.skip)))
  (.seq (.reg [
  oV 4 (.int .i64 0)] false)
  (.ret)))))
  (.seq (.reg [
  oK 37 .eql 11 2,
  oM 36 37] false)
  (.cond (.t 36)
  (.seq (.seq (.reg [
  oA 38 4 2,
  oF 39 2 3,
  oL 40 39,
  oC 41 132 [.t 38, .t 40],
  o1 42 (.un .not (.t 41))] false)
  (.cond (.t 42)
  (.seq (.reg [
  oV 4 (.int .i64 330)] false)
  (.ret))
  (.skip)))
  (.seq (.seq (.reg [
  oA 43 4 2,
  oF 44 2 3,
  oL 45 44,
  oC 46 133 [.t 43, .t 45]] false)
  (.cond (.t 46)
  (.seq (.reg [
  oV 4 (.int .i64 333)] false)
  (.ret))
  (.skip)))
  (.seq (.reg [
  oV 4 (.int .i64 0)] false)
  (.ret))))
  (.seq (.reg [
  oK 48 .eql 11 3,
  oM 47 48] false)
  (.cond (.t 47)
  (.seq (.seq (.reg [
  oA 49 4 2,
  oF 50 2 3,
  oL 51 50,
  oC 52 132 [.t 49, .t 51],
  o1 53 (.un .not (.t 52))] false)
  (.cond (.t 53)
  (.seq (.reg [
  oV 4 (.int .i64 330)] false)
  (.ret))
  (.skip)))
  (.seq (.reg [
  oA 54 4 2,
  oF 55 1 3,
  oL 56 55,
  oC 57 131 [.t 54, .t 56],
  oM 6 57] false)
  (.seq (.seq (.reg [
  oF 58 1 3,
  oL 59 58,
  oC 60 76 [.t 59],
  o1 61 (.un .not (.t 60)),
  oM 62 61,
  gd 62 false (oM 63 6),
  gd 62 false (oK 64 .geq 63 0),
  gd 62 false (oM 65 64),
  gd 65 true (oM 66 6),
  gd 65 true (oF 67 2 3),
  gd 65 true (oL 68 67),
  gd 65 true (oB 69 .neq 66 68),
  gd 62 false (o1 70 (.pick (.t 65) (.t 69) kF)),
  o1 71 (.pick (.t 62) kT (.t 70))] false)
  (.cond (.t 71)
  (.seq (.reg [
  oV 4 (.int .i64 331)] false)
  (.ret))
  (.skip)))
  (.seq (.reg [
  oV 4 (.int .i64 0)] false)
  (.ret)))))
  (.seq (.reg [
  oK 73 .eql 11 4,
  oM 72 73] false)
  (.cond (.t 72)
  (.seq (.seq (.reg [
  oA 74 4 2,
  oF 75 2 3,
  oL 76 75,
  oC 77 132 [.t 74, .t 76],
  o1 78 (.un .not (.t 77)),
  oM 79 78,
  gd 79 false (oA 80 4 2),
  gd 79 false (oF 81 3 3),
  gd 79 false (oL 82 81),
  gd 79 false (oC 83 132 [.t 80, .t 82]),
  gd 79 false (o1 84 (.un .not (.t 83))),
  o1 85 (.pick (.t 79) kT (.t 84))] false)
  (.cond (.t 85)
  (.seq (.reg [
  oV 4 (.int .i64 330)] false)
  (.ret))
  (.skip)))
  (.seq (.reg [
  oV 4 (.int .i64 0)] false)
  (.ret)))
  (.seq (.reg [
  oK 87 .eql 11 5,
  oM 86 87] false)
  (.cond (.t 86)
  (.seq (.reg [
  oA 88 4 2,
  oA 89 7 3,
  oC 90 134 [.t 88, .t 89],
  oM 4 90] false)
  (.ret))
  (.seq (.seq (.reg [
  oK 92 .eql 11 6,
  oM 91 92] false)
  (.cond (.t 91)
  (.skip)
  (.seq (.reg [
  oK 93 .eql 11 7,
  oM 91 93] false)
  (.cond (.t 91)
  (.skip)
  (.reg [
  oK 94 .eql 11 8,
  oM 91 94] false)))))
  (.cond (.t 91)
  (.seq (.reg [
  oA 95 4 2,
  oA 96 7 3,
  oC 97 135 [.t 95, .t 96],
  oM 4 97] false)
  (.ret))
  (.skip)))))))))))))))
  (.seq (.reg [
  oV 4 (.int .i64 1)] false)
  (.ret))))
theorem cfn67 : compFn Tryz.prog 67 = some fn67 := by kernel_rfl
def c68_0 : ACode := .seq (.seq (.reg [
  oM 10 6,
  oM 11 0,
  oN 12 11,
  oB 13 .lss 10 12] false)
  (.cond (.t 13)
  (.skip)
  (.exit 0)))
  (.seq (.block 1 (.seq (.reg [
  oM 17 0,
  oM 18 6,
  oI 19 2 17 18,
  oF 20 1 19,
  oL 21 20,
  oA 22 8 3,
  oC 23 136 [.t 21, .t 22],
  oM 16 23,
  oE 24 16 0,
  oE 25 16 1,
  oM 7 24,
  oM 8 25] true)
  (.reg [
  oM 26 5,
  oM 27 0,
  oM 28 6,
  oI 29 2 27 28,
  oF 30 0 29,
  oL 31 30,
  oM 32 7,
  o1 33 (.build zEq [(0, 1, (.t 31)), (1, 1, (.t 32))]),
  o1 34 (.bsl 2 1 zEq [(0, 2, (.t 33))]),
  o1 35 (.app 2 32 (.t 26) (.t 34)),
  oM 5 35] false)))
  (.reg [
  oM 14 6,
  oK 15 .add 14 1,
  oM 6 15] false))
def fn68 : AFn where
 ntmps := 37
 rs := 2
 results := [.tmp 4]
 body := .seq (.reg [
  o1 3 (.box 8 (.t 1)),
  oV 4 kE] false)
  (.seq (.reg [
  o1 9 (.bsl 2 0 zEq []),
  oM 5 9] false)
  (.seq (.seq (.reg [
  oV 6 (.int .i64 0)] false)
  (.block 0 (.loop c68_0)))
  (.seq (.reg [
  oM 36 5,
  oM 4 36] false)
  (.ret))))
theorem cfn68 : compFn Tryz.prog 68 = some fn68 := by kernel_rfl
def c69_0 : ACode := .seq (.seq (.reg [
  oM 8 6,
  oK 9 .lss 8 8] false)
  (.cond (.t 9)
  (.skip)
  (.exit 0)))
  (.seq (.block 1 (.seq (.reg [
  oM 12 6,
  oM 13 6,
  o1 14 (.iadA 8 1 (.t 5) (.t 12)),
  oS 1 14 13] false)
  (.seq (.seq (.reg [
  oM 15 6,
  oM 16 0,
  oB 17 .gtr 15 16,
  oM 18 17,
  gd 18 true (oM 19 6),
  gd 18 true (oM 20 1),
  gd 18 true (oB 21 .leq 19 20),
  o1 22 (.pick (.t 18) (.t 21) kF)] false)
  (.cond (.t 22)
  (.reg [
  oM 23 6,
  oM 24 6,
  oK 25 .sub 24 1,
  o1 26 (.iadA 8 1 (.t 5) (.t 23)),
  oS 1 26 25] false)
  (.skip)))
  (.seq (.reg [
  oM 27 6,
  oM 28 0,
  oB 29 .lss 27 28,
  oM 30 29,
  gd 30 true (oM 31 6),
  gd 30 true (oM 32 1),
  gd 30 true (oB 33 .geq 31 32),
  o1 34 (.pick (.t 30) (.t 33) kF)] false)
  (.cond (.t 34)
  (.reg [
  oM 35 6,
  oM 36 6,
  oK 37 .add 36 1,
  o1 38 (.iadA 8 1 (.t 5) (.t 35)),
  oS 1 38 37] false)
  (.skip))))))
  (.reg [
  oM 10 6,
  oK 11 .add 10 1,
  oM 6 11] false))
def fn69 : AFn where
 ntmps := 43
 rs := 0
 results := [.cell 4 true 8]
 body := .seq (.reg [
  o1 4 (.alloc zMon)] false)
  (.seq (.reg [
  o1 7 (.build zMon []),
  o1 5 (.alloc zMon),
  oS 8 5 7] false)
  (.seq (.seq (.reg [
  oV 6 (.int .i64 0)] false)
  (.block 0 (.loop c69_0)))
  (.seq (.reg [
  oM 39 0,
  oM 40 1,
  o1 41 (.iadA 8 1 (.t 5) (.t 39)),
  oS 1 41 40] false)
  (.seq (.reg [
  oA 42 8 5,
  oS 8 4 42] false)
  (.ret)))))
theorem cfn69 : compFn Tryz.prog 69 = some fn69 := by kernel_rfl
def fn70 : AFn where
 ntmps := 117
 rs := 0
 results := [.cell 4 true 4]
 body := .seq (.reg [
  o1 2 (.box 4 (.t 0)),
  o1 3 (.box 7 (.t 1)),
  o1 4 (.alloc zSys)] false)
  (.seq (.reg [
  oA 9 4 2,
  o1 5 (.alloc zSys),
  oS 4 5 9] false)
  (.seq (.reg [
  oF 10 4 3,
  oL 11 10,
  oF 12 5 3,
  oL 13 12,
  o1 14 (.build zEq [(0, 1, (.t 11)), (1, 1, (.t 13))]),
  o1 6 (.alloc zEq),
  oS 2 6 14] false)
  (.seq (.reg [
  oF 15 1 2,
  oL 16 15,
  oF 17 4 3,
  oL 18 17,
  oC 19 72 [.t 16, .t 18],
  oF 20 2 2,
  ⟨(some 21), .ld false 1 (.t 20), none, [0]⟩,
  oF 22 4 3,
  ⟨(some 23), .ld false 1 (.t 22), none, [0]⟩,
  oC 24 72 [.t 21, .t 23],
  oM 7 19,
  oM 8 24] true)
  (.seq (.seq (.reg [
  oF 25 0 3,
  oL 26 25] false)
  (.block 0 (.seq (.reg [
  oK 28 .eql 26 5,
  oM 27 28] false)
  (.cond (.t 27)
  (.seq (.seq (.reg [
  oF 29 4 3,
  oL 30 29,
  oK 31 .eql 30 0] false)
  (.cond (.t 31)
  (.reg [
  oF 32 3 2,
  oL 33 32,
  oF 34 0 6,
  oS 1 34 33] false)
  (.skip)))
  (.seq (.reg [
  oF 35 3 2,
  oL 36 35,
  oF 37 0 6,
  oL 38 37,
  oK 39 .add 38 1,
  o1 40 (.maxi [.t 36, .t 39]),
  oF 41 3 5,
  oS 1 41 40] false)
  (.seq (.reg [
  oF 42 6 3,
  oL 43 42] false)
  (.cond (.t 43)
  (.reg [
  oF 44 2 2,
  oL 45 44,
  oA 46 2 6,
  oC 47 137 [.t 45, .t 46],
  oF 48 2 5,
  oS 1 48 47] false)
  (.reg [
  oF 49 1 2,
  oL 50 49,
  oA 51 2 6,
  oC 52 137 [.t 50, .t 51],
  oF 53 1 5,
  oS 1 53 52] false)))))
  (.seq (.reg [
  oK 55 .eql 26 6,
  oM 54 55] false)
  (.cond (.t 54)
  (.seq (.reg [
  oF 56 1 2,
  oL 57 56,
  oF 58 4 3,
  oL 59 58,
  oC 60 138 [.t 57, .t 59],
  oF 61 1 5,
  oS 1 61 60] false)
  (.reg [
  oF 62 2 2,
  oL 63 62,
  oF 64 4 3,
  oL 65 64,
  oC 66 138 [.t 63, .t 65],
  oF 67 2 5,
  oS 1 67 66] false))
  (.seq (.reg [
  oK 69 .eql 26 7,
  oM 68 69] false)
  (.cond (.t 68)
  (.seq (.reg [
  oM 70 7,
  oK 71 .geq 70 0] false)
  (.cond (.t 71)
  (.reg [
  oF 72 1 2,
  oL 73 72,
  oA 74 2 6,
  oC 75 137 [.t 73, .t 74],
  oF 76 1 5,
  oS 1 76 75] false)
  (.reg [
  oF 77 2 2,
  oL 78 77,
  oA 79 2 6,
  oC 80 137 [.t 78, .t 79],
  oF 81 2 5,
  oS 1 81 80] false)))
  (.seq (.reg [
  oK 83 .eql 26 8,
  oM 82 83] false)
  (.cond (.t 82)
  (.seq (.reg [
  oF 84 1 2,
  oL 85 84,
  oF 86 4 3,
  oL 87 86,
  oC 88 138 [.t 85, .t 87],
  oF 89 1 5,
  oS 1 89 88] false)
  (.seq (.reg [
  oF 90 2 2,
  oL 91 90,
  oF 92 4 3,
  oL 93 92,
  oC 94 138 [.t 91, .t 93],
  oF 95 2 5,
  oS 1 95 94] false)
  (.seq (.reg [
  oM 96 7,
  oK 97 .geq 96 0] false)
  (.cond (.t 97)
  (.reg [
  oF 98 2 2,
  oL 99 98,
  oF 100 1 2,
  oL 101 100,
  oM 102 7,
  oI 103 2 101 102,
  oA 104 2 103,
  oC 105 137 [.t 99, .t 104],
  oF 106 2 5,
  oS 1 106 105] true)
  (.reg [
  oF 107 1 2,
  oL 108 107,
  oF 109 2 2,
  oL 110 109,
  oM 111 8,
  oI 112 2 110 111,
  oA 113 2 112,
  oC 114 137 [.t 108, .t 113],
  oF 115 1 5,
  oS 1 115 114] true)))))
  (.skip)))))))))))
  (.seq (.reg [
  oA 116 4 5,
  oS 4 4 116] false)
  (.ret))))))
theorem cfn70 : compFn Tryz.prog 70 = some fn70 := by kernel_rfl
def fn71 : AFn where
 ntmps := 8
 rs := 0
 results := [.tmp 4]
 body := .seq (.reg [
  o1 3 (.box 1 (.t 1)),
  oV 4 (.int .i64 0)] false)
  (.seq (.reg [
  oM 5 0,
  o1 6 (.mkf 140 [] [.t 3]),
  oC 7 139 [.t 5, .t 6],
  oM 4 7] false)
  (.ret))
theorem cfn71 : compFn Tryz.prog 71 = some fn71 := by kernel_rfl
def c72_0 : ACode := .seq (.seq (.reg [
  oM 6 5,
  oM 7 0,
  oN 8 7,
  oB 9 .lss 6 8] false)
  (.cond (.t 9)
  (.skip)
  (.exit 0)))
  (.seq (.block 1 (.seq (.reg [
  oM 12 0,
  oM 13 5,
  oI 14 2 12 13,
  oF 15 0 14,
  oL 16 15,
  oM 17 1,
  oB 18 .eql 16 17] false)
  (.cond (.t 18)
  (.seq (.reg [
  oM 19 5,
  oM 4 19] false)
  (.ret))
  (.skip))))
  (.reg [
  oM 10 5,
  oK 11 .add 10 1,
  oM 5 11] false))
def fn72 : AFn where
 ntmps := 20
 rs := 0
 results := [.tmp 4]
 body := .seq (.reg [
  oV 4 (.int .i64 0)] false)
  (.seq (.seq (.reg [
  oV 5 (.int .i64 0)] false)
  (.block 0 (.loop c72_0)))
  (.seq (.reg [
  oV 4 (.int .i64 (-1))] false)
  (.ret)))
theorem cfn72 : compFn Tryz.prog 72 = some fn72 := by kernel_rfl
def c73_0 : ACode := .seq (.seq (.reg [
  oM 11 5,
  oM 12 0,
  oN 13 12,
  oB 14 .lss 11 13] false)
  (.cond (.t 14)
  (.skip)
  (.exit 0)))
  (.seq (.block 1 (.seq (.reg [
  oM 17 0,
  oM 18 5,
  oI 19 2 17 18,
  oF 20 0 19,
  oL 21 20,
  oM 22 1,
  oM 23 5,
  oI 24 2 22 23,
  oF 25 0 24,
  oL 26 25,
  oB 27 .neq 21 26,
  oM 28 27,
  gd 28 false (oM 29 0),
  gd 28 false (oM 30 5),
  gd 28 false (oI 31 2 29 30),
  gd 28 false (oF 32 1 31),
  gd 28 false (oL 33 32),
  gd 28 false (oM 34 1),
  gd 28 false (oM 35 5),
  gd 28 false (oI 36 2 34 35),
  gd 28 false (oF 37 1 36),
  gd 28 false (oL 38 37),
  gd 28 false (oC 39 34 [.t 33, .t 38]),
  gd 28 false (o1 40 (.un .not (.t 39))),
  o1 41 (.pick (.t 28) kT (.t 40))] true)
  (.cond (.t 41)
  (.seq (.reg [
  oV 4 (.bool false)] false)
  (.ret))
  (.skip))))
  (.reg [
  oM 15 5,
  oK 16 .add 15 1,
  oM 5 16] false))
def fn73 : AFn where
 ntmps := 42
 rs := 0
 results := [.tmp 4]
 body := .seq (.reg [
  oV 4 (.bool false)] false)
  (.seq (.seq (.reg [
  oM 6 0,
  oN 7 6,
  oM 8 1,
  oN 9 8,
  oB 10 .neq 7 9] false)
  (.cond (.t 10)
  (.seq (.reg [
  oV 4 (.bool false)] false)
  (.ret))
  (.skip)))
  (.seq (.seq (.reg [
  oV 5 (.int .i64 0)] false)
  (.block 0 (.loop c73_0)))
  (.seq (.reg [
  oV 4 (.bool true)] false)
  (.ret))))
theorem cfn73 : compFn Tryz.prog 73 = some fn73 := by kernel_rfl
def c74_0 : ACode := .seq (.reg [
  oB 14 .lss 13 12] false)
  (.seq (.cond (.t 14)
  (.skip)
  (.exit 0))
  (.seq (.block 1 (.seq (.reg [
  oM 15 13,
  oI 16 7 11 13,
  oA 17 7 16,
  o1 8 (.alloc zEdt),
  oM 7 15,
  oS 7 8 17] false)
  (.seq (.reg [
  oA 19 4 2,
  oA 20 7 8,
  oC 21 20 [.t 19, .t 20],
  oM 18 21,
  oE 22 18 0,
  oE 23 18 1,
  o1 9 (.alloc zSys),
  oS 4 9 22,
  oM 10 23] false)
  (.seq (.seq (.reg [
  oM 24 10,
  oK 25 .neq 24 0] false)
  (.cond (.t 25)
  (.seq (.reg [
  o1 26 (.build zSys []),
  oM 27 7,
  oM 28 10,
  oS 4 4 26,
  oM 5 27,
  oM 6 28] false)
  (.ret))
  (.skip)))
  (.reg [
  oA 29 4 9,
  oS 4 2 29] false)))))
  (.reg [
  oK 30 .add 13 1,
  oM 13 30] false)))
def fn74 : AFn where
 ntmps := 34
 rs := 0
 results := [.cell 4 true 4, .tmp 5, .tmp 6]
 body := .seq (.reg [
  o1 2 (.box 4 (.t 0)),
  o1 4 (.alloc zSys),
  oV 5 (.int .i64 0),
  oV 6 (.int .i64 0)] false)
  (.seq (.seq (.reg [
  oM 11 1,
  oN 12 11,
  oV 13 (.int .i64 0)] false)
  (.block 0 (.loop c74_0)))
  (.seq (.reg [
  oA 31 4 2,
  oM 32 1,
  oN 33 32,
  oS 4 4 31,
  oM 5 33,
  oV 6 (.int .i64 0)] false)
  (.ret)))
theorem cfn74 : compFn Tryz.prog 74 = some fn74 := by kernel_rfl
def c75_0 : ACode := .seq (.seq (.reg [
  oM 11 7,
  oM 12 0,
  oN 13 12,
  oB 14 .lss 11 13] false)
  (.cond (.t 14)
  (.skip)
  (.exit 0)))
  (.seq (.block 1 (.seq (.reg [
  oM 17 0,
  oM 18 7,
  oI 19 2 17 18,
  oF 20 0 19,
  oL 21 20,
  oK 22 .lss 21 1,
  oM 23 22,
  gd 23 false (oM 24 0),
  gd 23 false (oM 25 7),
  gd 23 false (oI 26 2 24 25),
  gd 23 false (oF 27 0 26),
  gd 23 false (oL 28 27),
  gd 23 false (oM 29 2),
  gd 23 false (oB 30 .geq 28 29),
  o1 31 (.pick (.t 23) kT (.t 30)),
  oM 32 31,
  gd 32 false (oM 33 7),
  gd 32 false (oK 34 .gtr 33 0),
  gd 32 false (oM 35 34),
  gd 35 true (oM 36 0),
  gd 35 true (oM 37 7),
  gd 35 true (oK 38 .sub 37 1),
  gd 35 true (oI 39 2 36 38),
  gd 35 true (oF 40 0 39),
  gd 35 true (oL 41 40),
  gd 35 true (oM 42 0),
  gd 35 true (oM 43 7),
  gd 35 true (oI 44 2 42 43),
  gd 35 true (oF 45 0 44),
  gd 35 true (oL 46 45),
  gd 35 true (oB 47 .geq 41 46),
  gd 32 false (o1 48 (.pick (.t 35) (.t 47) kF)),
  o1 49 (.pick (.t 32) kT (.t 48)),
  oM 50 49,
  gd 50 false (oM 51 0),
  gd 50 false (oM 52 7),
  gd 50 false (oI 53 2 51 52),
  gd 50 false (oF 54 1 53),
  gd 50 false (oL 55 54),
  gd 50 false (oM 56 1),
  gd 50 false (oC 57 141 [.t 55, .t 56]),
  gd 50 false (o1 58 (.un .not (.t 57))),
  o1 59 (.pick (.t 50) kT (.t 58))] true)
  (.cond (.t 59)
  (.seq (.reg [
  oV 6 (.bool false)] false)
  (.ret))
  (.skip))))
  (.reg [
  oM 15 7,
  oK 16 .add 15 1,
  oM 7 16] false))
def fn75 : AFn where
 ntmps := 60
 rs := 0
 results := [.tmp 6]
 body := .seq (.reg [
  oV 6 (.bool false)] false)
  (.seq (.seq (.reg [
  oM 8 0,
  oN 9 8,
  oK 10 .gtr 9 12] false)
  (.cond (.t 10)
  (.seq (.reg [
  oV 6 (.bool false)] false)
  (.ret))
  (.skip)))
  (.seq (.seq (.reg [
  oV 7 (.int .i64 0)] false)
  (.block 0 (.loop c75_0)))
  (.seq (.reg [
  oV 6 (.bool true)] false)
  (.ret))))
theorem cfn75 : compFn Tryz.prog 75 = some fn75 := by kernel_rfl
def c76_0 : ACode := .seq (.seq (.reg [
  oM 18 3,
  oM 19 0,
  o1 20 (.lenT (.t 19)),
  oB 21 .lss 18 20] false)
  (.cond (.t 21)
  (.skip)
  (.exit 0)))
  (.seq (.block 1 (.seq (.reg [
  oM 24 0,
  oM 25 3,
  o1 26 (.idxT (.t 24) (.t 25)),
  oC 27 142 [.t 26],
  o1 28 (.un .not (.t 27)),
  oM 29 28,
  gd 29 true (oM 30 0),
  gd 29 true (oM 31 3),
  gd 29 true (o1 32 (.idxT (.t 30) (.t 31))),
  gd 29 true (o1 33 (.bin .geq (.t 32) (.c (.int .u8 48)))),
  gd 29 true (oM 34 33),
  gd 34 true (oM 35 0),
  gd 34 true (oM 36 3),
  gd 34 true (o1 37 (.idxT (.t 35) (.t 36))),
  gd 34 true (o1 38 (.bin .leq (.t 37) (.c (.int .u8 57)))),
  gd 29 true (o1 39 (.pick (.t 34) (.t 38) kF)),
  gd 29 true (o1 40 (.un .not (.t 39))),
  o1 41 (.pick (.t 29) (.t 40) kF),
  oM 42 41,
  gd 42 true (oM 43 0),
  gd 42 true (oM 44 3),
  gd 42 true (o1 45 (.idxT (.t 43) (.t 44))),
  gd 42 true (o1 46 (.bin .neq (.t 45) (.c (.int .u8 95)))),
  o1 47 (.pick (.t 42) (.t 46) kF)] false)
  (.cond (.t 47)
  (.seq (.reg [
  oV 2 (.bool false)] false)
  (.ret))
  (.skip))))
  (.reg [
  oM 22 3,
  oK 23 .add 22 1,
  oM 3 23] false))
def fn76 : AFn where
 ntmps := 48
 rs := 0
 results := [.tmp 2]
 body := .seq (.reg [
  oV 2 (.bool false)] false)
  (.seq (.seq (.reg [
  oM 4 0,
  o1 5 (.lenT (.t 4)),
  oK 6 .lss 5 1,
  oM 7 6,
  gd 7 false (oM 8 0),
  gd 7 false (o1 9 (.lenT (.t 8))),
  gd 7 false (oK 10 .gtr 9 12),
  o1 11 (.pick (.t 7) kT (.t 10)),
  oM 12 11,
  gd 12 false (oM 13 0),
  gd 12 false (o1 14 (.idxT (.t 13) (kI 0))),
  gd 12 false (oC 15 142 [.t 14]),
  gd 12 false (o1 16 (.un .not (.t 15))),
  o1 17 (.pick (.t 12) kT (.t 16))] false)
  (.cond (.t 17)
  (.seq (.reg [
  oV 2 (.bool false)] false)
  (.ret))
  (.skip)))
  (.seq (.seq (.reg [
  oV 3 (.int .i64 1)] false)
  (.block 0 (.loop c76_0)))
  (.seq (.reg [
  oV 2 (.bool true)] false)
  (.ret))))
theorem cfn76 : compFn Tryz.prog 76 = some fn76 := by kernel_rfl
def fn77 : AFn where
 ntmps := 7
 rs := 0
 results := [.cell 2 true 4]
 body := .seq (.reg [
  o1 2 (.alloc zRat)] false)
  (.seq (.reg [
  oM 3 0,
  oC 4 143 [.t 3],
  oC 5 143 [(kI 1)],
  o1 6 (.build zRat [(0, 2, (.t 4)), (2, 2, (.t 5))]),
  oS 4 2 6] false)
  (.ret))
theorem cfn77 : compFn Tryz.prog 77 = some fn77 := by kernel_rfl
def fn78 : AFn where
 ntmps := 17
 rs := 0
 results := [.tmp 4]
 body := .seq (.reg [
  o1 2 (.box 4 (.t 0)),
  o1 3 (.box 4 (.t 1)),
  oV 4 (.bool false)] false)
  (.seq (.reg [
  oF 5 0 2,
  oA 6 2 5,
  oF 7 0 3,
  oA 8 2 7,
  oC 9 144 [.t 6, .t 8],
  oM 10 9,
  gd 10 true (oF 11 2 2),
  gd 10 true (oA 12 2 11),
  gd 10 true (oF 13 2 3),
  gd 10 true (oA 14 2 13),
  gd 10 true (oC 15 144 [.t 12, .t 14]),
  o1 16 (.pick (.t 10) (.t 15) kF),
  oM 4 16] false)
  (.ret))
theorem cfn78 : compFn Tryz.prog 78 = some fn78 := by kernel_rfl
def fn80 : AFn where
 ntmps := 17
 rs := 0
 results := [.tmp 4]
 body := .seq (.reg [
  o1 2 (.box 12 (.t 0)),
  o1 3 (.box 12 (.t 1)),
  oV 4 (.bool false)] false)
  (.seq (.reg [
  oF 5 4 2,
  oA 6 8 5,
  oF 7 4 3,
  oA 8 8 7,
  o1 9 (.eqa false 8 (.t 6) (.t 8)),
  oM 10 9,
  gd 10 true (oF 11 0 2),
  gd 10 true (oA 12 4 11),
  gd 10 true (oF 13 0 3),
  gd 10 true (oA 14 4 13),
  gd 10 true (oC 15 78 [.t 12, .t 14]),
  o1 16 (.pick (.t 10) (.t 15) kF),
  oM 4 16] false)
  (.ret))
theorem cfn80 : compFn Tryz.prog 80 = some fn80 := by kernel_rfl
def c81_0 : ACode := .seq (.reg [
  oB 30 .lss 29 28] false)
  (.seq (.cond (.t 30)
  (.skip)
  (.exit 0))
  (.seq (.block 1 (.seq (.reg [
  oI 31 1 27 29,
  oL 32 31,
  oM 5 32] false)
  (.seq (.seq (.reg [
  oM 33 5,
  oC 34 148 [.t 33],
  o1 35 (.un .not (.t 34)),
  oM 36 35,
  gd 36 false (oM 37 3),
  gd 36 false (oM 38 5),
  gd 36 false (o1 39 (.lkp 1 false [(.bool false)] (.t 37) (.t 38) false)),
  o1 40 (.pick (.t 36) kT (.t 39))] false)
  (.cond (.t 40)
  (.seq (.reg [
  oV 2 (.bool false)] false)
  (.ret))
  (.skip)))
  (.reg [
  oM 41 3,
  oM 42 5,
  o0 (.mup 1 (.t 41) (.t 42) kT)] false))))
  (.reg [
  oK 43 .add 29 1,
  oM 29 43] false)))
def c81_1 : ACode := .seq (.reg [
  oB 61 .lss 60 59] false)
  (.seq (.cond (.t 61)
  (.skip)
  (.exit 4))
  (.seq (.block 5 (.seq (.reg [
  oM 62 60,
  oI 63 2 58 60,
  oA 64 2 63,
  o1 10 (.alloc zEq),
  oM 9 62,
  oS 2 10 64] false)
  (.seq (.seq (.reg [
  oF 65 0 10,
  oL 66 65,
  oK 67 .lss 66 1,
  oM 68 67,
  gd 68 false (oF 69 0 10),
  gd 68 false (oL 70 69),
  gd 68 false (oF 71 3 1),
  gd 68 false (oL 72 71),
  gd 68 false (oB 73 .geq 70 72),
  o1 74 (.pick (.t 68) kT (.t 73)),
  oM 75 74,
  gd 75 false (oM 76 6),
  gd 75 false (oF 77 0 10),
  gd 75 false (oL 78 77),
  gd 75 false (o1 79 (.lkp 0 false [(.bool false)] (.t 76) (.t 78) false)),
  o1 80 (.pick (.t 75) kT (.t 79)),
  oM 81 80,
  gd 81 false (oM 82 9),
  gd 81 false (oK 83 .gtr 82 0),
  gd 81 false (oM 84 83),
  gd 84 true (oF 85 0 10),
  gd 84 true (oL 86 85),
  gd 84 true (oM 87 8),
  gd 84 true (oM 88 9),
  gd 84 true (oK 89 .sub 88 1),
  gd 84 true (oI 90 2 87 89),
  gd 84 true (oF 91 0 90),
  gd 84 true (oL 92 91),
  gd 84 true (oB 93 .lss 86 92),
  gd 81 false (o1 94 (.pick (.t 84) (.t 93) kF)),
  o1 95 (.pick (.t 81) kT (.t 94)),
  oM 96 95,
  gd 96 false (oF 97 1 10),
  gd 96 false (oL 98 97),
  gd 96 false (oF 99 0 1),
  gd 96 false (oL 100 99),
  gd 96 false (oN 101 100),
  gd 96 false (oC 102 149 [.t 98, .t 101]),
  gd 96 false (o1 103 (.un .not (.t 102))),
  o1 104 (.pick (.t 96) kT (.t 103))] true)
  (.cond (.t 104)
  (.seq (.reg [
  oV 2 (.bool false)] false)
  (.ret))
  (.skip)))
  (.reg [
  oM 105 6,
  oF 106 0 10,
  oL 107 106,
  o0 (.mup 0 (.t 105) (.t 107) kT)] false))))
  (.reg [
  oK 108 .add 60 1,
  oM 60 108] false)))
def c81_2 : ACode := .seq (.reg [
  oB 52 .lss 51 50] false)
  (.seq (.cond (.t 52)
  (.skip)
  (.exit 2))
  (.seq (.block 3 (.seq (.reg [
  oI 53 1 49 51,
  oL 54 53,
  oM 8 54] false)
  (.seq (.seq (.reg [
  oM 55 8,
  oN 56 55,
  oK 57 .gtr 56 12] false)
  (.cond (.t 57)
  (.seq (.reg [
  oV 2 (.bool false)] false)
  (.ret))
  (.skip)))
  (.seq (.reg [
  oM 58 8,
  oN 59 58,
  oV 60 (.int .i64 0)] false)
  (.block 4 (.loop c81_1))))))
  (.reg [
  oK 109 .add 51 1,
  oM 51 109] false)))
def fn81 : AFn where
 ntmps := 110
 rs := 0
 results := [.tmp 2]
 body := .seq (.reg [
  o1 1 (.box 4 (.t 0)),
  oV 2 (.bool false)] false)
  (.seq (.seq (.reg [
  oF 11 0 1,
  oL 12 11,
  oN 13 12,
  oK 14 .gtr 13 4,
  oM 15 14,
  gd 15 false (oF 16 3 1),
  gd 15 false (oL 17 16),
  gd 15 false (oK 18 .lss 17 1),
  o1 19 (.pick (.t 15) kT (.t 18)),
  oM 20 19,
  gd 20 false (oF 21 3 1),
  gd 20 false (oL 22 21),
  gd 20 false (oK 23 .gtr 22 1000000),
  o1 24 (.pick (.t 20) kT (.t 23))] false)
  (.cond (.t 24)
  (.seq (.reg [
  oV 2 (.bool false)] false)
  (.ret))
  (.skip)))
  (.seq (.reg [
  o1 25 (.mkm),
  oM 3 25] false)
  (.seq (.seq (.reg [
  oF 26 0 1,
  oL 27 26,
  oN 28 27,
  oV 29 (.int .i64 0)] false)
  (.block 0 (.loop c81_0)))
  (.seq (.reg [
  o1 44 (.mkm),
  oM 6 44] false)
  (.seq (.seq (.reg [
  oF 45 1 1,
  oL 46 45,
  oF 47 2 1,
  oL 48 47,
  o1 49 (.bsl 1 2 [kE] [(0, 1, (.t 46)), (1, 1, (.t 48))]),
  oN 50 49,
  oV 51 (.int .i64 0)] false)
  (.block 2 (.loop c81_2)))
  (.seq (.reg [
  oV 2 (.bool true)] false)
  (.ret)))))))
theorem cfn81 : compFn Tryz.prog 81 = some fn81 := by kernel_rfl
def c82_0 : ACode := .seq (.reg [
  oB 14 .lss 13 12] false)
  (.seq (.cond (.t 14)
  (.skip)
  (.exit 0))
  (.seq (.block 1 (.seq (.reg [
  oM 15 13,
  oM 5 15] false)
  (.seq (.reg [
  oM 16 0,
  oM 17 5,
  oI 18 1 16 17,
  oL 19 18,
  oM 20 1,
  oM 21 5,
  oI 22 1 20 21,
  oL 23 22,
  oB 24 .neq 19 23] true)
  (.cond (.t 24)
  (.seq (.reg [
  oV 4 (.bool false)] false)
  (.ret))
  (.skip)))))
  (.reg [
  oK 25 .add 13 1,
  oM 13 25] false)))
def fn82 : AFn where
 ntmps := 26
 rs := 0
 results := [.tmp 4]
 body := .seq (.reg [
  oV 4 (.bool false)] false)
  (.seq (.seq (.reg [
  oM 6 0,
  oN 7 6,
  oM 8 1,
  oN 9 8,
  oB 10 .neq 7 9] false)
  (.cond (.t 10)
  (.seq (.reg [
  oV 4 (.bool false)] false)
  (.ret))
  (.skip)))
  (.seq (.seq (.reg [
  oM 11 0,
  oN 12 11,
  oV 13 (.int .i64 0)] false)
  (.block 0 (.loop c82_0)))
  (.seq (.reg [
  oV 4 (.bool true)] false)
  (.ret))))
theorem cfn82 : compFn Tryz.prog 82 = some fn82 := by kernel_rfl
def fn83 : AFn where
 ntmps := 26
 rs := 0
 results := [.tmp 5]
 body := .seq (.reg [
  o1 3 (.box 2 (.t 0)),
  oV 5 (.bool false)] false)
  (.seq (.reg [
  oM 7 1,
  oF 8 0 3,
  oL 9 8,
  oC 10 71 [.t 7, .t 9],
  oM 6 10] false)
  (.seq (.reg [
  oL 11 2,
  oM 12 11,
  gd 12 true (oM 13 6),
  gd 12 true (oK 14 .geq 13 0),
  o1 15 (.pick (.t 12) (.t 14) kF),
  oM 16 15,
  gd 16 true (oM 17 1),
  gd 16 true (oM 18 6),
  gd 16 true (oI 19 2 17 18),
  gd 16 true (oF 20 1 19),
  gd 16 true (oL 21 20),
  gd 16 true (oF 22 1 3),
  gd 16 true (oL 23 22),
  gd 16 true (oC 24 84 [.t 21, .t 23]),
  o1 25 (.pick (.t 16) (.t 24) kF),
  oM 5 25] true)
  (.ret)))
theorem cfn83 : compFn Tryz.prog 83 = some fn83 := by kernel_rfl
def fn84 : AFn where
 ntmps := 9
 rs := 0
 results := [.tmp 4]
 body := .seq (.reg [
  oV 4 (.bool false)] false)
  (.seq (.reg [
  oM 5 0,
  oM 6 1,
  oC 7 150 [.t 5, .t 6],
  oK 8 .eql 7 0,
  oM 4 8] false)
  (.ret))
theorem cfn84 : compFn Tryz.prog 84 = some fn84 := by kernel_rfl
def c85_0 : ACode := .seq (.reg [
  oB 11 .lss 10 9] false)
  (.seq (.cond (.t 11)
  (.skip)
  (.exit 0))
  (.seq (.block 1 (.seq (.reg [
  oI 12 2 8 10,
  oA 13 2 12,
  o1 7 (.alloc zEq),
  oS 2 7 13] false)
  (.seq (.reg [
  oL 14 2,
  oA 15 2 7,
  oM 16 1,
  o1 17 (.call (.t 14) [.t 15, .t 16]),
  o1 18 (.un .not (.t 17))] false)
  (.cond (.t 18)
  (.reg [
  oL 19 3,
  oF 20 0 7,
  oL 21 20,
  o1 22 (.build zEdt [(0, 1, (kI 6)), (4, 1, (.t 21))]),
  o1 23 (.bsl 7 1 zEdt [(0, 7, (.t 22))]),
  o1 24 (.app 7 80 (.t 19) (.t 23)),
  oS 1 3 24] false)
  (.skip)))))
  (.reg [
  oK 25 .add 10 1,
  oM 10 25] false)))
def fn85 : AFn where
 ntmps := 26
 rs := 0
 results := []
 body := .seq (.reg [
  oM 8 0,
  oN 9 8,
  oV 10 (.int .i64 0)] false)
  (.block 0 (.loop c85_0))
theorem cfn85 : compFn Tryz.prog 85 = some fn85 := by kernel_rfl
def c86_0 : ACode := .seq (.reg [
  oB 13 .lss 12 11] false)
  (.seq (.cond (.t 13)
  (.skip)
  (.exit 0))
  (.seq (.block 1 (.seq (.reg [
  oI 14 2 10 12,
  oA 15 2 14,
  o1 9 (.alloc zEq),
  oS 2 9 15] false)
  (.seq (.reg [
  oL 16 3,
  oA 17 2 9,
  oM 18 0,
  o1 19 (.call (.t 16) [.t 17, .t 18]),
  o1 20 (.un .not (.t 19))] false)
  (.cond (.t 20)
  (.reg [
  oL 21 4,
  oF 22 0 9,
  oL 23 22,
  oF 24 1 9,
  oL 25 24,
  oM 26 2,
  o1 27 (.build zEdt [(0, 1, (kI 5)), (4, 1, (.t 23)), (5, 1, (.t 25)), (6, 1, (.t 26))]),
  o1 28 (.bsl 7 1 zEdt [(0, 7, (.t 27))]),
  o1 29 (.app 7 80 (.t 21) (.t 28)),
  oS 1 4 29] false)
  (.skip)))))
  (.reg [
  oK 30 .add 12 1,
  oM 12 30] false)))
def fn86 : AFn where
 ntmps := 31
 rs := 0
 results := []
 body := .seq (.reg [
  oM 10 1,
  oN 11 10,
  oV 12 (.int .i64 0)] false)
  (.block 0 (.loop c86_0))
theorem cfn86 : compFn Tryz.prog 86 = some fn86 := by kernel_rfl
def fn96 : AFn where
 ntmps := 2
 rs := 1
 results := [.tmp 0]
 body := .seq (.reg [
  oV 0 kE] false)
  (.seq (.reg [
  ⟨(some 1), .bsl 1 6 [(.str ⟨#[]⟩)] [(0, 1, (.c (.str ⟨#[120]⟩))), (1, 1, (.c (.str ⟨#[121]⟩))), (2, 1, (.c (.str ⟨#[122]⟩))), (3, 1, (.c (.str ⟨#[119]⟩))), (4, 1, (.c (.str ⟨#[117, 95, 49]⟩))), (5, 1, (.c (.str ⟨#[65, 98, 99]⟩)))], none, []⟩,
  oM 0 1] false)
  (.ret))
theorem cfn96 : compFn Tryz.prog 96 = some fn96 := by kernel_rfl
def fn97 : AFn where
 ntmps := 8
 rs := 7
 results := [.tmp 2]
 body := .seq (.reg [
  oV 2 kE] false)
  (.seq (.seq (.reg [
  oM 3 0,
  o1 4 (.isnil false (.t 3))] false)
  (.cond (.t 4)
  (.seq (.reg [
  oV 2 kE] false)
  (.ret))
  (.skip)))
  (.seq (.reg [
  o1 5 (.bsl 7 0 zEdt []),
  oM 6 0,
  o1 7 (.app 7 80 (.t 5) (.t 6)),
  oM 2 7] false)
  (.ret)))
theorem cfn97 : compFn Tryz.prog 97 = some fn97 := by kernel_rfl
def fn99 : AFn where
 ntmps := 8
 rs := 3
 results := [.tmp 2]
 body := .seq (.reg [
  oV 2 kE] false)
  (.seq (.seq (.reg [
  oM 3 0,
  o1 4 (.isnil false (.t 3))] false)
  (.cond (.t 4)
  (.seq (.reg [
  oV 2 kE] false)
  (.ret))
  (.skip)))
  (.seq (.reg [
  o1 5 (.bsl 3 0 zVer []),
  oM 6 0,
  o1 7 (.app 3 40 (.t 5) (.t 6)),
  oM 2 7] false)
  (.ret)))
theorem cfn99 : compFn Tryz.prog 99 = some fn99 := by kernel_rfl
def c102_0 : ACode := .seq (.seq (.reg [
  oM 10 6,
  oM 11 0,
  oN 12 11,
  oB 13 .lss 10 12,
  oM 14 13,
  gd 14 false (oM 15 7),
  gd 14 false (oM 16 1),
  gd 14 false (oN 17 16),
  gd 14 false (oB 18 .lss 15 17),
  o1 19 (.pick (.t 14) kT (.t 18))] false)
  (.cond (.t 19)
  (.skip)
  (.exit 0)))
  (.block 1 (.seq (.seq (.reg [
  oM 20 7,
  oM 21 1,
  oN 22 21,
  oB 23 .eql 20 22,
  oM 24 23,
  gd 24 false (oM 25 6),
  gd 24 false (oM 26 0),
  gd 24 false (oN 27 26),
  gd 24 false (oB 28 .lss 25 27),
  gd 24 false (oM 29 28),
  gd 29 true (oM 30 0),
  gd 29 true (oM 31 6),
  gd 29 true (oI 32 12 30 31),
  gd 29 true (oF 33 4 32),
  gd 29 true (oA 34 8 33),
  gd 29 true (oM 35 1),
  gd 29 true (oM 36 7),
  gd 29 true (oI 37 12 35 36),
  gd 29 true (oF 38 4 37),
  gd 29 true (oA 39 8 38),
  gd 29 true (oC 40 152 [.t 34, .t 39]),
  gd 29 true (oK 41 .gtr 40 0),
  gd 24 false (o1 42 (.pick (.t 29) (.t 41) kF)),
  o1 43 (.pick (.t 24) kT (.t 42))] true)
  (.cond (.t 43)
  (.seq (.reg [
  oM 44 5,
  oM 45 0,
  oM 46 6,
  oI 47 12 45 46,
  oA 48 12 47,
  o1 49 (.bsl 12 1 zTerm [(0, 12, (.t 48))]),
  o1 50 (.app 12 128 (.t 44) (.t 49)),
  oM 5 50] false)
  (.seq (.reg [
  oM 51 6,
  oK 52 .add 51 1,
  oM 6 52] false)
  (.exit 1)))
  (.skip)))
  (.seq (.seq (.reg [
  oM 53 6,
  oM 54 0,
  oN 55 54,
  oB 56 .eql 53 55,
  oM 57 56,
  gd 57 false (oM 58 0),
  gd 57 false (oM 59 6),
  gd 57 false (oI 60 12 58 59),
  gd 57 false (oF 61 4 60),
  gd 57 false (oA 62 8 61),
  gd 57 false (oM 63 1),
  gd 57 false (oM 64 7),
  gd 57 false (oI 65 12 63 64),
  gd 57 false (oF 66 4 65),
  gd 57 false (oA 67 8 66),
  gd 57 false (oC 68 152 [.t 62, .t 67]),
  gd 57 false (oK 69 .lss 68 0),
  o1 70 (.pick (.t 57) kT (.t 69))] true)
  (.cond (.t 70)
  (.seq (.reg [
  oM 71 5,
  oM 72 1,
  oM 73 7,
  oI 74 12 72 73,
  oA 75 12 74,
  o1 76 (.bsl 12 1 zTerm [(0, 12, (.t 75))]),
  o1 77 (.app 12 128 (.t 71) (.t 76)),
  oM 5 77] false)
  (.seq (.reg [
  oM 78 7,
  oK 79 .add 78 1,
  oM 7 79] false)
  (.exit 1)))
  (.skip)))
  (.seq (.reg [
  oM 80 0,
  oM 81 6,
  oI 82 12 80 81,
  oF 83 0 82,
  oA 84 4 83,
  oM 85 1,
  oM 86 7,
  oI 87 12 85 86,
  oF 88 0 87,
  oA 89 4 88,
  oC 90 147 [.t 84, .t 89],
  o1 8 (.alloc zRat),
  oS 4 8 90] true)
  (.seq (.seq (.reg [
  oA 91 4 8,
  oC 92 153 [.t 91],
  oK 93 .neq 92 0] false)
  (.cond (.t 93)
  (.reg [
  oM 94 5,
  oA 95 4 8,
  oM 96 0,
  oM 97 6,
  oI 98 12 96 97,
  oF 99 4 98,
  oA 100 8 99,
  o1 101 (.build zTerm [(0, 4, (.t 95)), (4, 8, (.t 100))]),
  o1 102 (.bsl 12 1 zTerm [(0, 12, (.t 101))]),
  o1 103 (.app 12 128 (.t 94) (.t 102)),
  oM 5 103] true)
  (.skip)))
  (.seq (.reg [
  oM 104 6,
  oK 105 .add 104 1,
  oM 6 105] false)
  (.reg [
  oM 106 7,
  oK 107 .add 106 1,
  oM 7 107] false)))))))
def fn102 : AFn where
 ntmps := 109
 rs := 12
 results := [.tmp 4]
 body := .seq (.reg [
  oV 4 kE] false)
  (.seq (.reg [
  o1 9 (.bsl 12 0 zTerm []),
  oM 5 9] false)
  (.seq (.reg [
  oV 6 (.int .i64 0),
  oV 7 (.int .i64 0)] false)
  (.seq (.block 0 (.loop c102_0))
  (.seq (.reg [
  oM 108 5,
  oM 4 108] false)
  (.ret)))))
theorem cfn102 : compFn Tryz.prog 102 = some fn102 := by kernel_rfl
def fn103 : AFn where
 ntmps := 15
 rs := 12
 results := [.tmp 4]
 body := .seq (.reg [
  o1 2 (.box 4 (.t 0)),
  oV 4 kE] false)
  (.seq (.reg [
  oA 8 4 2,
  o1 9 (.build zMon []),
  oM 10 1,
  oC 11 154 [.t 8, .t 9, .t 10],
  oM 7 11,
  oE 12 7 0,
  oE 13 7 1,
  oM 5 12,
  oM 6 13] false)
  (.seq (.reg [
  oM 14 5,
  oM 4 14] false)
  (.ret)))
theorem cfn103 : compFn Tryz.prog 103 = some fn103 := by kernel_rfl
def c104_0 : ACode := .seq (.seq (.reg [
  oM 11 7,
  oM 12 0,
  oN 13 12,
  oB 14 .lss 11 13] false)
  (.cond (.t 14)
  (.skip)
  (.exit 0)))
  (.seq (.block 1 (.seq (.reg [
  oM 18 0,
  oM 19 7,
  oI 20 12 18 19,
  oF 21 0 20,
  oA 22 4 21,
  oM 23 0,
  oM 24 7,
  oI 25 12 23 24,
  oF 26 4 25,
  oA 27 8 26,
  oM 28 1,
  oC 29 154 [.t 22, .t 27, .t 28],
  oM 17 29,
  oE 30 17 0,
  oE 31 17 1,
  oM 8 30,
  oM 9 31] true)
  (.seq (.seq (.reg [
  oM 32 9,
  oK 33 .neq 32 0] false)
  (.cond (.t 33)
  (.seq (.reg [
  oM 34 9,
  oV 4 kE,
  oM 5 34] false)
  (.ret))
  (.skip)))
  (.reg [
  oM 35 6,
  oM 36 8,
  oC 37 102 [.t 35, .t 36],
  oM 6 37] false))))
  (.reg [
  oM 15 7,
  oK 16 .add 15 1,
  oM 7 16] false))
def fn104 : AFn where
 ntmps := 39
 rs := 12
 results := [.tmp 4, .tmp 5]
 body := .seq (.reg [
  oV 4 kE,
  oV 5 (.int .i64 0)] false)
  (.seq (.reg [
  o1 10 (.bsl 12 0 zTerm []),
  oM 6 10] false)
  (.seq (.seq (.reg [
  oV 7 (.int .i64 0)] false)
  (.block 0 (.loop c104_0)))
  (.seq (.reg [
  oM 38 6,
  oM 4 38,
  oV 5 (.int .i64 0)] false)
  (.ret))))
theorem cfn104 : compFn Tryz.prog 104 = some fn104 := by kernel_rfl
def fn105 : AFn where
 ntmps := 18
 rs := 12
 results := [.tmp 2, .tmp 3]
 body := .seq (.reg [
  oV 2 kE,
  oV 3 (.int .i64 0)] false)
  (.seq (.seq (.reg [
  oM 5 0,
  oK 6 .lss 5 0,
  oM 7 6,
  gd 7 false (oM 8 0),
  gd 7 false (oK 9 .geq 8 8),
  o1 10 (.pick (.t 7) kT (.t 9))] false)
  (.cond (.t 10)
  (.seq (.reg [
  oV 2 kE,
  oV 3 (.int .i64 1)] false)
  (.ret))
  (.skip)))
  (.seq (.reg [
  o1 11 (.build zMon []),
  o1 4 (.alloc zMon),
  oS 8 4 11] false)
  (.seq (.reg [
  oM 12 0,
  o1 13 (.iadA 8 1 (.t 4) (.t 12)),
  o0 (.st 1 (.t 13) (kI 1))] false)
  (.seq (.reg [
  oC 14 77 [(kI 1)],
  ⟨(some 15), .ld true 8 (.t 4), none, [0]⟩,
  o1 16 (.build zTerm [(0, 4, (.t 14)), (4, 8, (.t 15))]),
  o1 17 (.bsl 12 1 zTerm [(0, 12, (.t 16))]),
  oM 2 17,
  oV 3 (.int .i64 0)] true)
  (.ret)))))
theorem cfn105 : compFn Tryz.prog 105 = some fn105 := by kernel_rfl
def fn106 : AFn where
 ntmps := 9
 rs := 12
 results := [.tmp 2]
 body := .seq (.reg [
  o1 1 (.box 4 (.t 0)),
  oV 2 kE] false)
  (.seq (.seq (.reg [
  oA 3 4 1,
  oC 4 153 [.t 3],
  oK 5 .eql 4 0] false)
  (.cond (.t 5)
  (.seq (.reg [
  oV 2 kE] false)
  (.ret))
  (.skip)))
  (.seq (.reg [
  oA 6 4 1,
  o1 7 (.build zTerm [(0, 4, (.t 6))]),
  o1 8 (.bsl 12 1 zTerm [(0, 12, (.t 7))]),
  oM 2 8] false)
  (.ret)))
theorem cfn106 : compFn Tryz.prog 106 = some fn106 := by kernel_rfl
def fn107 : AFn where
 ntmps := 10
 rs := 0
 results := [.tmp 2]
 body := .seq (.reg [
  oV 2 (.int .i64 0)] false)
  (.seq (.seq (.reg [
  oM 3 0,
  o1 4 (.bin .lss (.t 3) (.c (.int .i8 0)))] false)
  (.cond (.t 4)
  (.seq (.reg [
  oM 5 0,
  o1 6 (.conv .i64 (.t 5)),
  o1 7 (.un .neg (.t 6)),
  oM 2 7] false)
  (.ret))
  (.skip)))
  (.seq (.reg [
  oM 8 0,
  o1 9 (.conv .i64 (.t 8)),
  oM 2 9] false)
  (.ret)))
theorem cfn107 : compFn Tryz.prog 107 = some fn107 := by kernel_rfl
def c108_0 : ACode := .seq (.reg [
  oB 8 .lss 7 6] false)
  (.seq (.cond (.t 8)
  (.skip)
  (.exit 0))
  (.seq (.block 1 (.seq (.reg [
  oI 9 2 5 7,
  oA 10 2 9,
  o1 4 (.alloc [(.int .i64 0), .nilf]),
  oS 2 4 10] false)
  (.seq (.reg [
  oF 11 1 4,
  oL 12 11,
  o1 13 (.call (.t 12) []),
  o1 14 (.un .not (.t 13))] false)
  (.cond (.t 14)
  (.seq (.reg [
  oF 15 0 4,
  oL 16 15,
  oM 2 16] false)
  (.ret))
  (.skip)))))
  (.reg [
  oK 17 .add 7 1,
  oM 7 17] false)))
def fn108 : AFn where
 ntmps := 18
 rs := 0
 results := [.tmp 2]
 body := .seq (.reg [
  oV 2 (.int .i64 0)] false)
  (.seq (.seq (.reg [
  oM 5 0,
  oN 6 5,
  oV 7 (.int .i64 0)] false)
  (.block 0 (.loop c108_0)))
  (.seq (.reg [
  oV 2 (.int .i64 0)] false)
  (.ret)))
theorem cfn108 : compFn Tryz.prog 108 = some fn108 := by kernel_rfl
def fn109 : AFn where
 ntmps := 4
 rs := 0
 results := [.tmp 1]
 body := .seq (.reg [
  oV 1 (.bool false)] false)
  (.seq (.reg [
  oL 2 0,
  oK 3 .lss 2 4,
  oM 1 3] false)
  (.ret))
theorem cfn109 : compFn Tryz.prog 109 = some fn109 := by kernel_rfl
def fn110 : AFn where
 ntmps := 14
 rs := 0
 results := [.tmp 2]
 body := .seq (.reg [
  oV 2 (.bool false)] false)
  (.seq (.reg [
  oF 3 4 0,
  oF 4 2 3,
  oL 5 4,
  oK 6 .geq 5 0,
  oM 7 6,
  gd 7 true (oF 8 4 0),
  gd 7 true (oF 9 2 8),
  gd 7 true (oL 10 9),
  gd 7 true (oL 11 1),
  gd 7 true (oB 12 .leq 10 11),
  o1 13 (.pick (.t 7) (.t 12) kF),
  oM 2 13] false)
  (.ret))
theorem cfn110 : compFn Tryz.prog 110 = some fn110 := by kernel_rfl
def fn111 : AFn where
 ntmps := 11
 rs := 0
 results := [.tmp 1]
 body := .seq (.reg [
  oV 1 (.bool false)] false)
  (.seq (.reg [
  oF 2 4 0,
  oF 3 1 2,
  oL 4 3,
  oC 5 112 [.t 4],
  oM 6 5,
  gd 6 true (oA 7 11 0),
  gd 6 true (oC 8 113 [.t 7]),
  gd 6 true (oK 9 .lss 8 0),
  o1 10 (.pick (.t 6) (.t 9) kF),
  oM 1 10] false)
  (.ret))
theorem cfn111 : compFn Tryz.prog 111 = some fn111 := by kernel_rfl
def fn112 : AFn where
 ntmps := 7
 rs := 0
 results := [.tmp 2]
 body := .seq (.reg [
  oV 2 (.bool false)] false)
  (.seq (.reg [
  oM 3 0,
  o1 4 (.bsl 1 1 [(.str ⟨#[]⟩)] [(0, 1, (.t 3))]),
  o1 5 (.build zSys [(0, 1, (.t 4)), (3, 1, (kI 1))]),
  oC 6 81 [.t 5],
  oM 2 6] false)
  (.ret))
theorem cfn112 : compFn Tryz.prog 112 = some fn112 := by kernel_rfl
def fn113 : AFn where
 ntmps := 10
 rs := 0
 results := [.tmp 2]
 body := .seq (.reg [
  o1 1 (.box 11 (.t 0)),
  oV 2 (.int .i64 0)] false)
  (.seq (.reg [
  oF 3 0 1,
  oF 4 0 3,
  oL 5 4,
  oF 6 4 1,
  oF 7 1 6,
  oL 8 7,
  oC 9 155 [.t 5, .t 8],
  oM 2 9] false)
  (.ret))
theorem cfn113 : compFn Tryz.prog 113 = some fn113 := by kernel_rfl
end Go.Va
end
