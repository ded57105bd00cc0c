/- Towards the law: a small language into which the program is turned, its soundness, and what the functions answer: part 5. -/
import Derived.Test.YtgkmheobocnenaaGreatVa04
set_option linter.unusedSimpArgs false
set_option linter.unusedVariables false
set_option linter.unusedSectionVars false
set_option linter.unnecessarySimpa false
section
namespace Go.Va
theorem at_code {cx : Cx} {d : Nat} {c : ACode} {s : St} {X : Option (AExit × St)} {p : AExit × St → Prop} (hx : codeD cx d c s = X) (h : ∃ a, codeD cx d c s = some a ∧ p a) : ∃ e env h, X = some (e, ⟨env, h⟩) ∧ p (e, ⟨env, h⟩) := by
  obtain ⟨⟨e, env, h⟩, h1, h2⟩ := h
  exact ⟨e, env, h, hx ▸ h1, h2⟩

/-! ## The interpreter in words that simp can follow: no unknown state is ever looked into -/
def upd (env : Nat → AV) (d : Nat) (v : AV) : Nat → AV := fun i => if i = d then v else env i
@[simp] theorem upd_at {env : Nat → AV} {d : Nat} {v : AV} {i : Nat} : upd env d v i = if i = d then v else env i := rfl
def putK (dst : Option Nat) (s : St) : Option (AV × Hp) → Option St
  | some (v, h) => some (St.put ⟨s.env, h⟩ dst v)
  | none => none
@[simp] theorem putK_some {d : Nat} {env : Nat → AV} {h0 h : Hp} {v : AV} : putK (some d) ⟨env, h0⟩ (some (v, h)) = some ⟨upd env d v, h⟩ := rfl
@[simp] theorem putK_none {env : Nat → AV} {h0 h : Hp} {v : AV} : putK none ⟨env, h0⟩ (some (v, h)) = some ⟨env, h⟩ := rfl
def opsK (cf : CallFn) (d : Nat) (os : List AOper) : Option St → Option St
  | some s => evOps cf d os s
  | none => none
@[simp] theorem opsK_some {cf : CallFn} {d : Nat} {os : List AOper} {s : St} : opsK cf d os (some s) = evOps cf d os s := rfl
@[simp] theorem evOps_nil {cf : CallFn} {d : Nat} {s : St} : evOps cf d [] s = some s := rfl
@[simp] theorem evOps_cons {cf : CallFn} {d : Nat} {o : AOper} {os : List AOper} {s : St} : evOps cf d (o :: os) s = opsK cf d os (stepO cf d o s) := by
  unfold evOps; cases stepO cf d o s <;> rfl
def wantV (g : AV) (b : Bool) : Option Bool := match g with | .p (.bool c) => some (c == b) | .p (.tup []) => some false | _ => none
def gK (cf : CallFn) (d : Nat) (dst : Option Nat) (op : AOp) (s : St) (b : Bool) (g : AV) : Option St :=
  match wantV g b with
  | some true => putK dst s (evOp cf d dst op s.env s.h)
  | some false => some (s.put dst .undef)
  | none => none
@[simp] theorem stepO_plain {cf : CallFn} {d : Nat} {dst : Option Nat} {op : AOp} {un : List Nat} {env : Nat → AV} {h : Hp} : stepO cf d ⟨dst, op, none, un⟩ ⟨env, h⟩ = putK dst ⟨env, h⟩ (evOp cf d dst op env h) := by
  simp only [stepO, wants, Option.bind_some, if_true]
  cases evOp cf d dst op env h <;> rfl
@[simp] theorem stepO_guard {cf : CallFn} {d : Nat} {dst : Option Nat} {op : AOp} {un : List Nat} {t : Nat} {b : Bool} {env : Nat → AV} {h : Hp} : stepO cf d ⟨dst, op, some (t, b), un⟩ ⟨env, h⟩ = gK cf d dst op ⟨env, h⟩ b (env t) := by
  have e : wants env (some (t, b)) = wantV (env t) b := rfl
  simp only [stepO, gK, e]
  cases wantV (env t) b with
  | none => rfl
  | some w =>
    cases w with
    | true => simp only [Option.bind_some, if_true]; cases evOp cf d dst op env h <;> rfl
    | false => rfl
section
variable {cf : CallFn} {d t : Nat} {dst : Option Nat} {op : AOp} {env : Nat → AV} {h : Hp}
@[simp] theorem gK_tt : gK cf d dst op ⟨env, h⟩ true (.p (.bool true)) = putK dst ⟨env, h⟩ (evOp cf d dst op env h) := rfl
@[simp] theorem gK_ff : gK cf d dst op ⟨env, h⟩ false (.p (.bool false)) = putK dst ⟨env, h⟩ (evOp cf d dst op env h) := rfl
@[simp] theorem gK_tf : gK cf d (some t) op ⟨env, h⟩ true (.p (.bool false)) = some ⟨upd env t .undef, h⟩ := rfl
@[simp] theorem gK_ft : gK cf d (some t) op ⟨env, h⟩ false (.p (.bool true)) = some ⟨upd env t .undef, h⟩ := rfl
@[simp] theorem gK_tf0 : gK cf d none op ⟨env, h⟩ true (.p (.bool false)) = some ⟨env, h⟩ := rfl
@[simp] theorem gK_ft0 : gK cf d none op ⟨env, h⟩ false (.p (.bool true)) = some ⟨env, h⟩ := rfl
@[simp low] theorem gK_if {b c : Bool} : gK cf d (some t) op ⟨env, h⟩ b (.p (.bool c)) = if c = b then putK (some t) ⟨env, h⟩ (evOp cf d (some t) op env h) else some ⟨upd env t .undef, h⟩ := by cases b <;> cases c <;> rfl
@[simp] theorem gK_u {b : Bool} : gK cf d (some t) op ⟨env, h⟩ b (.p (.tup [])) = some ⟨upd env t .undef, h⟩ := rfl
@[simp] theorem gK_u0 {b : Bool} : gK cf d none op ⟨env, h⟩ b (.p (.tup [])) = some ⟨env, h⟩ := rfl
end

section
variable {cx : Cx} {d : Nat}
noncomputable def seqK (cx : Cx) (d : Nat) (b : ACode) : Option (AExit × St) → Option (AExit × St)
  | some (.norm, s) => codeD cx d b s
  | r => r
@[simp] theorem seqK_norm {b : ACode} {s : St} : seqK cx d b (some (.norm, s)) = codeD cx d b s := rfl
@[simp] theorem seqK_ex {b : ACode} {i : Nat} {s : St} : seqK cx d b (some (.ex i, s)) = some (.ex i, s) := rfl
@[simp] theorem seqK_ret {b : ACode} {s : St} : seqK cx d b (some (.ret, s)) = some (.ret, s) := rfl
@[simp] theorem code_seq {a b : ACode} {s : St} : codeD cx d (.seq a b) s = seqK cx d b (codeD cx d a s) := by
  rw [codeD_seq]
  match codeD cx d a s with
  | none => rfl
  | some (.norm, s) => rfl
  | some (.ex i, s) => rfl
  | some (.ret, s) => rfl
noncomputable def condK (cx : Cx) (d : Nat) (a b : ACode) (s : St) (c : AV) : Option (AExit × St) :=
  match c with | .p (.bool t) => codeD cx d (if t then a else b) s | _ => none
@[simp] theorem condK_t {a b : ACode} {s : St} : condK cx d a b s (.p (.bool true)) = codeD cx d a s := rfl
@[simp] theorem condK_f {a b : ACode} {s : St} : condK cx d a b s (.p (.bool false)) = codeD cx d b s := rfl
@[simp low] theorem condK_if {a b : ACode} {s : St} {c : Bool} : condK cx d a b s (.p (.bool c)) = if c = true then codeD cx d a s else codeD cx d b s := by cases c <;> rfl
@[simp] theorem code_cond {c : Opd} {a b : ACode} {env : Nat → AV} {h : Hp} : codeD cx d (.cond c a b) ⟨env, h⟩ = condK cx d a b ⟨env, h⟩ (c.ev env) := codeD_cond
def blockK (id : Nat) : Option (AExit × St) → Option (AExit × St)
  | some (.ex j, s) => some (if j = id then .norm else .ex j, s)
  | r => r
@[simp] theorem blockK_norm {id : Nat} {s : St} : blockK id (some (.norm, s)) = some (.norm, s) := rfl
@[simp] theorem blockK_ret {id : Nat} {s : St} : blockK id (some (.ret, s)) = some (.ret, s) := rfl
@[simp] theorem blockK_ex {id j : Nat} {s : St} : blockK id (some (.ex j, s)) = some (if j = id then .norm else .ex j, s) := rfl
@[simp] theorem code_block {id : Nat} {c : ACode} {s : St} : codeD cx d (.block id c) s = blockK id (codeD cx d c s) := by
  rw [codeD_block]
  match codeD cx d c s with
  | none => rfl
  | some (.norm, s) => simp [blockK]
  | some (.ex i, s) =>
    by_cases h : i = id <;> simp [blockK, h]
  | some (.ret, s) => simp [blockK]
@[simp] theorem seqK_ite {b : ACode} {c : Prop} [Decidable c] {x y : Option (AExit × St)} : seqK cx d b (if c then x else y) = if c then seqK cx d b x else seqK cx d b y := by split <;> rfl
@[simp] theorem blockK_ite {id : Nat} {c : Prop} [Decidable c] {x y : Option (AExit × St)} : blockK id (if c then x else y) = if c then blockK id x else blockK id y := by split <;> rfl
def regK : Option St → Option (AExit × St)
  | some s => some (.norm, s)
  | none => none
@[simp] theorem regK_some {s : St} : regK (some s) = some (.norm, s) := rfl
theorem regK_map {x : Option St} : x.map (fun s' => (AExit.norm, s')) = regK x := by cases x <;> rfl
@[simp] theorem code_text {ops : List AOper} {s : St} : codeD cx d (.reg ops false) s = regK (evOps (callD cx) d ops s) := by rw [codeD_text, regK_map]
@[simp high] theorem code_draw {ops : List AOper} {s : St} (hu : (ops.all fun o => o.un.isEmpty) = true) : codeD cx d (.reg ops true) s = regK (evOps (callD cx) d ops s) := by rw [codeD_draw hu, regK_map]

/-- A drawn region, step by step; 'hs': the tables ahead of the operations before. -/
def unOK (o : AOper) (s : St) (hs : List Hp) : Bool := o.un.all fun e => match hs[e]? with | some h => sameAt o s h | none => false
def trK (cf : CallFn) (d : Nat) : List AOper → List Hp → St → Option St
  | [], _, s => some s
  | o :: os, hs, s => if unOK o s (hs ++ [s.h]) then (stepO cf d o s).bind (trK cf d os (hs ++ [s.h])) else none
def unFit : List AOper → Nat → Bool
  | [], _ => true
  | o :: os, i => o.un.all (fun e => Nat.ble e i) && unFit os (i + 1)
theorem trK_eq (cf : CallFn) (d : Nat) : ∀ (os : List AOper) (pre : List St) (s : St), unFit os pre.length = true →
    trK cf d os (pre.map (·.h)) s = ((evTrace cf d os s).bind fun tr => if ((os.zipIdx pre.length).all fun (o, i) => o.un.all fun e => match (pre ++ tr)[i]?, (pre ++ tr)[e]? with | some s, some s' => sameAt o s s'.h | _, _ => false) then (pre ++ tr).getLast? else none)
  | [], pre, s, _ => by simp [trK, evTrace]
  | o :: os, pre, s, hu => by
    simp only [unFit, Bool.and_eq_true] at hu
    have ih := fun s' => trK_eq cf d os (pre ++ [s]) s' (by simpa using hu.2)
    have key : unOK o s ((pre ++ [s]).map (·.h)) = (o.un.all fun e => match (pre ++ [s])[e]? with | some s' => sameAt o s s'.h | none => false) := by
      unfold unOK
      congr 1
      funext e
      rw [List.getElem?_map]
      cases (pre ++ [s])[e]? <;> rfl
    simp only [trK, evTrace]
    have e1 : pre.map (·.h) ++ [s.h] = (pre ++ [s]).map (·.h) := by simp
    rw [e1, key]
    cases hst : stepO cf d o s with
    | none => simp
    | some s' =>
      simp only [Option.bind_some, ih s']
      cases htr : evTrace cf d os s' with
      | none => simp
      | some tr =>
        have e2 : pre ++ s :: tr = pre ++ [s] ++ tr := by simp
        simp only [Option.bind_some, Option.map_some, List.zipIdx_cons, List.all_cons, List.length_append, List.length_cons, List.length_nil, Nat.zero_add, e2]
        have e3 : (pre ++ [s] ++ tr)[pre.length]? = some s := by simp
        have e4 : (o.un.all fun e => match (pre ++ [s] ++ tr)[pre.length]?, (pre ++ [s] ++ tr)[e]? with | some s, some s' => sameAt o s s'.h | _, _ => false) = (o.un.all fun e => match (pre ++ [s])[e]? with | some s' => sameAt o s s'.h | none => false) := by
          rw [e3]
          have hall := List.all_eq_true.1 hu.1
          rw [Bool.eq_iff_iff, List.all_eq_true, List.all_eq_true]
          refine forall_congr' fun e => forall_congr' fun he => ?_
          have hle : e < (pre ++ [s]).length := by
            have := Nat.le_of_ble_eq_true (hall e he)
            simp; omega
          rw [List.getElem?_append_left hle]
          cases (pre ++ [s])[e]? <;> rfl
        rw [e4]
        cases (o.un.all fun e => match (pre ++ [s])[e]? with | some s' => sameAt o s s'.h | none => false)
        · simp only [Bool.false_and, Bool.false_eq_true, if_false]
        · simp only [Bool.true_and, if_true]
def trO (cf : CallFn) (d : Nat) (os : List AOper) (hs : List Hp) : Option St → Option St
  | some s => trK cf d os hs s
  | none => none
@[simp] theorem trO_some {cf : CallFn} {d : Nat} {os : List AOper} {hs : List Hp} {s : St} : trO cf d os hs (some s) = trK cf d os hs s := rfl
@[simp] theorem trK_nil {cf : CallFn} {d : Nat} {hs : List Hp} {s : St} : trK cf d [] hs s = some s := rfl
def okK (cf : CallFn) (d : Nat) (o : AOper) (s : St) : Bool → Option St
  | true => stepO cf d o s
  | false => none
@[simp] theorem okK_true {cf : CallFn} {d : Nat} {o : AOper} {s : St} : okK cf d o s true = stepO cf d o s := rfl
@[simp] theorem trK_cons {cf : CallFn} {d : Nat} {o : AOper} {os : List AOper} {hs : List Hp} {env : Nat → AV} {h : Hp} : trK cf d (o :: os) hs ⟨env, h⟩ = trO cf d os (hs ++ [h]) (okK cf d o ⟨env, h⟩ (unOK o ⟨env, h⟩ (hs ++ [h]))) := by
  simp only [trK]
  cases unOK o ⟨env, h⟩ (hs ++ [h]) with
  | false => rfl
  | true =>
    simp only [if_true, okK]
    cases stepO cf d o ⟨env, h⟩ <;> rfl
@[simp] theorem unOK_nil {dst : Option Nat} {op : AOp} {g : Option (Nat × Bool)} {s : St} {hs : List Hp} : unOK ⟨dst, op, g, []⟩ s hs = true := rfl
def chk (o : AOper) (s : St) : Option Hp → Bool
  | some h => sameAt o s h
  | none => false
@[simp] theorem chk_some {o : AOper} {s : St} {h : Hp} : chk o s (some h) = sameAt o s h := rfl
@[simp] theorem unOK_cons {dst : Option Nat} {op : AOp} {g : Option (Nat × Bool)} {e : Nat} {un : List Nat} {s : St} {hs : List Hp} :
    unOK ⟨dst, op, g, e :: un⟩ s hs = (chk ⟨dst, op, g, []⟩ s (hs[e]?) && unOK ⟨dst, op, g, un⟩ s hs) := by
  simp only [unOK, List.all_cons]
  cases hs[e]? <;> rfl
def sameAK : Option AV → Option AV → Bool
  | some a, some b => a.beq b
  | _, _ => false
@[simp] theorem sameAK_some {a b : AV} : sameAK (some a) (some b) = a.beq b := rfl
@[simp] theorem sameAt_plain {dst : Option Nat} {op : AOp} {un : List Nat} {env : Nat → AV} {h h' : Hp} : sameAt ⟨dst, op, none, un⟩ ⟨env, h⟩ h' = sameAK (pureOp env h op) (pureOp env h' op) := by
  simp only [sameAt, wants]
  cases pureOp env h op <;> cases pureOp env h' op <;> rfl
def sgK (g : AV) (b : Bool) (x : Bool) : Bool := match wantV g b with | some true => x | _ => true
@[simp] theorem sgK_tt {x : Bool} : sgK (.p (.bool true)) true x = x := rfl
@[simp] theorem sgK_ff {x : Bool} : sgK (.p (.bool false)) false x = x := rfl
@[simp] theorem sgK_tf {x : Bool} : sgK (.p (.bool false)) true x = true := rfl
@[simp] theorem sgK_ft {x : Bool} : sgK (.p (.bool true)) false x = true := rfl
@[simp] theorem sgK_u {b x : Bool} : sgK (.p (.tup [])) b x = true := rfl
@[simp] theorem sameAt_guard {dst : Option Nat} {op : AOp} {un : List Nat} {t : Nat} {b : Bool} {env : Nat → AV} {h h' : Hp} : sameAt ⟨dst, op, some (t, b), un⟩ ⟨env, h⟩ h' = sgK (env t) b (sameAK (pureOp env h op) (pureOp env h' op)) := by
  have e : wants env (some (t, b)) = wantV (env t) b := rfl
  simp only [sameAt, e, sgK]
  cases wantV (env t) b with
  | none => rfl
  | some w =>
    cases w
    · rfl
    · simp only []
      cases pureOp env h op <;> cases pureOp env h' op <;> rfl
mutual
theorem PV.beq_self : ∀ (x : PV), x.beq x = true
  | .int k n => by simp [PV.beq]
  | .bool b => by simp [PV.beq]
  | .str s => by simp [PV.beq]
  | .frz f n c => by simp [PV.beq, PV.beqL_self c]
  | .nilp => rfl
  | .nilf => rfl
  | .agg c => by simp [PV.beq, PV.beqL_self c]
  | .tup c => by simp [PV.beq, PV.beqL_self c]
  | .cptr c => by simp [PV.beq, PV.beqL_self c]
  | .func f a b => by simp [PV.beq, PV.beqL_self a, PV.beqL_self b]
theorem PV.beqL_self : ∀ (x : List PV), PV.beqL x x = true
  | [] => rfl
  | a :: x => by simp [PV.beqL, PV.beq_self a, PV.beqL_self x]
end
@[simp] theorem beq_p (x : PV) : AV.beq (.p x) (.p x) = true := by simp [AV.beq, PV.beq_self]
@[simp] theorem beq_ref {k : Key} {v o n s : Nat} {c : Bool} : AV.beq (.ref k v o n s c) (.ref k v o n s c) = true := by simp [AV.beq]
@[simp] theorem code_draws {ops : List AOper} {env : Nat → AV} {h : Hp} (hu : unFit ops 0 = true) : codeD cx d (.reg ops true) ⟨env, h⟩ = regK (trK (callD cx) d ops [] ⟨env, h⟩) := by
  have e := trK_eq (callD cx) d ops [] ⟨env, h⟩ hu
  simp only [List.map_nil, List.nil_append, List.length_nil] at e
  rw [codeD_reg, e, regK_map]
  rfl
/-- The same for a region in which an operation may meet later ones: all states are kept, and looked at in the end. -/
def trS (cf : CallFn) (d : Nat) : List AOper → List St → St → Option (List St)
  | [], acc, s => some (acc ++ [s])
  | o :: os, acc, s => (stepO cf d o s).bind (trS cf d os (acc ++ [s]))
theorem trS_eq (cf : CallFn) (d : Nat) : ∀ (os : List AOper) (acc : List St) (s : St), trS cf d os acc s = (evTrace cf d os s).map (acc ++ ·)
  | [], acc, s => rfl
  | o :: os, acc, s => by
    simp only [trS, evTrace]
    cases stepO cf d o s with
    | none => rfl
    | some s' =>
      simp only [Option.bind_some, trS_eq cf d os]
      cases evTrace cf d os s' with
      | none => rfl
      | some tr => simp
def trSO (cf : CallFn) (d : Nat) (os : List AOper) (acc : List St) : Option St → Option (List St)
  | some s => trS cf d os acc s
  | none => none
@[simp] theorem trSO_some {cf : CallFn} {d : Nat} {os : List AOper} {acc : List St} {s : St} : trSO cf d os acc (some s) = trS cf d os acc s := rfl
@[simp] theorem trS_nil {cf : CallFn} {d : Nat} {acc : List St} {s : St} : trS cf d [] acc s = some (acc ++ [s]) := rfl
@[simp] theorem trS_cons {cf : CallFn} {d : Nat} {o : AOper} {os : List AOper} {acc : List St} {s : St} : trS cf d (o :: os) acc s = trSO cf d os (acc ++ [s]) (stepO cf d o s) := by
  simp only [trS]; cases stepO cf d o s <;> rfl
def chkS (o : AOper) : Option St → Option St → Bool
  | some s, some s' => sameAt o s s'.h
  | _, _ => false
@[simp] theorem chkS_some {o : AOper} {s s' : St} : chkS o (some s) (some s') = sameAt o s s'.h := rfl
def unS (o : AOper) (s : Option St) (tr : List St) : List Nat → Bool
  | [] => true
  | e :: es => chkS o s tr[e]? && unS o s tr es
def okL (tr : List St) : List AOper → Nat → Bool
  | [], _ => true
  | o :: os, i => unS o tr[i]? tr o.un && okL tr os (i + 1)
@[simp] theorem unS_nil {o : AOper} {s : Option St} {tr : List St} : unS o s tr [] = true := rfl
@[simp] theorem unS_cons {o : AOper} {s : Option St} {tr : List St} {e : Nat} {es : List Nat} : unS o s tr (e :: es) = (chkS o s tr[e]? && unS o s tr es) := rfl
@[simp] theorem okL_nil {tr : List St} {i : Nat} : okL tr [] i = true := rfl
@[simp] theorem okL_cons {tr : List St} {o : AOper} {os : List AOper} {i : Nat} : okL tr (o :: os) i = (unS o tr[i]? tr o.un && okL tr os (i + 1)) := rfl
theorem okL_eq {tr : List St} : ∀ (os : List AOper) (i : Nat), ((os.zipIdx i).all fun (o, i) => o.un.all fun e => match tr[i]?, tr[e]? with | some s, some s' => sameAt o s s'.h | _, _ => false) = okL tr os i
  | [], i => rfl
  | o :: os, i => by
    simp only [List.zipIdx_cons, List.all_cons, okL_cons, okL_eq os]
    congr 1
    induction o.un with
    | nil => rfl
    | cons e es ih =>
      simp only [List.all_cons, unS_cons, ih]
      congr 1
def drK (ops : List AOper) : Option (List St) → Option St
  | some tr => if okL tr ops 0 then tr.getLast? else none
  | none => none
@[simp] theorem drK_some {ops : List AOper} {tr : List St} : drK ops (some tr) = if okL tr ops 0 then tr.getLast? else none := rfl
@[simp low] theorem code_drawg {ops : List AOper} {env : Nat → AV} {h : Hp} (hu : unFit ops 0 = false) : codeD cx d (.reg ops true) ⟨env, h⟩ = regK (drK ops (trS (callD cx) d ops [] ⟨env, h⟩)) := by
  rw [codeD_reg, regK_map, if_pos rfl]
  congr 1
  rw [trS_eq]
  unfold evDraw drK
  cases evTrace (callD cx) d ops ⟨env, h⟩ with
  | none => rfl
  | some tr =>
    simp only [Option.bind_some, Option.map_some, List.nil_append]
    rw [← okL_eq]
    rfl
attribute [simp] unFit Nat.ble

def retK (h : Hp) (ks : List Key) : Option PV → Option (AV × Hp)
  | some r => some (.p r, if r.flat then h else markRO h ks)
  | none => none
@[simp] theorem retK_some {h : Hp} {ks : List Key} {r : PV} : retK h ks (some r) = some (.p r, if r.flat then h else markRO h ks) := rfl
noncomputable def callK (cx : Cx) (f : FuncId) (h : Hp) : Option (List PV × List Key) → Option (AV × Hp)
  | some (ps, ks) => retK h ks (funD cx f (PV.erL ps))
  | none => none
@[simp] theorem callK_some {f : FuncId} {h : Hp} {ps : List PV} {ks : List Key} : callK cx f h (some (ps, ks)) = retK h ks (funD cx f (PV.erL ps)) := rfl
theorem call_cl {f : FuncId} {args : List AV} {h : Hp} {key : Key} (hp : cx.prim f = none) (hc : cx.pol f = .closed) : callD cx d f args h key = callK cx f h (frzLD h args) := by
  rw [callD_cl hp hc]
  cases frzLD h args with
  | none => rfl
  | some q =>
    obtain ⟨ps, ks⟩ := q
    simp only [callK_some, Option.bind_some]
    cases funD cx f (PV.erL ps) <;> rfl
end
@[simp] theorem evOp_fn {cf : CallFn} {d t : Nat} {f : FuncId} {args : List Opd} {env : Nat → AV} {h : Hp} : evOp cf d (some t) (.call (.c (.func f [] [])) args) env h = cf d f (evL env args) h ⟨d, t⟩ := by
  simp [evOp, Opd.ev]

theorem str_eq (a b : ByteArray) : (a.toList == b.toList) = decide (a = b) := by
  rw [Bool.beq_eq_decide_eq, ByteArray.toList_eq, ByteArray.toList_eq]
  by_cases h : a = b
  · simp [h]
  · have : ¬ a.data.toList = b.data.toList := by
      intro e
      apply h
      cases a; cases b
      simp at e; rw [e]
    simp [h, this]
section
variable {k k' : IntKind} {a b : Int} {x y : ByteArray}
@[simp] theorem bin_eql : binPV .eql (.int k a) (.int k b) = some (.bool (decide (a = b))) := by simp only [binPV, if_true]; rw [Bool.beq_eq_decide_eq]
@[simp] theorem bin_neq : binPV .neq (.int k a) (.int k b) = some (.bool (!decide (a = b))) := by simp only [binPV, if_true, bne]; rw [Bool.beq_eq_decide_eq]
@[simp] theorem bin_lss : binPV .lss (.int k a) (.int k b) = some (.bool (decide (a < b))) := by simp only [binPV, if_true]
@[simp] theorem bin_leq : binPV .leq (.int k a) (.int k b) = some (.bool (decide (a ≤ b))) := by simp only [binPV, if_true]
@[simp] theorem bin_gtr : binPV .gtr (.int k a) (.int k b) = some (.bool (decide (b < a))) := by simp only [binPV, if_true]
@[simp] theorem bin_geq : binPV .geq (.int k a) (.int k b) = some (.bool (decide (b ≤ a))) := by simp only [binPV, if_true]
@[simp] theorem bin_add : binPV .add (.int k a) (.int k b) = some (.int k (k.wrap (a + b))) := by simp only [binPV, if_true]
@[simp] theorem bin_sub : binPV .sub (.int k a) (.int k b) = some (.int k (k.wrap (a - b))) := by simp only [binPV, if_true]
@[simp] theorem bin_mul : binPV .mul (.int k a) (.int k b) = some (.int k (k.wrap (a * b))) := by simp only [binPV, if_true]
@[simp] theorem bin_quo : binPV .quo (.int k a) (.int k b) = if b = 0 then none else some (.int k (k.wrap (a.tdiv b))) := by simp only [binPV, if_true]
@[simp] theorem bin_rem : binPV .rem (.int k a) (.int k b) = if b = 0 then none else some (.int k (a.tmod b)) := by simp only [binPV, if_true]
theorem bin_and : binPV .and (.int k a) (.int k b) = some (.int k (k.wrap (BitVec.ofInt k.bits a &&& BitVec.ofInt k.bits b).toNat)) := by simp only [binPV, if_true]
@[simp] theorem bin_shr : binPV .shr (.int k a) (.int k' b) = if b < 0 then none else some (.int k (a.fdiv (2 ^ (min b.toNat k.bits)))) := by simp only [binPV]
@[simp] theorem bin_shl : binPV .shl (.int k a) (.int k' b) = if b < 0 then none else some (.int k (k.wrap (a * 2 ^ (min b.toNat k.bits)))) := by simp only [binPV]
@[simp] theorem bin_eqs : binPV .eql (.str x) (.str y) = some (.bool (decide (x = y))) := by simp only [binPV, str_eq]
@[simp] theorem bin_nes : binPV .neq (.str x) (.str y) = some (.bool (!decide (x = y))) := by simp only [binPV, str_eq]
end

@[simp] theorem frzLD_app {h : Hp} : ∀ {xs ys : List AV}, frzLD h (xs ++ ys) = (frzLD h xs).bind fun a => (frzLD h ys).map fun b => (a.1 ++ b.1, a.2 ++ b.2)
  | [], ys => by
    rw [frzLD_nil]
    simp only [List.nil_append, Option.bind_some]
    cases frzLD h ys <;> rfl
  | x :: xs, ys => by
    rw [List.cons_append, frzLD_cons, frzLD_cons, frzLD_app (xs := xs)]
    cases frzD h x with
    | none => rfl
    | some a =>
      cases frzLD h xs with
      | none => rfl
      | some b =>
        cases frzLD h ys with
        | none => rfl
        | some c => simp

attribute [simp] codeD_skip codeD_ret codeD_exit evOp pureOp Opd.ev enter evL St.put
  unPV asI fillA setR mkAgg_map pures_map AV.cells repl Hp.alloc Hp.put Hp.wcells Hp.cellsAt Hp.live HE.live HE.lay HE.mark Hp.mapAt Hp.wmap
  mark_getk set_getk none_get mark_nil ldCells one partA offA slS slA bnd resL resAV joinRes frzD_p frzLD_nil frzLD_cons frzD_ref frzD_agg frzD_tup frzLD_ps
  minI maxI lkRes zeroOf goodK mkFn eqInts allInts srcCells opApp opCpy mkAgg mkTup pures idxSA
end Go.Va
end
section
namespace Go.Va

section
variable {cx : Cx} {d : Nat}

/-- What a call that hands over a row answers. -/
abbrev Own' := PV ⊕ (Nat × Nat × Bool × List PV)
noncomputable def ownR (rs : Nat) (r : AV × Hp) : Option Own' :=
  match r.1 with
  | .p (.frz fl n cs) => some (if fl.tight && n == 0 && cs.isEmpty && decide (0 < rs) then .inr (0, rs, false, []) else .inl (.frz .any n (PV.erL cs)))
  | .p x => some (.inl x.er)
  | .ref key ver off n s clip => (r.2.wcells key ver).bind fun cs =>
      if off = 0 ∧ n * s ≤ cs.length then (frzLD (r.2.set key (r.2.get key).kill) (cs.take (n * s))).map fun q => .inr (n, s, clip, PV.erL q.1) else none
  | _ => none
noncomputable def ownD (cx : Cx) (f : FuncId) (ps : List PV) : Option Own' :=
  (cx.fns f).bind fun fn => (bodyD cx 0 fn (ps.map .p) Hp.none).bind (ownR fn.rs)

theorem ownD_iff {f : FuncId} {fn : AFn} (hf : cx.fns f = some fn) {ps : List PV} {r : Own'} : ownD cx f ps = some r ↔ ∃ k, ownedFn cx (evCall cx k) k fn ps = some r := by
  unfold ownD ownedFn
  rw [hf, Option.bind_some]
  simp only [Option.bind_eq_some_iff, bodyD_iff]
  constructor
  · rintro ⟨⟨v, h⟩, ⟨k, h1⟩, h2⟩
    unfold ownR at h2
    simp only at h2
    split at h2
    · exact ⟨k, _, h1, by simpa using h2⟩
    · rename_i x hx
      refine ⟨k, _, h1, ?_⟩
      cases x <;> first | exact h2 | exact absurd rfl (hx _ _ _)
    · rename_i key ver off n s clip
      simp only [Option.bind_eq_some_iff] at h2
      obtain ⟨cs, hc, h2⟩ := h2
      split at h2
      · rename_i hh
        simp only [Option.map_eq_some_iff, frzLD_iff] at h2
        obtain ⟨q, ⟨m, hq⟩, e⟩ := h2
        refine ⟨max k m, _, runBody_mono (evCall_le (Nat.le_max_left _ _)) (Nat.le_max_left _ _) h1, ?_⟩
        simp only [hc, Option.bind_some, if_pos hh, Option.map_eq_some_iff]
        exact ⟨q, frzL_le (Nat.le_max_right _ _) hq, e⟩
      · cases h2
    · cases h2
  · rintro ⟨k, ⟨v, h⟩, h1, h2⟩
    refine ⟨⟨v, h⟩, ⟨k, h1⟩, ?_⟩
    unfold ownR
    simp only at h2 ⊢
    split at h2
    · simpa using h2
    · rename_i x hx
      cases x <;> first | exact h2 | exact absurd rfl (hx _ _ _)
    · simp only [Option.bind_eq_some_iff] at h2 ⊢
      obtain ⟨cs, hc, h2⟩ := h2
      refine ⟨cs, hc, ?_⟩
      split at h2
      · rename_i hh
        rw [if_pos hh]
        simp only [Option.map_eq_some_iff, frzLD_iff] at h2 ⊢
        obtain ⟨q, hq, e⟩ := h2
        exact ⟨q, ⟨k, hq⟩, e⟩
      · cases h2
    · cases h2

def giveK (h : Hp) (ks : List Key) (key : Key) : Option Own' → Option (AV × Hp)
  | some (.inl x) => some (.p x, if x.flat then h else markRO h ks)
  | some (.inr (n, s, clip, cs)) => some (.ref key (((if PV.flatL cs then h else markRO h ks).get key).ver + 1) 0 n s clip, (if PV.flatL cs then h else markRO h ks).alloc key (.cells (cs.map .p)))
  | none => none
@[simp] theorem giveK_inl {h : Hp} {ks : List Key} {key : Key} {x : PV} : giveK h ks key (some (.inl x)) = some (.p x, if x.flat then h else markRO h ks) := rfl
@[simp] theorem giveK_inr {h : Hp} {ks : List Key} {key : Key} {n s : Nat} {clip : Bool} {cs : List PV} :
    giveK h ks key (some (.inr (n, s, clip, cs))) = some (.ref key (((if PV.flatL cs then h else markRO h ks).get key).ver + 1) 0 n s clip, (if PV.flatL cs then h else markRO h ks).alloc key (.cells (cs.map .p))) := rfl
noncomputable def ownK (cx : Cx) (f : FuncId) (h : Hp) (key : Key) : Option (List PV × List Key) → Option (AV × Hp)
  | some (ps, ks) => giveK h ks key (ownD cx f (PV.erL ps))
  | none => none
@[simp] theorem ownK_some {f : FuncId} {h : Hp} {key : Key} {ps : List PV} {ks : List Key} : ownK cx f h key (some (ps, ks)) = giveK h ks key (ownD cx f (PV.erL ps)) := rfl

theorem call_own {f : FuncId} {fn : AFn} {args : List AV} {h : Hp} {key : Key} (hf : cx.fns f = some fn) (hp : cx.prim f = none) (hc : cx.pol f = .owned) : callD cx d f args h key = ownK cx f h key (frzLD h args) := by
  apply opt_ext
  intro r
  rw [callD_iff]
  constructor
  · rintro ⟨k, hk⟩
    cases k with
    | zero => simp [evCall] at hk
    | succ k =>
      simp only [evCall, evCall0, hp, hc, hf, Option.bind_some] at hk
      cases ha : pures args with
      | some ps =>
        simp only [ha, Option.map_eq_some_iff] at hk
        obtain ⟨o, ho, e⟩ := hk
        rw [frzLD_pures ha, ownK_some, (ownD_iff hf).2 ⟨k, ho⟩]
        cases o with
        | inl x => rw [giveK_inl, ← e, mark_nil, ite_self]
        | inr q => obtain ⟨n, s, clip, cs⟩ := q; rw [giveK_inr, ← e, mark_nil, ite_self]
      | none =>
        simp only [ha, Option.bind_eq_some_iff, Option.map_eq_some_iff] at hk
        obtain ⟨⟨ps, ks⟩, hq, o, ho, e⟩ := hk
        rw [frzLD_iff.2 ⟨k, hq⟩, ownK_some, (ownD_iff hf).2 ⟨k, ho⟩]
        cases o with
        | inl x => rw [giveK_inl, ← e]
        | inr q => obtain ⟨n, s, clip, cs⟩ := q; rw [giveK_inr, ← e]
  · intro hk
    cases hz : frzLD h args with
    | none => rw [hz] at hk; cases hk
    | some q =>
      obtain ⟨ps, ks⟩ := q
      rw [hz, ownK_some] at hk
      cases ho : ownD cx f (PV.erL ps) with
      | none => rw [ho] at hk; cases hk
      | some o =>
        obtain ⟨m, ho'⟩ := (ownD_iff hf).1 ho
        obtain ⟨k, hq⟩ := frzLD_iff.1 hz
        rw [ho] at hk
        have h1 : ownedFn cx (evCall cx (max k m)) (max k m) fn (PV.erL ps) = some o := ownedFn_mono (evCall_le (Nat.le_max_right _ _)) (Nat.le_max_right _ _) ho'
        refine ⟨max k m + 1, ?_⟩
        simp only [evCall, evCall0, hp, hc, hf, Option.bind_some]
        cases ha : pures args with
        | some ps' =>
          have := frzLD_pures (h := h) ha
          rw [hz] at this
          cases this
          simp only [h1, Option.map_some]
          rw [← hk]
          cases o with
          | inl x => rw [giveK_inl, mark_nil, ite_self]
          | inr q => obtain ⟨n, s, clip, cs⟩ := q; rw [giveK_inr, mark_nil, ite_self]
        | none =>
          simp only [frzL_le (Nat.le_max_left k m) hq, Option.bind_some, h1, Option.map_some]
          rw [← hk]
          cases o with
          | inl x => rfl
          | inr q => rfl

/-! ### Calls on the caller's table -/
end
end Go.Va
end
section
namespace Go.Va

theorem frzD_ptr {h : Hp} {k : Key} {ver off : Nat} : frzD h (.ptr k ver off) = (h.cellsAt k ver).bind fun cs => (frzLD h (cs.drop off)).map fun r => (.cptr r.1, k :: r.2) := by
  apply opt_ext
  intro r
  rw [frzD_iff]
  simp only [Option.bind_eq_some_iff, Option.map_eq_some_iff, frzLD_iff]
  constructor
  · rintro ⟨n, hk⟩
    cases n with
    | zero => simp [frzV] at hk
    | succ n =>
      simp only [frzV, Option.bind_eq_some_iff, Option.map_eq_some_iff] at hk
      obtain ⟨cs, h1, a, h2, e⟩ := hk
      exact ⟨cs, h1, a, ⟨n, h2⟩, e⟩
  · rintro ⟨cs, h1, a, ⟨n, h2⟩, e⟩
    refine ⟨n + 1, ?_⟩
    simp only [frzV, Option.bind_eq_some_iff, Option.map_eq_some_iff]
    exact ⟨cs, h1, a, h2, e⟩
theorem frzD_func {h : Hp} {f : FuncId} {a b : List AV} : frzD h (.func f a b) = (frzLD h a).bind fun x => (frzLD h b).map fun y => (.func f x.1 y.1, x.2 ++ y.2) := by
  apply opt_ext
  intro r
  rw [frzD_iff]
  simp only [Option.bind_eq_some_iff, Option.map_eq_some_iff, frzLD_iff]
  constructor
  · rintro ⟨n, hk⟩
    cases n with
    | zero => simp [frzV] at hk
    | succ n =>
      simp only [frzV, Option.bind_eq_some_iff, Option.map_eq_some_iff] at hk
      obtain ⟨x, h1, y, h2, e⟩ := hk
      exact ⟨x, ⟨n, h1⟩, y, ⟨n, h2⟩, e⟩
  · rintro ⟨x, ⟨n, h1⟩, y, ⟨m, h2⟩, e⟩
    refine ⟨max n m + 1, ?_⟩
    simp only [frzV, Option.bind_eq_some_iff, Option.map_eq_some_iff]
    exact ⟨x, frzL_le (Nat.le_max_left _ _) h1, y, frzL_le (Nat.le_max_right _ _) h2, e⟩
attribute [simp] frzD_ptr frzD_func

/-- Function values are frozen, the other values stay. -/
noncomputable def frzFD (h : Hp) : List AV → Option (List AV × List Key)
  | [] => some ([], [])
  | .func f a b :: r => (frzD h (.func f a b)).bind fun x => (frzFD h r).map fun y => (.p x.1 :: y.1, x.2 ++ y.2)
  | v :: r => (frzFD h r).map fun y => (v :: y.1, y.2)
attribute [simp] frzFD
theorem frzFD_iff {h : Hp} : ∀ {args : List AV} {r : List AV × List Key}, frzFD h args = some r ↔ ∃ k, frzFns h k args = some r
  | [], r => by simp [frzFD, frzFns]
  | v :: args, r => by
    have ih := fun r => frzFD_iff (h := h) (args := args) (r := r)
    cases v with
    | func f a b =>
      simp only [frzFD, frzFns, Option.bind_eq_some_iff, Option.map_eq_some_iff, frzD_iff, ih]
      constructor
      · rintro ⟨x, ⟨n, h1⟩, y, ⟨m, h2⟩, e⟩
        exact ⟨max n m, x, frzV_le (Nat.le_max_left _ _) h1, y, frzFns_le (Nat.le_max_right _ _) h2, e⟩
      · rintro ⟨n, x, h1, y, h2, e⟩
        exact ⟨x, ⟨n, h1⟩, y, ⟨n, h2⟩, e⟩
    | _ =>
      simp only [frzFD, frzFns, Option.map_eq_some_iff, ih]
      constructor
      · rintro ⟨y, ⟨m, h2⟩, e⟩; exact ⟨m, y, h2, e⟩
      · rintro ⟨m, y, h2, e⟩; exact ⟨y, ⟨m, h2⟩, e⟩
section
variable {cx : Cx} {d : Nat}
noncomputable def byR (cx : Cx) (d : Nat) (fn : AFn) (h : Hp) : Option (List AV × List Key) → Option (AV × Hp)
  | some (ags, ks) => bodyD cx (d + 1) fn ags (markRO h ks)
  | none => none
@[simp] theorem byR_some {fn : AFn} {h : Hp} {ags : List AV} {ks : List Key} : byR cx d fn h (some (ags, ks)) = bodyD cx (d + 1) fn ags (markRO h ks) := rfl
theorem call_byf {f : FuncId} {fn : AFn} {args : List AV} {h : Hp} {key : Key} (hf : cx.fns f = some fn) (hp : cx.prim f = none) (hc : cx.pol f = .byref) : callD cx d f args h key = byR cx d fn h (frzFD h args) := by
  apply opt_ext
  intro r
  rw [callD_iff]
  constructor
  · rintro ⟨k, hk⟩
    cases k with
    | zero => simp [evCall] at hk
    | succ k =>
      simp only [evCall, evCall0, hp, hc, hf, Option.bind_some, Option.bind_eq_some_iff] at hk
      obtain ⟨⟨ags, ks⟩, h1, h2⟩ := hk
      rw [frzFD_iff.2 ⟨k, h1⟩, byR_some]
      exact bodyD_iff.2 ⟨k, h2⟩
  · intro hk
    cases hz : frzFD h args with
    | none => rw [hz] at hk; cases hk
    | some q =>
      obtain ⟨ags, ks⟩ := q
      rw [hz, byR_some] at hk
      obtain ⟨n, h1⟩ := frzFD_iff.1 hz
      obtain ⟨m, h2⟩ := bodyD_iff.1 hk
      refine ⟨max n m + 1, ?_⟩
      simp only [evCall, evCall0, hp, hc, hf, Option.bind_some, Option.bind_eq_some_iff]
      exact ⟨(ags, ks), frzFns_le (Nat.le_max_left _ _) h1, runBody_mono (evCall_le (Nat.le_max_right _ _)) (Nat.le_max_right _ _) h2⟩
end
end Go.Va
end
section
open Go.Proofs
namespace Go.Va
variable {pp : Option PrimFn} {d : Nat} {args : List AV} {h : Hp} {key : Key}
@[simp] theorem call_3 : callD (cxT pp) d 3 args h key = callK (cxT pp) 3 h (frzLD h args) := call_cl prim_3 pol_3
@[simp] theorem call_4 : callD (cxT pp) d 4 args h key = callK (cxT pp) 4 h (frzLD h args) := call_cl prim_4 pol_4
@[simp] theorem call_5 : callD (cxT pp) d 5 args h key = callK (cxT pp) 5 h (frzLD h args) := call_cl prim_5 pol_5
@[simp] theorem call_7 : callD (cxT pp) d 7 args h key = callK (cxT pp) 7 h (frzLD h args) := call_cl prim_7 pol_7
@[simp] theorem call_8 : callD (cxT pp) d 8 args h key = callK (cxT pp) 8 h (frzLD h args) := call_cl prim_8 pol_8
@[simp] theorem call_9 : callD (cxT pp) d 9 args h key = callK (cxT pp) 9 h (frzLD h args) := call_cl prim_9 pol_9
@[simp] theorem call_16 : callD (cxT pp) d 16 args h key = callK (cxT pp) 16 h (frzLD h args) := call_cl prim_16 pol_16
@[simp] theorem call_17 : callD (cxT pp) d 17 args h key = callK (cxT pp) 17 h (frzLD h args) := call_cl prim_17 pol_17
@[simp] theorem call_18 : callD (cxT pp) d 18 args h key = ownK (cxT pp) 18 h key (frzLD h args) := call_own fns_18 prim_18 pol_18
@[simp] theorem call_19 : callD (cxT pp) d 19 args h key = callK (cxT pp) 19 h (frzLD h args) := call_cl prim_19 pol_19
@[simp] theorem call_20 : callD (cxT pp) d 20 args h key = callK (cxT pp) 20 h (frzLD h args) := call_cl prim_20 pol_20
@[simp] theorem call_21 : callD (cxT pp) d 21 args h key = callK (cxT pp) 21 h (frzLD h args) := call_cl prim_21 pol_21
@[simp] theorem call_22 : callD (cxT pp) d 22 args h key = callK (cxT pp) 22 h (frzLD h args) := call_cl prim_22 pol_22
@[simp] theorem call_23 : callD (cxT pp) d 23 args h key = callK (cxT pp) 23 h (frzLD h args) := call_cl prim_23 pol_23
@[simp] theorem call_24 : callD (cxT pp) d 24 args h key = callK (cxT pp) 24 h (frzLD h args) := call_cl prim_24 pol_24
@[simp] theorem call_25 : callD (cxT pp) d 25 args h key = callK (cxT pp) 25 h (frzLD h args) := call_cl prim_25 pol_25
@[simp] theorem call_26 : callD (cxT pp) d 26 args h key = callK (cxT pp) 26 h (frzLD h args) := call_cl prim_26 pol_26
@[simp] theorem call_27 : callD (cxT pp) d 27 args h key = callK (cxT pp) 27 h (frzLD h args) := call_cl prim_27 pol_27
@[simp] theorem call_28 : callD (cxT pp) d 28 args h key = callK (cxT pp) 28 h (frzLD h args) := call_cl prim_28 pol_28
@[simp] theorem call_29 : callD (cxT pp) d 29 args h key = callK (cxT pp) 29 h (frzLD h args) := call_cl prim_29 pol_29
@[simp] theorem call_33 : callD (cxT pp) d 33 args h key = ownK (cxT pp) 33 h key (frzLD h args) := call_own fns_33 prim_33 pol_33
@[simp] theorem call_34 : callD (cxT pp) d 34 args h key = callK (cxT pp) 34 h (frzLD h args) := call_cl prim_34 pol_34
@[simp] theorem call_35 : callD (cxT pp) d 35 args h key = callK (cxT pp) 35 h (frzLD h args) := call_cl prim_35 pol_35
@[simp] theorem call_45 : callD (cxT pp) d 45 args h key = callK (cxT pp) 45 h (frzLD h args) := call_cl prim_45 pol_45
@[simp] theorem call_54 : callD (cxT pp) d 54 args h key = callK (cxT pp) 54 h (frzLD h args) := call_cl prim_54 pol_54
@[simp] theorem call_55 : callD (cxT pp) d 55 args h key = callK (cxT pp) 55 h (frzLD h args) := call_cl prim_55 pol_55
@[simp] theorem call_56 : callD (cxT pp) d 56 args h key = callK (cxT pp) 56 h (frzLD h args) := call_cl prim_56 pol_56
@[simp] theorem call_57 : callD (cxT pp) d 57 args h key = callK (cxT pp) 57 h (frzLD h args) := call_cl prim_57 pol_57
@[simp] theorem call_58 : callD (cxT pp) d 58 args h key = callK (cxT pp) 58 h (frzLD h args) := call_cl prim_58 pol_58
@[simp] theorem call_59 : callD (cxT pp) d 59 args h key = callK (cxT pp) 59 h (frzLD h args) := call_cl prim_59 pol_59
@[simp] theorem call_60 : callD (cxT pp) d 60 args h key = callK (cxT pp) 60 h (frzLD h args) := call_cl prim_60 pol_60
@[simp] theorem call_61 : callD (cxT pp) d 61 args h key = callK (cxT pp) 61 h (frzLD h args) := call_cl prim_61 pol_61
@[simp] theorem call_62 : callD (cxT pp) d 62 args h key = callK (cxT pp) 62 h (frzLD h args) := call_cl prim_62 pol_62
@[simp] theorem call_63 : callD (cxT pp) d 63 args h key = callK (cxT pp) 63 h (frzLD h args) := call_cl prim_63 pol_63
@[simp] theorem call_64 : callD (cxT pp) d 64 args h key = callK (cxT pp) 64 h (frzLD h args) := call_cl prim_64 pol_64
@[simp] theorem call_65 : callD (cxT pp) d 65 args h key = callK (cxT pp) 65 h (frzLD h args) := call_cl prim_65 pol_65
@[simp] theorem call_66 : callD (cxT pp) d 66 args h key = callK (cxT pp) 66 h (frzLD h args) := call_cl prim_66 pol_66
@[simp] theorem call_67 : callD (cxT pp) d 67 args h key = callK (cxT pp) 67 h (frzLD h args) := call_cl prim_67 pol_67
@[simp] theorem call_68 : callD (cxT pp) d 68 args h key = callK (cxT pp) 68 h (frzLD h args) := call_cl prim_68 pol_68
@[simp] theorem call_69 : callD (cxT pp) d 69 args h key = callK (cxT pp) 69 h (frzLD h args) := call_cl prim_69 pol_69
@[simp] theorem call_70 : callD (cxT pp) d 70 args h key = callK (cxT pp) 70 h (frzLD h args) := call_cl prim_70 pol_70
@[simp] theorem call_71 : callD (cxT pp) d 71 args h key = callK (cxT pp) 71 h (frzLD h args) := call_cl prim_71 pol_71
@[simp] theorem call_72 : callD (cxT pp) d 72 args h key = callK (cxT pp) 72 h (frzLD h args) := call_cl prim_72 pol_72
@[simp] theorem call_73 : callD (cxT pp) d 73 args h key = callK (cxT pp) 73 h (frzLD h args) := call_cl prim_73 pol_73
@[simp] theorem call_74 : callD (cxT pp) d 74 args h key = callK (cxT pp) 74 h (frzLD h args) := call_cl prim_74 pol_74
@[simp] theorem call_75 : callD (cxT pp) d 75 args h key = callK (cxT pp) 75 h (frzLD h args) := call_cl prim_75 pol_75
@[simp] theorem call_76 : callD (cxT pp) d 76 args h key = callK (cxT pp) 76 h (frzLD h args) := call_cl prim_76 pol_76
@[simp] theorem call_77 : callD (cxT pp) d 77 args h key = callK (cxT pp) 77 h (frzLD h args) := call_cl prim_77 pol_77
@[simp] theorem call_78 : callD (cxT pp) d 78 args h key = callK (cxT pp) 78 h (frzLD h args) := call_cl prim_78 pol_78
@[simp] theorem call_80 : callD (cxT pp) d 80 args h key = callK (cxT pp) 80 h (frzLD h args) := call_cl prim_80 pol_80
@[simp] theorem call_81 : callD (cxT pp) d 81 args h key = callK (cxT pp) 81 h (frzLD h args) := call_cl prim_81 pol_81
@[simp] theorem call_82 : callD (cxT pp) d 82 args h key = callK (cxT pp) 82 h (frzLD h args) := call_cl prim_82 pol_82
@[simp] theorem call_83 : callD (cxT pp) d 83 args h key = callK (cxT pp) 83 h (frzLD h args) := call_cl prim_83 pol_83
@[simp] theorem call_84 : callD (cxT pp) d 84 args h key = callK (cxT pp) 84 h (frzLD h args) := call_cl prim_84 pol_84
@[simp] theorem call_85 : callD (cxT pp) d 85 args h key = byR (cxT pp) d fn85 h (frzFD h args) := call_byf fns_85 prim_85 pol_85
@[simp] theorem call_86 : callD (cxT pp) d 86 args h key = byR (cxT pp) d fn86 h (frzFD h args) := call_byf fns_86 prim_86 pol_86
@[simp] theorem call_96 : callD (cxT pp) d 96 args h key = callK (cxT pp) 96 h (frzLD h args) := call_cl prim_96 pol_96
@[simp] theorem call_97 : callD (cxT pp) d 97 args h key = specClone 7 d args h key := callD_prim prim_97
@[simp] theorem call_99 : callD (cxT pp) d 99 args h key = specClone 3 d args h key := callD_prim prim_99
@[simp] theorem call_102 : callD (cxT pp) d 102 args h key = callK (cxT pp) 102 h (frzLD h args) := call_cl prim_102 pol_102
@[simp] theorem call_103 : callD (cxT pp) d 103 args h key = callK (cxT pp) 103 h (frzLD h args) := call_cl prim_103 pol_103
@[simp] theorem call_107 : callD (cxT pp) d 107 args h key = callK (cxT pp) 107 h (frzLD h args) := call_cl prim_107 pol_107
@[simp] theorem call_108 : callD (cxT pp) d 108 args h key = callK (cxT pp) 108 h (frzLD h args) := call_cl prim_108 pol_108
@[simp] theorem call_109 : callD (cxT pp) d 109 args h key = callK (cxT pp) 109 h (frzLD h args) := call_cl prim_109 pol_109
@[simp] theorem call_110 : callD (cxT pp) d 110 args h key = callK (cxT pp) 110 h (frzLD h args) := call_cl prim_110 pol_110
@[simp] theorem call_111 : callD (cxT pp) d 111 args h key = callK (cxT pp) 111 h (frzLD h args) := call_cl prim_111 pol_111
@[simp] theorem call_112 : callD (cxT pp) d 112 args h key = callK (cxT pp) 112 h (frzLD h args) := call_cl prim_112 pol_112
@[simp] theorem call_113 : callD (cxT pp) d 113 args h key = callK (cxT pp) 113 h (frzLD h args) := call_cl prim_113 pol_113
@[simp] theorem call_114 : callD (cxT pp) d 114 args h key = callK (cxT pp) 114 h (frzLD h args) := call_cl prim_114 pol_114
@[simp] theorem call_115 : callD (cxT pp) d 115 args h key = specInsert 1 d args h key := callD_prim prim_115
@[simp] theorem call_116 : callD (cxT pp) d 116 args h key = specClone 1 d args h key := callD_prim prim_116
@[simp] theorem call_117 : callD (cxT pp) d 117 args h key = callK (cxT pp) 117 h (frzLD h args) := call_cl prim_117 pol_117
@[simp] theorem call_118 : callD (cxT pp) d 118 args h key = callK (cxT pp) 118 h (frzLD h args) := call_cl prim_118 pol_118
@[simp] theorem call_119 : callD (cxT pp) d 119 args h key = callK (cxT pp) 119 h (frzLD h args) := call_cl prim_119 pol_119
@[simp] theorem call_120 : callD (cxT pp) d 120 args h key = callK (cxT pp) 120 h (frzLD h args) := call_cl prim_120 pol_120
@[simp] theorem call_121 : callD (cxT pp) d 121 args h key = byR (cxT pp) d fn121 h (frzFD h args) := call_byf fns_121 prim_121 pol_121
@[simp] theorem call_122 : callD (cxT pp) d 122 args h key = callK (cxT pp) 122 h (frzLD h args) := call_cl prim_122 pol_122
@[simp] theorem call_123 : callD (cxT pp) d 123 args h key = callK (cxT pp) 123 h (frzLD h args) := call_cl prim_123 pol_123
@[simp] theorem call_124 : callD (cxT pp) d 124 args h key = callK (cxT pp) 124 h (frzLD h args) := call_cl prim_124 pol_124
@[simp] theorem call_125 : callD (cxT pp) d 125 args h key = callK (cxT pp) 125 h (frzLD h args) := call_cl prim_125 pol_125
@[simp] theorem call_126 : callD (cxT pp) d 126 args h key = callK (cxT pp) 126 h (frzLD h args) := call_cl prim_126 pol_126
@[simp] theorem call_127 : callD (cxT pp) d 127 args h key = callK (cxT pp) 127 h (frzLD h args) := call_cl prim_127 pol_127
@[simp] theorem call_128 : callD (cxT pp) d 128 args h key = callK (cxT pp) 128 h (frzLD h args) := call_cl prim_128 pol_128
@[simp] theorem call_129 : callD (cxT pp) d 129 args h key = ownK (cxT pp) 129 h key (frzLD h args) := call_own fns_129 prim_129 pol_129
@[simp] theorem call_130 : callD (cxT pp) d 130 args h key = callK (cxT pp) 130 h (frzLD h args) := call_cl prim_130 pol_130
@[simp] theorem call_131 : callD (cxT pp) d 131 args h key = callK (cxT pp) 131 h (frzLD h args) := call_cl prim_131 pol_131
@[simp] theorem call_132 : callD (cxT pp) d 132 args h key = callK (cxT pp) 132 h (frzLD h args) := call_cl prim_132 pol_132
@[simp] theorem call_133 : callD (cxT pp) d 133 args h key = callK (cxT pp) 133 h (frzLD h args) := call_cl prim_133 pol_133
@[simp] theorem call_134 : callD (cxT pp) d 134 args h key = callK (cxT pp) 134 h (frzLD h args) := call_cl prim_134 pol_134
@[simp] theorem call_135 : callD (cxT pp) d 135 args h key = callK (cxT pp) 135 h (frzLD h args) := call_cl prim_135 pol_135
@[simp] theorem call_136 : callD (cxT pp) d 136 args h key = callK (cxT pp) 136 h (frzLD h args) := call_cl prim_136 pol_136
@[simp] theorem call_137 : callD (cxT pp) d 137 args h key = callK (cxT pp) 137 h (frzLD h args) := call_cl prim_137 pol_137
@[simp] theorem call_138 : callD (cxT pp) d 138 args h key = callK (cxT pp) 138 h (frzLD h args) := call_cl prim_138 pol_138
@[simp] theorem call_139 : callD (cxT pp) d 139 args h key = callK (cxT pp) 139 h (frzLD h args) := call_cl prim_139 pol_139
@[simp] theorem call_140 : callD (cxT pp) d 140 args h key = callK (cxT pp) 140 h (frzLD h args) := call_cl prim_140 pol_140
@[simp] theorem call_141 : callD (cxT pp) d 141 args h key = callK (cxT pp) 141 h (frzLD h args) := call_cl prim_141 pol_141
@[simp] theorem call_142 : callD (cxT pp) d 142 args h key = callK (cxT pp) 142 h (frzLD h args) := call_cl prim_142 pol_142
@[simp] theorem call_143 : callD (cxT pp) d 143 args h key = callK (cxT pp) 143 h (frzLD h args) := call_cl prim_143 pol_143
@[simp] theorem call_144 : callD (cxT pp) d 144 args h key = callK (cxT pp) 144 h (frzLD h args) := call_cl prim_144 pol_144
@[simp] theorem call_145 : callD (cxT pp) d 145 args h key = callK (cxT pp) 145 h (frzLD h args) := call_cl prim_145 pol_145
@[simp] theorem call_147 : callD (cxT pp) d 147 args h key = callK (cxT pp) 147 h (frzLD h args) := call_cl prim_147 pol_147
@[simp] theorem call_148 : callD (cxT pp) d 148 args h key = callK (cxT pp) 148 h (frzLD h args) := call_cl prim_148 pol_148
@[simp] theorem call_149 : callD (cxT pp) d 149 args h key = callK (cxT pp) 149 h (frzLD h args) := call_cl prim_149 pol_149
@[simp] theorem call_150 : callD (cxT pp) d 150 args h key = callK (cxT pp) 150 h (frzLD h args) := call_cl prim_150 pol_150
@[simp] theorem call_152 : callD (cxT pp) d 152 args h key = callK (cxT pp) 152 h (frzLD h args) := call_cl prim_152 pol_152
@[simp] theorem call_153 : callD (cxT pp) d 153 args h key = callK (cxT pp) 153 h (frzLD h args) := call_cl prim_153 pol_153
@[simp] theorem call_154 : callD (cxT pp) d 154 args h key = callK (cxT pp) 154 h (frzLD h args) := call_cl prim_154 pol_154
@[simp] theorem call_155 : callD (cxT pp) d 155 args h key = callK (cxT pp) 155 h (frzLD h args) := call_cl prim_155 pol_155
@[simp] theorem call_156 : callD (cxT pp) d 156 args h key = callK (cxT pp) 156 h (frzLD h args) := call_cl prim_156 pol_156
@[simp] theorem call_158 : callD (cxT pp) d 158 args h key = byR (cxT pp) d fn158 h (frzFD h args) := call_byf fns_158 prim_158 pol_158
@[simp] theorem call_159 : callD (cxT pp) d 159 args h key = specInsert 1 d args h key := callD_prim prim_159
@[simp] theorem call_160 : callD (cxT pp) d 160 args h key = byR (cxT pp) d fn160 h (frzFD h args) := call_byf fns_160 prim_160 pol_160
@[simp] theorem call_161 : callD (cxT pp) d 161 args h key = callK (cxT pp) 161 h (frzLD h args) := call_cl prim_161 pol_161
@[simp] theorem call_162 : callD (cxT pp) d 162 args h key = callK (cxT pp) 162 h (frzLD h args) := call_cl prim_162 pol_162
@[simp] theorem call_163 : callD (cxT pp) d 163 args h key = callK (cxT pp) 163 h (frzLD h args) := call_cl prim_163 pol_163
@[simp] theorem call_164 : callD (cxT pp) d 164 args h key = callK (cxT pp) 164 h (frzLD h args) := call_cl prim_164 pol_164
@[simp] theorem call_165 : callD (cxT pp) d 165 args h key = callK (cxT pp) 165 h (frzLD h args) := call_cl prim_165 pol_165
@[simp] theorem call_166 : callD (cxT pp) d 166 args h key = callK (cxT pp) 166 h (frzLD h args) := call_cl prim_166 pol_166
@[simp] theorem call_167 : callD (cxT pp) d 167 args h key = callK (cxT pp) 167 h (frzLD h args) := call_cl prim_167 pol_167
@[simp] theorem call_168 : callD (cxT pp) d 168 args h key = specInsert 2 d args h key := callD_prim prim_168
@[simp] theorem call_169 : callD (cxT pp) d 169 args h key = byR (cxT pp) d fn169 h (frzFD h args) := call_byf fns_169 prim_169 pol_169
@[simp] theorem call_170 : callD (cxT pp) d 170 args h key = specClone 2 d args h key := callD_prim prim_170
@[simp] theorem call_171 : callD (cxT pp) d 171 args h key = ownK (cxT pp) 171 h key (frzLD h args) := call_own fns_171 prim_171 pol_171
@[simp] theorem call_172 : callD (cxT pp) d 172 args h key = callK (cxT pp) 172 h (frzLD h args) := call_cl prim_172 pol_172
@[simp] theorem call_173 : callD (cxT pp) d 173 args h key = callK (cxT pp) 173 h (frzLD h args) := call_cl prim_173 pol_173
@[simp] theorem call_174 : callD (cxT pp) d 174 args h key = callK (cxT pp) 174 h (frzLD h args) := call_cl prim_174 pol_174
@[simp] theorem call_175 : callD (cxT pp) d 175 args h key = callK (cxT pp) 175 h (frzLD h args) := call_cl prim_175 pol_175
@[simp] theorem call_176 : callD (cxT pp) d 176 args h key = callK (cxT pp) 176 h (frzLD h args) := call_cl prim_176 pol_176
@[simp] theorem call_177 : callD (cxT pp) d 177 args h key = callK (cxT pp) 177 h (frzLD h args) := call_cl prim_177 pol_177
@[simp] theorem call_178 : callD (cxT pp) d 178 args h key = callK (cxT pp) 178 h (frzLD h args) := call_cl prim_178 pol_178
@[simp] theorem call_179 : callD (cxT pp) d 179 args h key = callK (cxT pp) 179 h (frzLD h args) := call_cl prim_179 pol_179
@[simp] theorem call_180 : callD (cxT pp) d 180 args h key = callK (cxT pp) 180 h (frzLD h args) := call_cl prim_180 pol_180
@[simp] theorem call_181 : callD (cxT pp) d 181 args h key = callK (cxT pp) 181 h (frzLD h args) := call_cl prim_181 pol_181
@[simp] theorem call_182 : callD (cxT pp) d 182 args h key = callK (cxT pp) 182 h (frzLD h args) := call_cl prim_182 pol_182
@[simp] theorem call_183 : callD (cxT pp) d 183 args h key = callK (cxT pp) 183 h (frzLD h args) := call_cl prim_183 pol_183
@[simp] theorem call_184 : callD (cxT pp) d 184 args h key = callK (cxT pp) 184 h (frzLD h args) := call_cl prim_184 pol_184
@[simp] theorem call_185 : callD (cxT pp) d 185 args h key = callK (cxT pp) 185 h (frzLD h args) := call_cl prim_185 pol_185
@[simp] theorem call_186 : callD (cxT pp) d 186 args h key = callK (cxT pp) 186 h (frzLD h args) := call_cl prim_186 pol_186
@[simp] theorem call_187 : callD (cxT pp) d 187 args h key = callK (cxT pp) 187 h (frzLD h args) := call_cl prim_187 pol_187
@[simp] theorem call_188 : callD (cxT pp) d 188 args h key = callK (cxT pp) 188 h (frzLD h args) := call_cl prim_188 pol_188
@[simp] theorem call_189 : callD (cxT pp) d 189 args h key = callK (cxT pp) 189 h (frzLD h args) := call_cl prim_189 pol_189
@[simp] theorem call_190 : callD (cxT pp) d 190 args h key = callK (cxT pp) 190 h (frzLD h args) := call_cl prim_190 pol_190
@[simp] theorem call_193 : callD (cxT pp) d 193 args h key = byR (cxT pp) d fn193 h (frzFD h args) := call_byf fns_193 prim_193 pol_193
@[simp] theorem call_195 : callD (cxT pp) d 195 args h key = callK (cxT pp) 195 h (frzLD h args) := call_cl prim_195 pol_195
@[simp] theorem call_196 : callD (cxT pp) d 196 args h key = callK (cxT pp) 196 h (frzLD h args) := call_cl prim_196 pol_196
@[simp] theorem call_197 : callD (cxT pp) d 197 args h key = callK (cxT pp) 197 h (frzLD h args) := call_cl prim_197 pol_197
@[simp] theorem call_198 : callD (cxT pp) d 198 args h key = callK (cxT pp) 198 h (frzLD h args) := call_cl prim_198 pol_198
@[simp] theorem call_199 : callD (cxT pp) d 199 args h key = callK (cxT pp) 199 h (frzLD h args) := call_cl prim_199 pol_199
@[simp] theorem call_201 : callD (cxT pp) d 201 args h key = byR (cxT pp) d fn201 h (frzFD h args) := call_byf fns_201 prim_201 pol_201
@[simp] theorem call_202 : callD (cxT pp) d 202 args h key = callK (cxT pp) 202 h (frzLD h args) := call_cl prim_202 pol_202
@[simp] theorem call_203 : callD (cxT pp) d 203 args h key = callK (cxT pp) 203 h (frzLD h args) := call_cl prim_203 pol_203
@[simp] theorem call_204 : callD (cxT pp) d 204 args h key = callK (cxT pp) 204 h (frzLD h args) := call_cl prim_204 pol_204
@[simp] theorem call_205 : callD (cxT pp) d 205 args h key = callK (cxT pp) 205 h (frzLD h args) := call_cl prim_205 pol_205
@[simp] theorem call_207 : callD (cxT pp) d 207 args h key = callK (cxT pp) 207 h (frzLD h args) := call_cl prim_207 pol_207
@[simp] theorem call_214 : callD (cxT pp) d 214 args h key = callK (cxT pp) 214 h (frzLD h args) := call_cl prim_214 pol_214
@[simp] theorem call_215 : callD (cxT pp) d 215 args h key = callK (cxT pp) 215 h (frzLD h args) := call_cl prim_215 pol_215
@[simp] theorem call_216 : callD (cxT pp) d 216 args h key = callK (cxT pp) 216 h (frzLD h args) := call_cl prim_216 pol_216
@[simp] theorem call_217 : callD (cxT pp) d 217 args h key = byR (cxT pp) d fn217 h (frzFD h args) := call_byf fns_217 prim_217 pol_217
@[simp] theorem call_221 : callD (cxT pp) d 221 args h key = callK (cxT pp) 221 h (frzLD h args) := call_cl prim_221 pol_221
@[simp] theorem call_222 : callD (cxT pp) d 222 args h key = callK (cxT pp) 222 h (frzLD h args) := call_cl prim_222 pol_222
@[simp] theorem call_223 : callD (cxT pp) d 223 args h key = callK (cxT pp) 223 h (frzLD h args) := call_cl prim_223 pol_223
@[simp] theorem call_224 : callD (cxT pp) d 224 args h key = callK (cxT pp) 224 h (frzLD h args) := call_cl prim_224 pol_224
@[simp] theorem call_226 : callD (cxT pp) d 226 args h key = callK (cxT pp) 226 h (frzLD h args) := call_cl prim_226 pol_226
@[simp] theorem call_227 : callD (cxT pp) d 227 args h key = callK (cxT pp) 227 h (frzLD h args) := call_cl prim_227 pol_227
@[simp] theorem call_228 : callD (cxT pp) d 228 args h key = callK (cxT pp) 228 h (frzLD h args) := call_cl prim_228 pol_228
@[simp] theorem call_229 : callD (cxT pp) d 229 args h key = callK (cxT pp) 229 h (frzLD h args) := call_cl prim_229 pol_229
@[simp] theorem call_232 : callD (cxT pp) d 232 args h key = callK (cxT pp) 232 h (frzLD h args) := call_cl prim_232 pol_232
@[simp] theorem call_235 : callD (cxT pp) d 235 args h key = callK (cxT pp) 235 h (frzLD h args) := call_cl prim_235 pol_235
@[simp] theorem call_236 : callD (cxT pp) d 236 args h key = byR (cxT pp) d fn236 h (frzFD h args) := call_byf fns_236 prim_236 pol_236
@[simp] theorem call_237 : callD (cxT pp) d 237 args h key = callK (cxT pp) 237 h (frzLD h args) := call_cl prim_237 pol_237
@[simp] theorem call_246 : callD (cxT pp) d 246 args h key = callK (cxT pp) 246 h (frzLD h args) := call_cl prim_246 pol_246
@[simp] theorem call_251 : callD (cxT pp) d 251 args h key = byR (cxT pp) d fn251 h (frzFD h args) := call_byf fns_251 prim_251 pol_251
@[simp] theorem call_252 : callD (cxT pp) d 252 args h key = callK (cxT pp) 252 h (frzLD h args) := call_cl prim_252 pol_252
@[simp] theorem call_259 : callD (cxT pp) d 259 args h key = specClone 1 d args h key := callD_prim prim_259
@[simp] theorem call_269 : callD (cxT pp) d 269 args h key = byR (cxT pp) d fn269 h (frzFD h args) := call_byf fns_269 prim_269 pol_269
@[simp] theorem call_270 : callD (cxT pp) d 270 args h key = callK (cxT pp) 270 h (frzLD h args) := call_cl prim_270 pol_270
@[simp] theorem call_271 : callD (cxT pp) d 271 args h key = callK (cxT pp) 271 h (frzLD h args) := call_cl prim_271 pol_271
@[simp] theorem call_272 : callD (cxT pp) d 272 args h key = callK (cxT pp) 272 h (frzLD h args) := call_cl prim_272 pol_272
@[simp] theorem call_273 : callD (cxT pp) d 273 args h key = callK (cxT pp) 273 h (frzLD h args) := call_cl prim_273 pol_273
@[simp] theorem call_274 : callD (cxT pp) d 274 args h key = callK (cxT pp) 274 h (frzLD h args) := call_cl prim_274 pol_274
@[simp] theorem call_275 : callD (cxT pp) d 275 args h key = callK (cxT pp) 275 h (frzLD h args) := call_cl prim_275 pol_275
@[simp] theorem call_276 : callD (cxT pp) d 276 args h key = callK (cxT pp) 276 h (frzLD h args) := call_cl prim_276 pol_276
@[simp] theorem call_277 : callD (cxT pp) d 277 args h key = callK (cxT pp) 277 h (frzLD h args) := call_cl prim_277 pol_277
@[simp] theorem call_278 : callD (cxT pp) d 278 args h key = callK (cxT pp) 278 h (frzLD h args) := call_cl prim_278 pol_278
end Go.Va
end
section
open Go.Proofs
namespace Go.Va
variable {pp : Option PrimFn}

attribute [simp] List.take_of_length_le
@[simp] theorem drop_past {α : Type} {A B : List α} {x : α} {n : Nat} (h : A.length = n) : (A ++ x :: B).drop (n + 1) = B := by
  subst h
  rw [show A.length + 1 = A.length + 1 from rfl, ← List.drop_drop, List.drop_left]; rfl
/-- A fold that sees the places. -/
def foldI {α A : Type} (g : Nat → A → α → A) : List α → Nat → A → A
  | [], _, a => a
  | x :: xs, i, a => foldI g xs (i + 1) (g i a x)
theorem loop_foldI {cx : Cx} {d : Nat} {c : ACode} {α A : Type} (l : List α) (g : Nat → A → α → A) (Inv : Nat → A → St → Prop) (e : AExit) (he : e ≠ .norm)
    (step : ∀ (i : Nat) (a : A) (s : St) (x : α) (rest : List α), i < l.length → l[i]? = some x → l.drop i = x :: rest → Inv i a s → ∃ r, codeD cx d c s = some r ∧ r.1 = .norm ∧ Inv (i + 1) (g i a x) r.2)
    (last : ∀ (a : A) (s : St), Inv l.length a s → ∃ r, codeD cx d c s = some r ∧ r.1 = e ∧ Inv l.length a r.2) (a : A) (s : St) (h : Inv 0 a s) :
    ∃ r, codeD cx d (.loop c) s = some r ∧ r.1 = e ∧ Inv l.length (foldI g l 0 a) r.2 := by
  have key : ∀ (l : List α) (i : Nat) (a : A), runL (R := Empty) (fun i a x => .inl (g i a x)) l i a = .inl (foldI g l i a) := by
    intro l; induction l with
    | nil => intro i a; rfl
    | cons x l ih => intro i a; simp [runL, foldI, ih]
  have := loop_run (R := Empty) l (fun i a x => .inl (g i a x)) Inv (fun _ _ => False) e he (fun i a s x rest h1 h2 h3 h4 => step i a s x rest h1 h2 h3 h4) last a s h
  rw [key] at this
  exact this
theorem i64_id {n : Int} (h0 : -9223372036854775808 ≤ n) (h1 : n ≤ 9223372036854775807) : IntKind.i64.wrap n = n := by
  simp [IntKind.wrap, IntKind.bits, IntKind.signed]; omega
theorem inc_id {i n : Nat} (h : i < n) (hn : n < 2 ^ 63) : IntKind.i64.wrap ((i : Int) + 1) = (i + 1 : Nat) := by
  simp [IntKind.wrap, IntKind.bits, IntKind.signed]; omega
theorem roomy_ok {n b : Nat} (h : n < 2 ^ 35) (hb : b ≤ 1024) : roomy n b = true := by
  simp only [roomy, Bool.and_eq_true, decide_eq_true_eq]
  have : n * b ≤ 2 ^ 35 * 1024 := Nat.mul_le_mul (by omega) hb
  omega
/-- A row of the table that a slot holds. -/
def Row (s : St) (t : Nat) (k : Key) (sz n : Nat) (cs : List PV) : Prop := ∃ v, s.env t = .ref k v 0 n sz false ∧ s.h.get k = ⟨v, false, some (.cells (cs.map .p))⟩
theorem frz_row {h : Hp} {k : Key} {v n s : Nat} {ro c : Bool} {cs : List PV} (hg : h.get k = ⟨v, ro, some (.cells (cs.map .p))⟩) (hn : cs.length = n * s) : frzD h (.ref k v 0 n s c) = some (.frz .any n cs, [k]) := by
  rw [frzD_ref]
  have e : (cs.map AV.p).take (n * s) = cs.map .p := List.take_of_length_le (by simp [hn])
  simp [hg, hn, e]

/-- The index of an equation with this Id, or -1. -/
def find (l : List Eqn) (id : Int) : Int := (findL (fun i (x : Eqn) => if x.id = id then some (i : Int) else none) l 0).getD (-1)

theorem find_spec (l : List Eqn) (hl : l.length < 2 ^ 30) (id : Int) : funD (cxT pp) 72 [sl cEqn l, .int .i64 id] = some (.int .i64 (find l id)) := by
  have loop := loop_find (cx := cxT pp) (d := 0) (c := c72_0) l (fun i (x : Eqn) => if x.id = id then some (i : Int) else none)
    (fun i s => s.h = Hp.none ∧ s.env 0 = .p (sl cEqn l) ∧ s.env 1 = .p (.int .i64 id) ∧ s.env 5 = .p (.int .i64 i))
    (fun z a => a.1 = .ret ∧ a.2.h = Hp.none ∧ a.2.env 4 = .p (.int .i64 z)) (.ex 0) (by simp)
    (by
      rintro i ⟨env, h⟩ x rest hi hx hd ⟨rfl, h0, h1, h5⟩
      simp only at h0 h1 h5
      have hw := inc_id hi (by omega)
      by_cases hid : x.id = id
      · simp [c72_0, h0, h1, h5, hi, hd, cEqn, hid]
      · simp [c72_0, h0, h1, h5, hi, hd, cEqn, hid, hw])
    (by
      rintro ⟨env, h⟩ ⟨rfl, h0, h1, h5⟩
      simp only at h0 h1 h5
      simp [c72_0, h0, h1, h5])
  rw [fun_72]
  unfold closedD bodyD find
  simp [fn72]
  generalize hx : codeD (cxT pp) 0 (ACode.loop c72_0) _ = X
  obtain ⟨e, env, h, rfl, q⟩ := at_code hx (loop _ (by simp))
  simp only at q
  revert q
  cases findL (fun i (x : Eqn) => if x.id = id then some (i : Int) else none) l 0 with
  | none => simp +contextual
  | some z => simp +contextual

/-- The list without an equation. -/
def drop (l : List Eqn) (id : Int) : List Eqn := l.filter fun x => !decide (x.id = id)
theorem drop_fold (id : Int) : ∀ (l : List Eqn) (out : List Eqn), l.foldl (fun out x => if x.id = id then out else out ++ [x]) out = out ++ drop l id
  | [], _ => by simp [drop]
  | x :: l, out => by
    simp only [List.foldl_cons, drop_fold id l]
    by_cases h : x.id = id <;> simp [h, drop]

theorem drop_spec (l : List Eqn) (hl : l.length < 2 ^ 30) (id : Int) : funD (cxT pp) 138 [sl cEqn l, .int .i64 id] = some (sl cEqn (drop l id)) := by
  have loop := loop_fold (cx := cxT pp) (d := 0) (c := c138_0) l (fun out x => if x.id = id then out else out ++ [x])
    (fun i (out : List Eqn) s => out.length ≤ i ∧ Row s 5 ⟨0, 7⟩ 2 out.length (out.flatMap cEqn) ∧ s.env 0 = .p (sl cEqn l) ∧ s.env 1 = .p (.int .i64 id) ∧ s.env 6 = .p (.int .i64 i)) (.ex 0) (by simp)
    (by
      rintro i out ⟨env, h⟩ x rest hi hx hd ⟨hle, ⟨v, h5, hh⟩, h0, h1, h6⟩
      simp only at h0 h1 h5 h6 hh
      have hw := inc_id hi (by omega)
      have hr := @roomy_ok (out.length + 1) 32 (by omega) (by decide)
      by_cases hid : x.id = id
      · simp [-Prod.exists, c138_0, h0, h1, h5, h6, hh, hi, hd, cEqn, hid, hw, Row]
        omega
      · simp [-Prod.exists, c138_0, h0, h1, h5, h6, hh, hi, hd, cEqn, hid, hw, hr, Row, hle])
    (by
      rintro out ⟨env, h⟩ ⟨hle, ⟨v, h5, hh⟩, h0, h1, h6⟩
      simp only at h0 h1 h5 h6 hh
      simp [-Prod.exists, c138_0, h0, h1, h5, h6, hh, Row, hle])
  rw [fun_138]
  unfold closedD bodyD
  simp [fn138]
  generalize hx : codeD (cxT pp) 0 (ACode.loop c138_0) _ = X
  obtain ⟨e, env, h, rfl, q⟩ := at_code hx (loop [] _ (by simp [Row]))
  simp only at q
  obtain ⟨rfl, -, ⟨v, q2, q3⟩, -⟩ := q
  rw [drop_fold] at q2 q3
  simp only [List.nil_append] at q2 q3
  simp [q2, frz_row q3]
end Go.Va
end
section
open Go.Proofs
namespace Go.Va
variable {pp : Option PrimFn}

@[simp high] theorem pints_drop (l : List Int) (i : Nat) : ((ints l).map AV.p).drop i = (ints (l.drop i)).map AV.p := by simp [ints, List.map_drop]
@[simp high] theorem pints_take (l : List Int) (i : Nat) : ((ints l).map AV.p).take i = (ints (l.take i)).map AV.p := by simp [ints, List.map_take]

/-! ### Cmp -/
def cmpL : List (Int × Int) → Int
  | [] => 0
  | (x, y) :: l => if x < y then -1 else if y < x then 1 else cmpL l
/-- Lexicographic comparison. -/
def mcmp (a b : Mono) : Int := cmpL (a.l.zip b.l)
theorem cmpL_find : ∀ (l : List (Int × Int)) (i : Nat), (findL (fun _ (x : Int × Int) => if x.1 < x.2 then some (-1 : Int) else if x.2 < x.1 then some 1 else none) l i).getD 0 = cmpL l
  | [], _ => rfl
  | (x, y) :: l, i => by
    unfold findL cmpL
    by_cases h1 : x < y
    · simp [h1]
    · by_cases h2 : y < x
      · simp [h1, h2]
      · simp [h1, h2, cmpL_find l]

theorem zip_drop' {α β : Type} : ∀ {a : List α} {b : List β} {i : Nat} {x : α} {y : β} {r : List (α × β)}, (a.zip b).drop i = (x, y) :: r → ∃ ra rb, a.drop i = x :: ra ∧ b.drop i = y :: rb
  | [], _, i, _, _, _, h => by simp at h
  | _ :: _, [], i, _, _, _, h => by simp at h
  | u :: a, v :: b, 0, x, y, r, h => by
    simp at h
    obtain ⟨⟨rfl, rfl⟩, -⟩ := h
    exact ⟨a, b, rfl, rfl⟩
  | u :: a, v :: b, i + 1, x, y, r, h => zip_drop' (a := a) (b := b) (i := i) (by simpa using h)

theorem r4cmp_spec (a b : Mono) : funD (cxT pp) 152 [.agg (ints a.l), .agg (ints b.l)] = some (.int .i64 (mcmp a b)) := by
  have hz : (a.l.zip b.l).length = 8 := by simp
  have loop := loop_find (cx := cxT pp) (d := 0) (c := c152_0) (a.l.zip b.l) (fun _ (x : Int × Int) => if x.1 < x.2 then some (-1 : Int) else if x.2 < x.1 then some 1 else none)
    (fun i s => s.h.get ⟨0, 2⟩ = ⟨1, false, some (.cells ((ints a.l).map .p))⟩ ∧ s.h.get ⟨0, 3⟩ = ⟨1, false, some (.cells ((ints b.l).map .p))⟩ ∧ s.env 2 = .ptr ⟨0, 2⟩ 1 0 ∧ s.env 3 = .ptr ⟨0, 3⟩ 1 0 ∧ s.env 5 = .p (.int .i64 i))
    (fun z a => a.1 = .ret ∧ a.2.env 4 = .p (.int .i64 z)) (.ex 0) (by simp)
    (by
      rintro i ⟨env, h⟩ ⟨x, y⟩ rest hi hx hd ⟨g2, g3, h2, h3, h5⟩
      simp only at g2 g3 h2 h3 h5
      rw [hz] at hi
      have hw := inc_id hi (by omega)
      have hi' : (i : Int) < 8 := by omega
      have hi1 : i + 1 ≤ 8 := by omega
      obtain ⟨ra, rb, da, db⟩ := zip_drop' hd
      by_cases c1 : x < y
      · simp [c152_0, g2, g3, h2, h3, h5, hi, hi', hi1, da, db, c1]
      · by_cases c2 : y < x
        · simp [c152_0, g2, g3, h2, h3, h5, hi, hi', hi1, da, db, c1, c2]
        · simp [c152_0, g2, g3, h2, h3, h5, hi, hi', hi1, da, db, c1, c2, hw])
    (by
      rintro ⟨env, h⟩ ⟨g2, g3, h2, h3, h5⟩
      rw [hz] at h5
      simp only at g2 g3 h2 h3 h5
      simp [c152_0, g2, g3, h2, h3, h5])
  rw [fun_152]
  unfold closedD bodyD mcmp
  simp [fn152]
  generalize hx : codeD (cxT pp) 0 (ACode.loop c152_0) _ = X
  obtain ⟨e, env, h, rfl, q⟩ := at_code hx (loop _ (by simp))
  simp only at q
  have hc := cmpL_find (a.l.zip b.l) 0
  revert q hc
  cases findL (fun _ (x : Int × Int) => if x.1 < x.2 then some (-1 : Int) else if x.2 < x.1 then some 1 else none) (a.l.zip b.l) 0 with
  | none => simp +contextual
  | some z => simp +contextual

/-! ### Valid -/
def evalid (e : Int) : Bool := decide (0 ≤ e) && decide (e ≤ 65535)
def mvalid (a : Mono) : Bool := a.l.all evalid
theorem all_find (p : Int → Bool) : ∀ (l : List Int) (i : Nat), (findL (fun _ x => if p x then none else some ()) l i).isNone = l.all p
  | [], _ => rfl
  | x :: l, i => by
    unfold findL
    cases h : p x <;> simp [h, all_find p l]
theorem r4valid_spec (a : Mono) : funD (cxT pp) 204 [.agg (ints a.l)] = some (.bool (mvalid a)) := by
  have hz := a.h
  have loop := loop_find (cx := cxT pp) (d := 0) (c := c204_0) a.l (fun _ x => if evalid x then none else some ())
    (fun i s => s.h.get ⟨0, 1⟩ = ⟨1, false, some (.cells ((ints a.l).map .p))⟩ ∧ s.env 1 = .ptr ⟨0, 1⟩ 1 0 ∧ s.env 3 = .p (.int .i64 i))
    (fun z a => a.1 = .ret ∧ a.2.env 2 = .p (.bool false)) (.ex 0) (by simp)
    (by
      rintro i ⟨env, h⟩ x rest hi hx hd ⟨g1, h1, h3⟩
      simp only at g1 h1 h3
      rw [hz] at hi
      have hw := inc_id hi (by omega)
      have hi' : (i : Int) < 8 := by omega
      have hi1 : i + 1 ≤ 8 := by omega
      by_cases c1 : x < 0
      · simp [c204_0, g1, h1, h3, hi, hi', hi1, hd, c1, evalid, show ¬ 0 ≤ x by omega]
      · by_cases c2 : 65535 < x
        · simp [c204_0, g1, h1, h3, hi, hi', hi1, hd, c1, c2, evalid, show ¬ x ≤ 65535 by omega]
        · simp [c204_0, g1, h1, h3, hi, hi', hi1, hd, c1, c2, evalid, hw, show 0 ≤ x by omega, show x ≤ 65535 by omega])
    (by
      rintro ⟨env, h⟩ ⟨g1, h1, h3⟩
      rw [hz] at h3
      simp only at g1 h1 h3
      simp [c204_0, g1, h1, h3])
  rw [fun_204]
  unfold closedD bodyD mvalid
  simp [fn204]
  generalize hx : codeD (cxT pp) 0 (ACode.loop c204_0) _ = X
  obtain ⟨e, env, h, rfl, q⟩ := at_code hx (loop _ (by simp))
  simp only at q
  have hc := all_find evalid a.l 0
  revert q hc
  cases findL (fun _ x => if evalid x then none else some ()) a.l 0 with
  | none => simp +contextual
  | some z => simp +contextual

/-! ### Degree -/
def mdeg (a : Mono) : Int := a.l.sum
theorem r4deg_spec (a : Mono) (ha : mvalid a = true) : funD (cxT pp) 205 [.agg (ints a.l)] = some (.int .i64 (mdeg a)) := by
  have hz := a.h
  have hv : ∀ x ∈ a.l, 0 ≤ x ∧ x ≤ 65535 := by
    intro x hx
    have := List.all_eq_true.1 ha x hx
    simpa [evalid] using this
  have loop := loop_fold (cx := cxT pp) (d := 0) (c := c205_0) a.l (fun (n : Int) x => n + x)
    (fun i n s => (0 ≤ n ∧ n ≤ 65535 * i) ∧ s.h.get ⟨0, 1⟩ = ⟨1, false, some (.cells ((ints a.l).map .p))⟩ ∧ s.env 1 = .ptr ⟨0, 1⟩ 1 0 ∧ s.env 3 = .p (.int .i64 n) ∧ s.env 4 = .p (.int .i64 i)) (.ex 0) (by simp)
    (by
      rintro i n ⟨env, h⟩ x rest hi hx hd ⟨hn, g1, h1, h3, h4⟩
      simp only at g1 h1 h3 h4
      have hxv := hv x (List.mem_of_getElem? hx)
      rw [hz] at hi
      have hw := inc_id hi (by omega)
      have hi' : (i : Int) < 8 := by omega
      have hi1 : i + 1 ≤ 8 := by omega
      have hs : IntKind.i64.wrap (n + x) = n + x := by rw [i64_id] <;> omega
      simp [c205_0, g1, h1, h3, h4, hi, hi', hi1, hd, hw, hs]
      omega)
    (by
      rintro n ⟨env, h⟩ ⟨hn, g1, h1, h3, h4⟩
      rw [hz] at h4 hn
      simp only at g1 h1 h3 h4
      simp [c205_0, g1, h1, h3, h4, hn, hz]
      omega)
  rw [fun_205]
  unfold closedD bodyD mdeg
  simp [fn205]
  generalize hx : codeD (cxT pp) 0 (ACode.loop c205_0) _ = X
  obtain ⟨e, env, h, rfl, q⟩ := at_code hx (loop 0 _ (by simp))
  simp only at q
  obtain ⟨rfl, -, -, -, q3, -⟩ := q
  have e : ∀ (l : List Int) (n : Int), l.foldl (fun n x => n + x) n = n + l.sum := by
    intro l; induction l with
    | nil => simp
    | cons x l ih => intro n; simp [ih, Int.add_assoc]
  rw [e] at q3
  simp [q3]

/-! ### Support -/
def supF : List Int → Nat → Nat
  | [], _ => 0
  | x :: l, i => (if 0 < x then 2 ^ i else 0) + supF l (i + 1)
/-- The variables that occur, as bits. -/
def msup (a : Mono) : Nat := supF a.l 0
theorem supF_fold : ∀ (l : List Int) (i : Nat) (n : Nat), foldI (fun i (n : Nat) (x : Int) => if 0 < x then n + 2 ^ i else n) l i n = n + supF l i
  | [], _, _ => by simp [foldI, supF]
  | x :: l, i, n => by
    simp only [foldI, supF, supF_fold l]
    split <;> omega
theorem u8_id {n : Int} (h0 : 0 ≤ n) (h1 : n < 256) : IntKind.u8.wrap n = n := by
  simp [IntKind.wrap, IntKind.bits, IntKind.signed]; omega
theorem r4sup_spec (a : Mono) : funD (cxT pp) 202 [.agg (ints a.l)] = some (.int .u8 (msup a : Nat)) := by
  have hz := a.h
  have loop := loop_foldI (cx := cxT pp) (d := 0) (c := c202_0) a.l (fun i (n : Nat) (x : Int) => if 0 < x then n + 2 ^ i else n)
    (fun i n s => n < 2 ^ i ∧ s.h.get ⟨0, 1⟩ = ⟨1, false, some (.cells ((ints a.l).map .p))⟩ ∧ s.env 1 = .ptr ⟨0, 1⟩ 1 0 ∧ s.env 3 = .p (.int .u8 (n : Nat)) ∧ s.env 4 = .p (.int .i64 i)) (.ex 0) (by simp)
    (by
      rintro i n ⟨env, h⟩ x rest hi hx hd ⟨hn, g1, h1, h3, h4⟩
      simp only at g1 h1 h3 h4
      rw [hz] at hi
      have hw := inc_id hi (by omega)
      have hi' : (i : Int) < 8 := by omega
      have hi1 : i + 1 ≤ 8 := by omega
      have hb := bit_spec (pp := pp) i hi
      have hp : (2 : Nat) ^ (i + 1) = 2 ^ i + 2 ^ i := by rw [Nat.pow_succ]; omega
      have h8 : (2 : Nat) ^ (i + 1) ≤ 2 ^ 8 := Nat.pow_le_pow_right (by decide) hi1
      have hs : IntKind.u8.wrap ((n : Int) + (2 ^ i : Nat)) = ((n + 2 ^ i : Nat) : Int) := by rw [u8_id] <;> omega
      by_cases c1 : 0 < x
      · simp [-Int.natCast_pow, c202_0, g1, h1, h3, h4, hi, hi', hi1, hd, c1, hw, hb, hs]
        omega
      · simp [c202_0, g1, h1, h3, h4, hi, hi', hi1, hd, c1, hw]
        omega)
    (by
      rintro n ⟨env, h⟩ ⟨hn, g1, h1, h3, h4⟩
      rw [hz] at h4 hn
      simp only at g1 h1 h3 h4
      simp [c202_0, g1, h1, h3, h4, hz]
      omega)
  rw [fun_202]
  unfold closedD bodyD msup
  simp [fn202]
  generalize hx : codeD (cxT pp) 0 (ACode.loop c202_0) _ = X
  obtain ⟨e, env, h, rfl, q⟩ := at_code hx (loop 0 _ (by simp))
  simp only at q
  obtain ⟨rfl, -, -, -, q3, -⟩ := q
  rw [supF_fold] at q3
  simp [q3]

/-! ### Mul, of 1 and a monomial -/
def mono1 : Mono := ⟨[0, 0, 0, 0, 0, 0, 0, 0], rfl⟩
theorem r4mul_spec (a : Mono) (ha : mvalid a = true) : funD (cxT pp) 189 [.agg (ints mono1.l), .agg (ints a.l)] = some (.tup [.agg (ints a.l), .int .i64 0]) := by
  have hz := a.h
  have hv : ∀ x ∈ a.l, 0 ≤ x ∧ x ≤ 65535 := by
    intro x hx
    have := List.all_eq_true.1 ha x hx
    simpa [evalid] using this
  have loop := loop_fold (cx := cxT pp) (d := 0) (c := c189_0) a.l (fun (acc : List Int) x => acc ++ [x])
    (fun i acc s => acc.length = i ∧ s.h.get ⟨0, 2⟩ = ⟨1, false, some (.cells ((ints (acc ++ List.replicate (8 - i) 0)).map .p))⟩ ∧ s.h.get ⟨0, 3⟩ = ⟨1, false, some (.cells ((ints a.l).map .p))⟩ ∧ s.h.get ⟨0, 4⟩ = ⟨1, false, some (.cells ((ints mono1.l).map .p))⟩ ∧
      s.env 2 = .ptr ⟨0, 2⟩ 1 0 ∧ s.env 3 = .ptr ⟨0, 3⟩ 1 0 ∧ s.env 4 = .ptr ⟨0, 4⟩ 1 0 ∧ s.env 6 = .p (.int .i64 i)) (.ex 0) (by simp)
    (by
      rintro i acc ⟨env, h⟩ x rest hi hx hd ⟨rfl, g2, g3, g4, h2, h3, h4, h6⟩
      simp only at g2 g3 g4 h2 h3 h4 h6
      have hxv := hv x (List.mem_of_getElem? hx)
      rw [hz] at hi
      have hw := inc_id hi (by omega)
      have hi' : (acc.length : Int) < 8 := by omega
      have hi1 : acc.length + 1 ≤ 8 := by omega
      have hs : IntKind.i64.wrap x = x := by rw [i64_id] <;> omega
      obtain ⟨k, hk⟩ : ∃ k, 8 - acc.length = k + 1 := ⟨8 - acc.length - 1, by omega⟩
      have hk2 : 8 - (acc.length + 1) = k := by omega
      simp [-Prod.exists, c189_0, g2, g3, g4, h2, h3, h4, h6, hi, hi', hi1, hd, hw, hs, hk, hk2, List.replicate_succ])
    (by
      rintro acc ⟨env, h⟩ ⟨hl, g2, g3, g4, h2, h3, h4, h6⟩
      rw [hz] at h6 hl g2
      simp only at g2 g3 g4 h2 h3 h4 h6
      simp [c189_0, g2, g3, g4, h2, h3, h4, h6, hz, hl])
  rw [fun_189]
  unfold closedD bodyD
  simp [fn189, mono1]
  generalize hx : codeD (cxT pp) 0 (ACode.loop c189_0) _ = X
  obtain ⟨e, env, h, rfl, q⟩ := at_code hx (loop [] _ (by simp [mono1]))
  simp only at q
  obtain ⟨rfl, -, q2, q3, q4, q5, q6, q7, -⟩ := q
  have e : ∀ (l acc : List Int), l.foldl (fun acc x => acc ++ [x]) acc = acc ++ l := by
    intro l; induction l with
    | nil => simp
    | cons x l ih => intro acc; simp [ih]
  rw [e] at q2
  have hvs := r4valid_spec (pp := pp) a
  rw [ha] at hvs
  simp [hz] at q2
  simp [q2, q3, q4, q5, q6, q7, hvs, mono1]
end Go.Va
end
section
open Go.Proofs
namespace Go.Va
variable {pp : Option PrimFn}

/-- All coefficients are small. -/
def Sm (n : Nat) (p : Poly) : Prop := ∀ t ∈ p, t.c.natAbs ≤ n
theorem mem_drop {α : Type} {l : List α} {i : Nat} {x : α} {r : List α} (h : l.drop i = x :: r) : x ∈ l := List.mem_of_mem_drop (i := i) (by rw [h]; exact List.mem_cons_self ..)
/-! ### SameTerm, Same -/
theorem eqInts_ints : ∀ (a b : List Int), a.length = b.length → eqInts (ints a) (ints b) = some (decide (a = b))
  | [], [], _ => rfl
  | x :: a, y :: b, h => by
    have ih := eqInts_ints a b (by simpa using h)
    by_cases hxy : x = y
    · simp [ih, hxy]
    · simp [hxy]
@[simp] theorem eqInts_mono (a b : Mono) : eqInts (ints a.l) (ints b.l) = some (decide (a = b)) := by
  rw [eqInts_ints _ _ (by simp)]
  congr 1
  by_cases h : a = b
  · simp [h]
  · have : ¬ a.l = b.l := fun e => h (Mono.ext e)
    simp [h, this]
@[simp] theorem allInts_ints : ∀ (a : List Int), allInts (ints a) = true
  | [] => rfl
  | x :: a => by simp [allInts_ints a]

theorem r6sameterm_spec (a b : Term) (ha : a.c.natAbs ≤ 12) (hb : b.c.natAbs ≤ 12) : funD (cxT pp) 80 [.agg (cTerm a), .agg (cTerm b)] = some (.bool (decide (a = b))) := by
  have hs := r2same (pp := pp) a.c b.c ha hb
  rw [fun_80]
  unfold closedD bodyD
  by_cases hm : a.m = b.m
  · by_cases hc : a.c = b.c
    · have : a = b := by cases a; cases b; simp_all
      subst this
      simp [fn80, cTerm, hs]
    · have : ¬ a = b := fun e => hc (by rw [e])
      simp [fn80, cTerm, hs, this, hm, hc]
  · have : ¬ a = b := fun e => hm (by rw [e])
    simp [fn80, cTerm, hs, this, hm]

theorem r6same_spec (p q : Poly) (hp : Sm 12 p) (hq : Sm 12 q) (hl : p.length < 2 ^ 30) : funD (cxT pp) 34 [poly p, poly q] = some (.bool (decide (p = q))) := by
  rw [fun_34]
  unfold closedD bodyD
  by_cases hlen : p.length = q.length
  · have loop := loop_find (cx := cxT pp) (d := 0) (c := c34_0) (p.zip q) (fun _ (x : Term × Term) => if x.1 = x.2 then none else some ())
      (fun i s => s.h = Hp.none ∧ s.env 0 = .p (poly p) ∧ s.env 1 = .p (poly q) ∧ s.env 5 = .p (.int .i64 i))
      (fun z a => a.1 = .ret ∧ a.2.env 4 = .p (.bool false)) (.ex 0) (by simp)
      (by
        rintro i ⟨env, h⟩ ⟨x, y⟩ rest hi hx hd ⟨rfl, h0, h1, h5⟩
        simp only at h0 h1 h5
        simp [← hlen] at hi
        have hw := inc_id hi (by omega)
        obtain ⟨ra, rb, da, db⟩ := zip_drop' hd
        have hs := r6sameterm_spec (pp := pp) x y (hp x (mem_drop da)) (hq y (mem_drop db))
        have hi2 : i < q.length := by omega
        by_cases hxy : x = y
        · subst hxy
          simp [c34_0, h0, h1, h5, hi, hi2, da, db, hs, hw]
        · simp [c34_0, h0, h1, h5, hi, hi2, da, db, hs, hxy])
      (by
        rintro ⟨env, h⟩ ⟨rfl, h0, h1, h5⟩
        simp only at h0 h1 h5
        simp [← hlen] at h5
        simp [c34_0, h0, h1, h5, ← hlen])
    simp [fn34, hlen]
    generalize hx : codeD (cxT pp) 0 (ACode.loop c34_0) _ = X
    obtain ⟨e, env, h, rfl, q1⟩ := at_code hx (loop _ (by simp [hlen]))
    simp only at q1
    have key : ∀ (p q : Poly) (i : Nat), p.length = q.length → (findL (fun _ (x : Term × Term) => if x.1 = x.2 then none else some ()) (p.zip q) i).isNone = decide (p = q) := by
      intro p
      induction p with
      | nil => intro q i h; cases q <;> simp_all [findL]
      | cons a p ih =>
        intro q i h
        cases q with
        | nil => simp at h
        | cons b q =>
          have := ih q (i + 1) (by simpa using h)
          by_cases hab : a = b
          · simp [findL, hab, this]
          · simp [findL, hab]
    have hc := key p q 0 hlen
    revert q1 hc
    cases findL (fun _ (x : Term × Term) => if x.1 = x.2 then none else some ()) (p.zip q) 0 with
    | none => simp +contextual
    | some z => simp +contextual
  · have : ¬ p = q := fun e => hlen (by rw [e])
    have hl2 : ¬ ((p.length : Int) = q.length) := by omega
    simp [fn34, hl2, this]
end Go.Va
end
section
open Go.Proofs
namespace Go.Va
variable {pp : Option PrimFn}

/-! ### Valid -/
def tok (o : Option Mono) (t : Term) : Bool := !decide (t.c = 0) && mvalid t.m && (match o with | none => true | some m => decide (0 < mcmp m t.m))
def pvF : Option Mono → Poly → Bool
  | _, [] => true
  | o, t :: p => tok o t && pvF (some t.m) p
/-- Is a polynomial canonical? -/
def pvalid (p : Poly) : Bool := pvF none p
theorem pvF_run : ∀ (p : Poly) (i : Nat) (o : Option Mono), (match runL (fun _ o t => if tok o t then .inl (some t.m) else .inr ()) p i o with | .inl _ => true | .inr _ => false) = pvF o p
  | [], _, _ => rfl
  | t :: p, i, o => by
    unfold runL pvF
    cases h : tok o t
    · simp
    · simp [pvF_run p]
theorem sgn0 {z : Int} : (sgn z = 0) = (z = 0) := by
  unfold sgn; apply propext; split <;> (try split) <;> simp <;> omega

/-- What is known of the term before. -/
def PrevP (p : Poly) (i : Nat) (o : Option Mono) : Prop := (i = 0 ∧ o = none) ∨ ∃ k t0 r0, i = k + 1 ∧ p.drop k = t0 :: r0 ∧ o = some t0.m
set_option maxHeartbeats 1000000 in
theorem r6valid_spec (p : Poly) (hp : Sm 12 p) (hl : p.length < 2 ^ 30) : funD (cxT pp) 177 [poly p] = some (.bool (pvalid p)) := by
  have loop := loop_run (cx := cxT pp) (d := 0) (c := c177_0) p (fun _ (o : Option Mono) t => if tok o t then .inl (some t.m) else .inr ())
    (fun i o s => (s.h = Hp.none ∧ s.env 0 = .p (poly p) ∧ s.env 3 = .p (.int .i64 i)) ∧ PrevP p i o)
    (fun _ a => a.1 = .ret ∧ a.2.env 2 = .p (.bool false)) (.ex 0) (by simp)
    (by
      rintro i o ⟨env, h⟩ x rest hi hx hd ⟨⟨rfl, h0, h3⟩, ho⟩
      simp only at h0 h3
      have hw := inc_id hi (by omega)
      have hc := hp x (mem_drop hd)
      have k1 := r2valid (pp := pp) x.c hc
      have k2 := r2sign (pp := pp) x.c hc
      have k3 := r4valid_spec (pp := pp) x.m
      by_cases c1 : x.c = 0
      · have e : sgn x.c = 0 := by simp [c1, sgn]
        have ht : tok o x = false := by simp [tok, c1]
        rw [e] at k2
        simp [c177_0, h0, h3, hi, hd, cTerm, k1, k2, k3, ht]
      · cases c2 : mvalid x.m
        · simp [c177_0, h0, h3, hi, hd, cTerm, k1, k2, k3, sgn0, c1, c2, tok]
        · rcases ho with ⟨hi0, rfl⟩ | ⟨k, t0, r0, hk, hd0, rfl⟩
          · have e0 : ¬ (0 < i) := by omega
            have ht : tok none x = true := by simp [tok, c1, c2]
            have ho' : PrevP p (i + 1) (some x.m) := .inr ⟨i, x, rest, rfl, hd, rfl⟩
            simp [c177_0, h0, h3, hi, hd, cTerm, k1, k2, k3, sgn0, c1, c2, ht, hw, e0, ho']
          · have k4 := r4cmp_spec (pp := pp) t0.m x.m
            have e1 : IntKind.i64.wrap ((i : Int) - 1) = (k : Int) := by rw [i64_id] <;> omega
            have e2 : 0 < i := by omega
            have e3 : k < p.length := by omega
            have ho' : PrevP p (i + 1) (some x.m) := .inr ⟨i, x, rest, rfl, hd, rfl⟩
            by_cases c3 : 0 < mcmp t0.m x.m
            · have c3' : ¬ mcmp t0.m x.m ≤ 0 := by omega
              have ht : tok (some t0.m) x = true := by simp [tok, c1, c2, c3]
              simp [c177_0, h0, h3, hi, hd, hd0, cTerm, k1, k2, k3, k4, sgn0, c1, c2, c3', ht, hw, e1, e2, e3, ho']
            · have c3' : mcmp t0.m x.m ≤ 0 := by omega
              have ht : tok (some t0.m) x = false := by simp [tok, c3]
              simp [c177_0, h0, h3, hi, hd, hd0, cTerm, k1, k2, k3, k4, sgn0, c1, c2, c3', ht, e1, e2, e3])
    (by
      rintro o ⟨env, h⟩ ⟨⟨rfl, h0, h3⟩, ho⟩
      simp only at h0 h3
      simp [c177_0, h0, h3, ho])
  rw [fun_177]
  unfold closedD bodyD pvalid
  simp [fn177]
  generalize hx : codeD (cxT pp) 0 (ACode.loop c177_0) _ = X
  obtain ⟨e, env, h, rfl, q⟩ := at_code hx (loop none _ (by simp [PrevP]))
  simp only at q
  have hc := pvF_run p 0 none
  revert q hc
  cases runL (fun _ (o : Option Mono) t => if tok o t then .inl (some t.m) else .inr ()) p 0 none with
  | inl o =>
    rintro ⟨rfl, ⟨q2, -, -⟩, -⟩ hc
    simp [← hc]
  | inr u =>
    rintro ⟨rfl, q2⟩ hc
    simp [q2, ← hc]

/-! ### Degree -/
def pdeg (p : Poly) : Int := p.foldl (fun d t => max d (mdeg t.m)) (-1)
theorem r6deg_spec (p : Poly) (hv : ∀ t ∈ p, mvalid t.m = true) (hl : p.length < 2 ^ 30) : funD (cxT pp) 178 [poly p] = some (.int .i64 (pdeg p)) := by
  have loop := loop_fold (cx := cxT pp) (d := 0) (c := c178_0) p (fun (d : Int) t => max d (mdeg t.m))
    (fun i d s => s.h = Hp.none ∧ s.env 0 = .p (poly p) ∧ s.env 3 = .p (.int .i64 d) ∧ s.env 4 = .p (.int .i64 i)) (.ex 0) (by simp)
    (by
      rintro i d ⟨env, h⟩ x rest hi hx hd ⟨rfl, h0, h3, h4⟩
      simp only at h0 h3 h4
      have hw := inc_id hi (by omega)
      have k1 := r4deg_spec (pp := pp) x.m (hv x (mem_drop hd))
      by_cases c : d < mdeg x.m
      · have c' : max d (mdeg x.m) = mdeg x.m := by omega
        simp [c178_0, h0, h3, h4, hi, hd, cTerm, k1, hw, c, c']
      · have c' : max d (mdeg x.m) = d := by omega
        simp [c178_0, h0, h3, h4, hi, hd, cTerm, k1, hw, c, c'])
    (by
      rintro d ⟨env, h⟩ ⟨rfl, h0, h3, h4⟩
      simp only at h0 h3 h4
      simp [c178_0, h0, h3, h4])
  rw [fun_178]
  unfold closedD bodyD pdeg
  simp [fn178]
  generalize hx : codeD (cxT pp) 0 (ACode.loop c178_0) _ = X
  obtain ⟨e, env, h, rfl, q⟩ := at_code hx (loop (-1) _ (by simp))
  simp only at q
  obtain ⟨rfl, q2, -, q3, -⟩ := q
  simp [q3]

/-! ### Uses -/
theorem supF_lt : ∀ (l : List Int) (i : Nat), supF l i + 2 ^ i ≤ 2 ^ (i + l.length)
  | [], i => by simp [supF]
  | x :: l, i => by
    have := supF_lt l (i + 1)
    have e : (2 : Nat) ^ (i + 1) = 2 ^ i + 2 ^ i := by rw [Nat.pow_succ]; omega
    rw [show i + 1 + l.length = i + (x :: l).length by simp; omega] at this
    unfold supF
    generalize (2 : Nat) ^ (i + (x :: l).length) = B at *
    generalize (2 : Nat) ^ i = C at *
    split <;> omega
theorem msup_lt (a : Mono) : msup a < 256 := by
  have := supF_lt a.l 0
  simp at this
  unfold msup; omega
theorem or8 {a b : Nat} (ha : a < 256) (hb : b < 256) : IntKind.u8.wrap ((BitVec.ofInt IntKind.u8.bits (a : Int) ||| BitVec.ofInt IntKind.u8.bits (b : Int)).toNat : Int) = ((a ||| b : Nat) : Int) := by
  have h : a ||| b < 2 ^ 8 := Nat.or_lt_two_pow ha hb
  have e : (BitVec.ofInt IntKind.u8.bits (a : Int) ||| BitVec.ofInt IntKind.u8.bits (b : Int)).toNat = a ||| b := by
    have ea : (BitVec.ofInt IntKind.u8.bits (a : Int)).toNat = a := by simp [IntKind.bits]; omega
    have eb : (BitVec.ofInt IntKind.u8.bits (b : Int)).toNat = b := by simp [IntKind.bits]; omega
    rw [BitVec.toNat_or, ea, eb]
  rw [e, u8_id] <;> omega
theorem bin_or8 {a b : Nat} (ha : a < 256) (hb : b < 256) : binPV .or (.int .u8 (a : Int)) (.int .u8 (b : Int)) = some (.int .u8 ((a ||| b : Nat) : Int)) := by
  have := or8 ha hb
  simp only [binPV, if_true, this]
/-- The variables that a polynomial uses, as bits. -/
def puse (p : Poly) : Nat := p.foldl (fun n t => n ||| msup t.m) 0
theorem r6use_spec (p : Poly) (hl : p.length < 2 ^ 30) : funD (cxT pp) 172 [poly p] = some (.int .u8 (puse p : Nat)) := by
  have loop := loop_fold (cx := cxT pp) (d := 0) (c := c172_0) p (fun (n : Nat) t => n ||| msup t.m)
    (fun i n s => n < 256 ∧ s.h = Hp.none ∧ s.env 0 = .p (poly p) ∧ s.env 3 = .p (.int .u8 (n : Nat)) ∧ s.env 4 = .p (.int .i64 i)) (.ex 0) (by simp)
    (by
      rintro i n ⟨env, h⟩ x rest hi hx hd ⟨hn, rfl, h0, h3, h4⟩
      simp only at h0 h3 h4
      have hw := inc_id hi (by omega)
      have k1 := r4sup_spec (pp := pp) x.m
      have ho := bin_or8 hn (msup_lt x.m)
      have hlt : n ||| msup x.m < 2 ^ 8 := Nat.or_lt_two_pow hn (msup_lt x.m)
      simp [c172_0, h0, h3, h4, hi, hd, cTerm, k1, hw, ho]
      exact hlt)
    (by
      rintro d ⟨env, h⟩ ⟨hn, rfl, h0, h3, h4⟩
      simp only at h0 h3 h4
      simp [c172_0, h0, h3, h4, hn])
  rw [fun_172]
  unfold closedD bodyD puse
  simp [fn172]
  generalize hx : codeD (cxT pp) 0 (ACode.loop c172_0) _ = X
  obtain ⟨e, env, h, rfl, q⟩ := at_code hx (loop 0 _ (by simp))
  simp only at q
  obtain ⟨rfl, -, q2, -, q3, -⟩ := q
  simp [q3]
end Go.Va
end
section
open Go.Proofs
namespace Go.Va
variable {pp : Option PrimFn}

@[simp] theorem cTerm_ints (m : Mono) : (ints m.l).length = 8 := by simp

/-- c times p, where p's coefficients are 1. -/
def scale1 (c : Int) (p : Poly) : Poly := if c = 0 then [] else p.map fun t => ⟨c, t.m⟩
set_option maxHeartbeats 1000000 in
theorem r6times_spec (c : Int) (hc : c.natAbs ≤ 3) (p : Poly) (hp : ∀ t ∈ p, t.c = 1 ∧ mvalid t.m = true) (hl : p.length < 2 ^ 30) :
    funD (cxT pp) 154 [.agg (cRat c), .agg (ints mono1.l), poly p] = some (.tup [poly (scale1 c p), .int .i64 0]) := by
  have hs := r2sign (pp := pp) c (by omega)
  rw [fun_154]
  unfold closedD bodyD
  by_cases h0 : c = 0
  · have e : sgn c = 0 := by simp [sgn, h0]
    rw [e] at hs
    have e2 : scale1 c p = [] := by simp [scale1, h0]
    simp [fn154, mono1, hs, e2]
  · have e : sgn c ≠ 0 := by unfold sgn; split <;> (try split) <;> omega
    have loop := loop_fold (cx := cxT pp) (d := 0) (c := c154_0) p (fun (out : Poly) t => out ++ [⟨c, t.m⟩])
      (fun i out s => out.length = i ∧ Row s 8 ⟨0, 12⟩ 12 out.length (out.flatMap cTerm) ∧ s.env 2 = .p (poly p) ∧ s.env 9 = .p (.int .i64 i) ∧ s.env 3 = .ptr ⟨0, 3⟩ 1 0 ∧ s.env 4 = .ptr ⟨0, 4⟩ 1 0 ∧
        s.h.get ⟨0, 3⟩ = ⟨1, false, some (.cells ((cRat c).map .p))⟩ ∧ s.h.get ⟨0, 4⟩ = ⟨1, false, some (.cells ((ints mono1.l).map .p))⟩) (.ex 0) (by simp)
      (by
        rintro i out ⟨env, h⟩ x rest hi hx hd ⟨rfl, ⟨v, h8, g8⟩, h2, h9, h3, h4, g3, g4⟩
        simp only at h8 g8 h2 h9 h3 h4 g3 g4
        obtain ⟨x1, x2⟩ := hp x (mem_drop hd)
        have hw := inc_id hi (by omega)
        have hr := @roomy_ok (out.length + 1) 128 (by omega) (by decide)
        have k1 := r4mul_spec (pp := pp) x.m x2
        have k2 := r2mul (pp := pp) c hc
        simp [mono1] at k1 g4
        simp [cRat] at k2
        simp [-Prod.exists, c154_0, h8, g8, h2, h9, h3, h4, g3, g4, hi, hd, hw, hr, cTerm, k1, k2, x1, Row, mono1])
      (by
        rintro out ⟨env, h⟩ ⟨hl, ⟨v, h8, g8⟩, h2, h9, h3, h4, g3, g4⟩
        simp only at h8 g8 h2 h9 h3 h4 g3 g4
        simp [-Prod.exists, c154_0, h8, g8, h2, h9, h3, h4, g3, g4, Row, hl])
    have e2 : scale1 c p = p.map fun t => ⟨c, t.m⟩ := by simp [scale1, h0]
    have ef : ∀ (l : Poly) (out : Poly), l.foldl (fun (out : Poly) t => out ++ [⟨c, t.m⟩]) out = out ++ l.map fun t => ⟨c, t.m⟩ := by
      intro l; induction l with
      | nil => simp
      | cons x l ih => intro out; simp [ih]
    simp [fn154, mono1, hs, e]
    generalize hx : codeD (cxT pp) 0 (ACode.loop c154_0) _ = X
    obtain ⟨e, env, h, rfl, q⟩ := at_code hx (loop [] _ (by simp [Row, mono1]))
    simp only at q
    obtain ⟨rfl, -, ⟨v, q2, q3⟩, -⟩ := q
    rw [ef] at q2 q3
    simp only [List.nil_append] at q2 q3
    simp [q2, frz_row q3, e2]

theorem r6scale_spec (c : Int) (hc : c.natAbs ≤ 3) (p : Poly) (hp : ∀ t ∈ p, t.c = 1 ∧ mvalid t.m = true) (hl : p.length < 2 ^ 30) :
    funD (cxT pp) 103 [.agg (cRat c), poly p] = some (poly (scale1 c p)) := by
  have k := r6times_spec (pp := pp) c hc p hp hl
  simp [mono1] at k
  rw [fun_103]
  unfold closedD bodyD
  simp [fn103, k]

/-! ### Add -/
/-- The sum of polynomials. -/
def padd : Poly → Poly → Poly
  | [], q => q
  | a :: p, [] => a :: p
  | a :: p, b :: q =>
    if 0 < mcmp a.m b.m then a :: padd p (b :: q)
    else if mcmp a.m b.m < 0 then b :: padd (a :: p) q
    else if a.c + b.c = 0 then padd p q else ⟨a.c + b.c, a.m⟩ :: padd p q
  termination_by p q => p.length + q.length
theorem padd_nil (p : Poly) : padd p [] = p := by cases p <;> simp [padd]
structure AddSt where
  i : Nat
  k : Nat
  out : Poly
theorem loop_wf' {cx : Cx} {d : Nat} {c : ACode} {A : Type} (Inv : A → St → Prop) (Q : A → AExit × St → Prop) (μ : A → Nat)
    (step : ∀ (a : A) (s : St), Inv a s → (∃ a', μ a' < μ a ∧ (∀ r', Q a' r' → Q a r') ∧ ∃ r, codeD cx d c s = some r ∧ r.1 = .norm ∧ Inv a' r.2) ∨ (∃ r, codeD cx d c s = some r ∧ r.1 ≠ .norm ∧ Q a r)) :
    ∀ (a : A) (s : St), Inv a s → ∃ r, codeD cx d (.loop c) s = some r ∧ Q a r := by
  refine loop_wf Inv Q μ ?_
  intro a s h
  rcases step a s h with ⟨a', h1, h2, r, h3, h4, h5⟩ | ⟨r, h1, h2, h3⟩
  · exact ⟨r, h3, .inl ⟨h4, a', h1, h5, h2⟩⟩
  · exact ⟨r, h1, .inr ⟨h2, h3⟩⟩
theorem drop_lt {α : Type} {l : List α} {i : Nat} {x : α} {r : List α} (h : l.drop i = x :: r) : i < l.length := by
  have := congrArg List.length h
  simp at this; omega
theorem drop_next {α : Type} {l : List α} {i : Nat} {x : α} {r : List α} (h : l.drop i = x :: r) : l.drop (i + 1) = r := by
  rw [← List.drop_drop, h]; rfl
theorem drop_all {α : Type} {l : List α} {i : Nat} (hi : i ≤ l.length) (h : l.drop i = []) : i = l.length := by
  have := congrArg List.length h
  simp at this; omega

theorem nil_or {α : Type} (l : List α) : l = [] ∨ ∃ a r, l = a :: r := by cases l <;> simp
set_option maxHeartbeats 2000000 in
theorem r6add_spec (p q : Poly) (hs : ∀ a ∈ p, ∀ b ∈ q, mcmp a.m b.m = 0 → a.c.natAbs ≤ 9 ∧ b.c.natAbs ≤ 3) (hl : p.length < 2 ^ 29) (hl2 : q.length < 2 ^ 29) :
    funD (cxT pp) 102 [poly p, poly q] = some (poly (padd p q)) := by
  have loop :=
    loop_wf' (cx := cxT pp) (d := 0) (c := c102_0)
      (fun (a : AddSt) s => (a.i ≤ p.length ∧ a.k ≤ q.length ∧ a.out.length ≤ a.i + a.k) ∧ s.env 0 = .p (poly p) ∧ s.env 1 = .p (poly q) ∧ s.env 6 = .p (.int .i64 a.i) ∧ s.env 7 = .p (.int .i64 a.k) ∧ Row s 5 ⟨0, 9⟩ 12 a.out.length (a.out.flatMap cTerm))
      (fun a r => r.1 = .ex 0 ∧ Row r.2 5 ⟨0, 9⟩ 12 (a.out ++ padd (p.drop a.i) (q.drop a.k)).length ((a.out ++ padd (p.drop a.i) (q.drop a.k)).flatMap cTerm)) (fun a => (p.length - a.i) + (q.length - a.k))
      (by
        rintro ⟨i, k, out⟩ ⟨env, h⟩ ⟨⟨hi, hk, ho⟩, h0, h1, h6, h7, v, h5, g5⟩
        simp only at hi hk ho h0 h1 h6 h7 h5 g5
        have hr := @roomy_ok (out.length + 1) 128 (by omega) (by decide)
        obtain hp | ⟨a, rp, hp⟩ := nil_or (p.drop i)
        · have hi' := drop_all hi hp
          obtain hq | ⟨b, rq, hq⟩ := nil_or (q.drop k)
          · have hk' := drop_all hk hq
            refine .inr ?_
            simp [-Prod.exists, c102_0, h0, h1, h6, h7, hi', hk', padd, Row, h5, g5]
          · have hk' := drop_lt hq
            have hw := inc_id hk' (by omega)
            have hkn : ¬ ((k : Int) = q.length) := by omega
            have hkn' : ¬ k = q.length := by omega
            refine .inl ⟨⟨i, k + 1, out ++ [b]⟩, by simp; omega, by intro r' h; simp only at h ⊢; rw [show out ++ padd (p.drop i) (q.drop k) = (out ++ [b]) ++ padd (p.drop i) (q.drop (k + 1)) by simp [hp, hq, padd, padd_nil, drop_next hq]]; exact h, ?_⟩
            simp [-Prod.exists, c102_0, h0, h1, h6, h7, hi', hk', hkn, hkn', hq, hw, hr, h5, g5, Row, cTerm]
            omega
        · have hi' := drop_lt hp
          have hin : ¬ ((i : Int) = p.length) := by omega
          have hin' : ¬ i = p.length := by omega
          have hwi := inc_id hi' (by omega)
          obtain hq | ⟨b, rq, hq⟩ := nil_or (q.drop k)
          · have hk' := drop_all hk hq
            refine .inl ⟨⟨i + 1, k, out ++ [a]⟩, by simp; omega, by intro r' h; simp only at h ⊢; rw [show out ++ padd (p.drop i) (q.drop k) = (out ++ [a]) ++ padd (p.drop (i + 1)) (q.drop k) by simp [hp, hq, padd, padd_nil, drop_next hp]]; exact h, ?_⟩
            simp [-Prod.exists, c102_0, h0, h1, h6, h7, hi', hk', hin, hin', hp, hwi, hr, h5, g5, Row, cTerm]
            omega
          · have hk' := drop_lt hq
            have hkn : ¬ ((k : Int) = q.length) := by omega
            have hkn' : ¬ k = q.length := by omega
            have hwk := inc_id hk' (by omega)
            have kc := r4cmp_spec (pp := pp) a.m b.m
            by_cases c1 : 0 < mcmp a.m b.m
            · refine .inl ⟨⟨i + 1, k, out ++ [a]⟩, by simp; omega, by intro r' h; simp only at h ⊢; rw [show out ++ padd (p.drop i) (q.drop k) = (out ++ [a]) ++ padd (p.drop (i + 1)) (q.drop k) by simp [hp, hq, padd, padd_nil, drop_next hp, c1]]; exact h, ?_⟩
              simp [-Prod.exists, c102_0, h0, h1, h6, h7, hi', hk', hin, hkn, hin', hkn', hp, hq, hwi, hr, h5, g5, Row, cTerm, kc, c1]
              omega
            · by_cases c2 : mcmp a.m b.m < 0
              · refine .inl ⟨⟨i, k + 1, out ++ [b]⟩, by simp; omega, by intro r' h; simp only at h ⊢; rw [show out ++ padd (p.drop i) (q.drop k) = (out ++ [b]) ++ padd (p.drop i) (q.drop (k + 1)) by simp [hp, hq, padd, padd_nil, drop_next hq, c1, c2]]; exact h, ?_⟩
                simp [-Prod.exists, c102_0, h0, h1, h6, h7, hi', hk', hin, hkn, hin', hkn', hp, hq, hwk, hr, h5, g5, Row, cTerm, kc, c1, c2]
                omega
              · obtain ⟨b1, b2⟩ := hs a (mem_drop hp) b (mem_drop hq) (by omega)
                have ka := r2add (pp := pp) a.c b.c b1 b2
                have ks := r2sign (pp := pp) (a.c + b.c) (by omega)
                by_cases c3 : a.c + b.c = 0
                · have e : sgn (a.c + b.c) = 0 := by rw [c3]; rfl
                  refine .inl ⟨⟨i + 1, k + 1, out⟩, by simp; omega, by intro r' h; simp only at h ⊢; rw [show out ++ padd (p.drop i) (q.drop k) = out ++ padd (p.drop (i + 1)) (q.drop (k + 1)) by simp [hp, hq, padd, padd_nil, drop_next hp, drop_next hq, c1, c2, c3]]; exact h, ?_⟩
                  simp [-Prod.exists, c102_0, h0, h1, h6, h7, hi', hk', hin, hkn, hin', hkn', hp, hq, hwi, hwk, hr, h5, g5, Row, cTerm, kc, c1, c2, ka, ks, e]
                  omega
                · have e : ¬ sgn (a.c + b.c) = 0 := by unfold sgn; split <;> (try split) <;> omega
                  refine .inl ⟨⟨i + 1, k + 1, out ++ [⟨a.c + b.c, a.m⟩]⟩, by simp; omega, by intro r' h; simp only at h ⊢; rw [show out ++ padd (p.drop i) (q.drop k) = (out ++ [⟨a.c + b.c, a.m⟩]) ++ padd (p.drop (i + 1)) (q.drop (k + 1)) by simp [hp, hq, padd, padd_nil, drop_next hp, drop_next hq, c1, c2, c3]]; exact h, ?_⟩
                  simp [-Prod.exists, c102_0, h0, h1, h6, h7, hi', hk', hin, hkn, hin', hkn', hp, hq, hwi, hwk, hr, h5, g5, Row, cTerm, kc, c1, c2, ka, ks, e]
                  omega)
  rw [fun_102]
  unfold closedD bodyD
  simp [fn102]
  generalize hx : codeD (cxT pp) 0 (ACode.loop c102_0) _ = X
  obtain ⟨e, env, h, rfl, q⟩ := at_code hx (loop ⟨0, 0, []⟩ _ (by simp [Row]))
  simp only [List.drop_zero, List.nil_append] at q
  obtain ⟨rfl, v, q2, q3⟩ := q
  simp only at q2 q3
  simp [q2, frz_row q3]
end Go.Va
end
section
open Go.Proofs
namespace Go.Va
variable {pp : Option PrimFn}

theorem ite_get {c : Prop} [Decidable c] {h : Hp} {ks : List Key} {k : Key} : (if c then h else markRO h ks).get k = if k ∈ ks then (if c then h.get k else (h.get k).mark) else h.get k := by
  by_cases hc : c
  · simp [hc]
  · simp only [if_neg hc]; rfl
attribute [simp] ite_get

/-! ### abs -/
theorem abs_spec (e : Int) (h1 : -128 ≤ e) (h2 : e ≤ 127) : funD (cxT pp) 107 [.int .i8 e] = some (.int .i64 (e.natAbs : Int)) := by
  rw [fun_107]
  unfold closedD bodyD
  have e1 : IntKind.i64.wrap e = e := by rw [i64_id] <;> omega
  by_cases h : e < 0
  · have e2 : IntKind.i64.wrap (0 - e) = (e.natAbs : Int) := by rw [i64_id] <;> omega
    simp [-Int.zero_sub, fn107, h, e1, e2, unPV]
  · have e2 : e = (e.natAbs : Int) := by omega
    simp [fn107, h, e1]
    omega

/-! ### Raw polynomials -/
structure R5 where
  c : Int
  es : List Int
  h : es.length = 4
attribute [simp] R5.h
def int8s (l : List Int) : List PV := l.map fun z => .int .i8 z
@[simp] theorem int8s_len (l : List Int) : (int8s l).length = l.length := by simp [int8s]
@[simp] theorem int8s_er : ∀ (l : List Int), PV.erL (int8s l) = int8s l
  | [] => rfl
  | a :: l => by have := int8s_er l; simp only [int8s] at this; simp [int8s, PV.erL, PV.er, this]
@[simp] theorem int8s_drop (l : List Int) (i : Nat) : (int8s l).drop i = int8s (l.drop i) := by simp [int8s, List.map_drop]
@[simp] theorem int8s_cons (a : Int) (l : List Int) : int8s (a :: l) = .int .i8 a :: int8s l := rfl
theorem int8s_app_drop {l : List Int} {R : List PV} {n : Nat} (h : n ≤ l.length) : (int8s l ++ R).drop n = int8s (l.drop n) ++ R := by
  rw [List.drop_append_of_le_length (by simpa using h), int8s_drop]
def cR5 (r : R5) : List PV := .int .i8 r.c :: int8s r.es
@[simp] theorem cR5_len (t : R5) : (cR5 t).length = 5 := by simp [cR5]
@[simp] theorem cR5_er (t : R5) : PV.erL (cR5 t) = cR5 t := by simp [cR5]
@[simp high] theorem r5s_len (p : List R5) : (p.flatMap cR5).length = p.length * 5 := flat_len cR5_len p
@[simp] theorem r5s_drop (p : List R5) (i : Nat) : (p.flatMap cR5).drop (i * 5) = (p.drop i).flatMap cR5 := flat_drop cR5_len p i
@[simp] theorem r5s_er (p : List R5) : PV.erL (p.flatMap cR5) = p.flatMap cR5 := flat_er cR5_er p
abbrev RawP := List R5
/-- A raw polynomial's one cell. -/
@[simp] abbrev raw (x : RawP) : PV := sl cR5 x
@[simp] theorem raw_er (x : RawP) : (raw x).er = raw x := by simp [raw]
def I8 (z : Int) : Prop := -128 ≤ z ∧ z ≤ 127
def RawOK (x : RawP) : Prop := ∀ r ∈ x, I8 r.c ∧ ∀ e ∈ r.es, I8 e

/-! ### The exponents -/
def expoF : List Int → Int → List Int
  | [], _ => []
  | e :: es, left => ((e.natAbs : Int).tmod (left + 1)) :: expoF es (left - (e.natAbs : Int).tmod (left + 1))
theorem expoF_len : ∀ (l : List Int) (d : Int), (expoF l d).length = l.length
  | [], _ => rfl
  | e :: es, d => by simp [expoF, expoF_len es]
def leftF : List Int → Int → Int
  | [], d => d
  | e :: es, d => leftF es (d - (e.natAbs : Int).tmod (d + 1))
/-- The monomial of raw numbers. -/
def rmono (r : R5) (n : Nat) (deg : Int) : Mono := ⟨expoF (r.es.take n) deg ++ List.replicate (8 - (r.es.take n).length) 0, by simp [expoF_len]; omega⟩
theorem tmod_bd {e d : Int} (hd : 0 ≤ d) : 0 ≤ (e.natAbs : Int).tmod (d + 1) ∧ (e.natAbs : Int).tmod (d + 1) ≤ d := by
  rw [Int.tmod_eq_emod_of_nonneg (by omega)]
  have h1 := Int.emod_nonneg (e.natAbs : Int) (show d + 1 ≠ 0 by omega)
  have h2 := Int.emod_lt_of_pos (e.natAbs : Int) (show 0 < d + 1 by omega)
  omega

theorem expo_fold : ∀ (l : List Int) (acc : List Int) (d : Int), l.foldl (fun (a : List Int × Int) e => (a.1 ++ [(e.natAbs : Int).tmod (a.2 + 1)], a.2 - (e.natAbs : Int).tmod (a.2 + 1))) (acc, d) = (acc ++ expoF l d, leftF l d)
  | [], _, _ => by simp [expoF, leftF]
  | e :: l, acc, d => by simp [expo_fold l, expoF, leftF]

set_option maxHeartbeats 1000000 in
/-- The inner loop of Made. -/
theorem made_inner (x : RawP) (hx : RawOK x) (hxl : x.length < 2 ^ 63) (k : Nat) (r : R5) (rr : List R5) (hk : x.drop k = r :: rr) (n : Nat) (hn : n ≤ 4) (deg : Int) (hdg : 0 ≤ deg ∧ deg ≤ 13) (e9 : AV) (g14 : HE) (dg tm : Int) (s : St)
    (h : (∃ v, s.env 11 = .ptr ⟨0, 11⟩ v 0 ∧ s.h.get ⟨0, 11⟩ = ⟨v, false, some (.cells ((ints mono1.l).map .p))⟩) ∧ s.env 12 = .p (.int .i64 deg) ∧ s.env 13 = .p (.int .i64 0) ∧
      (s.env 10 = .p (.int .i64 k) ∧ s.env 4 = .ptr ⟨0, 4⟩ 1 0 ∧ s.h.get ⟨0, 4⟩ = ⟨1, false, some (.cells [.p (raw x)])⟩ ∧ s.env 1 = .p (.int .i64 n) ∧ s.env 9 = e9 ∧ s.h.get ⟨0, 14⟩ = g14 ∧ s.env 2 = .p (.int .i64 dg) ∧ s.env 3 = .p (.int .i64 tm))) :
    ∃ a, codeD (cxT pp) 0 (.loop c58_0) s = some a ∧ a.1 = .ex 2 ∧ (∃ v, a.2.env 11 = .ptr ⟨0, 11⟩ v 0 ∧ a.2.h.get ⟨0, 11⟩ = ⟨v, false, some (.cells ((ints (rmono r n deg).l).map .p))⟩) ∧
      (a.2.env 10 = .p (.int .i64 k) ∧ a.2.env 4 = .ptr ⟨0, 4⟩ 1 0 ∧ a.2.h.get ⟨0, 4⟩ = ⟨1, false, some (.cells [.p (raw x)])⟩ ∧ a.2.env 1 = .p (.int .i64 n) ∧ a.2.env 9 = e9 ∧ a.2.h.get ⟨0, 14⟩ = g14 ∧ a.2.env 2 = .p (.int .i64 dg) ∧ a.2.env 3 = .p (.int .i64 tm)) := by
  have hm : r ∈ x := mem_drop hk
  have hkl := drop_lt hk
  have hle : (r.es.take n).length = n := by simp; omega
  have := loop_fold (cx := cxT pp) (d := 0) (c := c58_0) (r.es.take n) (fun (a : List Int × Int) e => (a.1 ++ [(e.natAbs : Int).tmod (a.2 + 1)], a.2 - (e.natAbs : Int).tmod (a.2 + 1)))
    (fun i a s => (a.1.length = i ∧ 0 ≤ a.2 ∧ a.2 ≤ 13) ∧ (∃ v, s.env 11 = .ptr ⟨0, 11⟩ v 0 ∧ s.h.get ⟨0, 11⟩ = ⟨v, false, some (.cells ((ints (a.1 ++ List.replicate (8 - i) 0)).map .p))⟩) ∧ s.env 12 = .p (.int .i64 a.2) ∧ s.env 13 = .p (.int .i64 i) ∧
      (s.env 10 = .p (.int .i64 k) ∧ s.env 4 = .ptr ⟨0, 4⟩ 1 0 ∧ s.h.get ⟨0, 4⟩ = ⟨1, false, some (.cells [.p (raw x)])⟩ ∧ s.env 1 = .p (.int .i64 n) ∧ s.env 9 = e9 ∧ s.h.get ⟨0, 14⟩ = g14 ∧ s.env 2 = .p (.int .i64 dg) ∧ s.env 3 = .p (.int .i64 tm))) (.ex 2) (by simp)
    (by
      rintro i ⟨acc, left⟩ ⟨env, h⟩ e rest hi hx1 hd ⟨⟨hai, hl0, hl1⟩, ⟨v, h11, g11⟩, h12, h13, h10, h4, g4, h1, h9, hg14, h2, h3⟩
      simp only at hai
      subst hai
      simp only at hl0 hl1 h11 g11 h12 h13 h10 h4 g4 h1 h9 hg14 h2 h3
      rw [hle] at hi
      have he : e ∈ r.es := List.mem_of_mem_take (mem_drop hd)
      have hw := inc_id (show acc.length < 8 by omega) (by omega)
      have hw1 : IntKind.i64.wrap (1 + (acc.length : Int)) = ((acc.length + 1 : Nat) : Int) := by rw [i64_id] <;> omega
      have hw2 : IntKind.i64.wrap (left + 1) = left + 1 := by rw [i64_id] <;> omega
      have ht := tmod_bd (e := e) hl0
      have hw3 : IntKind.i64.wrap (left - (e.natAbs : Int).tmod (left + 1)) = left - (e.natAbs : Int).tmod (left + 1) := by rw [i64_id] <;> omega
      have ka := abs_spec (pp := pp) e ((hx r hm).2 e he).1 ((hx r hm).2 e he).2
      have hes : r.es.drop acc.length = e :: r.es.drop (acc.length + 1) := by
        have hge : r.es[acc.length]? = some e := by
          rw [List.getElem?_take] at hx1
          by_cases hh : acc.length < n
          · rwa [if_pos hh] at hx1
          · rw [if_neg hh] at hx1; cases hx1
        have hlt : acc.length < r.es.length := by simp; omega
        rw [List.getElem?_eq_getElem hlt] at hge
        rw [List.drop_eq_getElem_cons hlt]
        rw [Option.some.inj hge]
      have hi4 : acc.length < 4 := by omega
      have hi5 : acc.length + 1 < 5 := by omega
      have hi8 : acc.length < 8 := by omega
      have hl2 : ¬ (left + 1 = 0) := by omega
      have hi4' : (acc.length : Int) < 4 := by omega
      have hi5' : (acc.length : Int) + 1 < 5 := by omega
      have hi8' : (acc.length : Int) < 8 := by omega
      have hi9 : (0 : Int) ≤ (acc.length : Int) + 1 := by omega
      obtain ⟨j, hj⟩ : ∃ j, 8 - acc.length = j + 1 := ⟨8 - acc.length - 1, by omega⟩
      have hj2 : 8 - (acc.length + 1) = j := by omega
      simp [-Prod.exists, c58_0, h11, g11, h12, h13, h10, h4, g4, h1, h9, hg14, h2, h3, hi, hi4, hi5, hi8, hi4', hi5', hi8', hi9, int8s_app_drop (show acc.length ≤ r.es.length by simp; omega), hw, hw1, hw2, hw3, hk, hkl, raw, cR5, hes, ka, hl2, hj, hj2, List.replicate_succ]
      omega)
    (by
      rintro ⟨acc, left⟩ ⟨env, h⟩ ⟨⟨hal, hl0, hl1⟩, ⟨v, h11, g11⟩, h12, h13, h10, h4, g4, h1, h9, hg14, h2, h3⟩
      rw [hle] at hal h13 g11
      simp only at hal hl0 hl1 h11 g11 h12 h13 h10 h4 g4 h1 h9 hg14 h2 h3
      simp [-Prod.exists, c58_0, h11, g11, h12, h13, h10, h4, g4, h1, h9, hg14, h2, h3, hal, hle, hl0, hl1])
    ([], deg) s (by
      obtain ⟨⟨v, h11, g11⟩, h12, h13, hrest⟩ := h
      refine ⟨⟨rfl, hdg⟩, ⟨v, h11, ?_⟩, h12, by simpa using h13, hrest⟩
      rw [g11]; rfl)
  obtain ⟨a, q1, q2, -, ⟨v, q3, q4⟩, -, -, q5⟩ := this
  rw [expo_fold] at q4
  refine ⟨a, q1, q2, ⟨v, q3, ?_⟩, q5⟩
  rw [q4]
  simp [rmono]

/-! ### The sum -/
theorem padd_sm {a b : Nat} : ∀ (p q : Poly), Sm a p → Sm b q → Sm (a + b) (padd p q)
  | [], q, _, hq => by
    simp only [padd]; intro t ht; have := hq t ht; omega
  | x :: p, [], hp, _ => by
    simp only [padd]; intro t ht; have := hp t ht; omega
  | x :: p, y :: q, hp, hq => by
    have hx := hp x (by simp)
    have hy := hq y (by simp)
    have i1 := padd_sm p (y :: q) (fun t h => hp t (by simp [h])) hq
    have i2 := padd_sm (x :: p) q hp (fun t h => hq t (by simp [h]))
    have i3 := padd_sm p q (fun t h => hp t (by simp [h])) (fun t h => hq t (by simp [h]))
    rw [padd]
    split
    · intro t ht
      rcases List.mem_cons.1 ht with rfl | ht
      · omega
      · exact i1 t ht
    · split
      · intro t ht
        rcases List.mem_cons.1 ht with rfl | ht
        · omega
        · exact i2 t ht
      · split
        · exact i3
        · intro t ht
          rcases List.mem_cons.1 ht with rfl | ht
          · show (x.c + y.c).natAbs ≤ a + b
            omega
          · exact i3 t ht
  termination_by p q => p.length + q.length
theorem padd_len : ∀ (p q : Poly), (padd p q).length ≤ p.length + q.length
  | [], q => by simp [padd]
  | x :: p, [] => by simp [padd]
  | x :: p, y :: q => by
    have i1 := padd_len p (y :: q)
    have i2 := padd_len (x :: p) q
    have i3 := padd_len p q
    simp only [List.length_cons] at i1 i2 ⊢
    rw [padd]
    split
    · simp only [List.length_cons]; omega
    · split
      · simp only [List.length_cons]; omega
      · split
        · omega
        · simp only [List.length_cons]; omega
  termination_by p q => p.length + q.length

theorem expo_nonneg : ∀ (l : List Int) (d : Int), 0 ≤ d → ∀ x ∈ expoF l d, 0 ≤ x ∧ x ≤ d
  | [], _, _, x, hx => by simp [expoF] at hx
  | e :: es, d, hd, x, hx => by
    have := tmod_bd (e := e) hd
    simp only [expoF, List.mem_cons] at hx
    rcases hx with rfl | hx
    · exact this
    · have h2 := expo_nonneg es (d - (e.natAbs : Int).tmod (d + 1)) (by omega) x hx
      omega
theorem rmono_valid (r : R5) (n : Nat) (d : Int) (h0 : 0 ≤ d) (h1 : d ≤ 13) : mvalid (rmono r n d) = true := by
  unfold mvalid
  rw [List.all_eq_true]
  intro x hx
  simp only [rmono, List.mem_append, List.mem_replicate] at hx
  rcases hx with hx | ⟨-, rfl⟩
  · have := expo_nonneg _ _ h0 x hx
    simp [evalid]; omega
  · rfl

/-- One more term. -/
def madd (n : Nat) (deg : Int) (out : Poly) (r : R5) : Poly := padd out (scale1 (r.c.tmod 4) [⟨1, rmono r n deg⟩])
/-- The polynomial of raw numbers. -/
def made (x : RawP) (n : Nat) (deg : Int) (terms : Nat) : Poly := (x.take terms).foldl (madd n deg) []
theorem tmod4 (c : Int) : (c.tmod 4).natAbs ≤ 3 := by
  rw [Int.natAbs_tmod]
  have := Nat.mod_lt c.natAbs (show 0 < (4 : Int).natAbs by decide)
  simp only [Int.reduceAbs] at this ⊢
  omega
theorem scale1_sm (c : Int) (hc : c.natAbs ≤ 3) (p : Poly) : Sm 3 (scale1 c p) := by
  unfold scale1
  split
  · intro t ht; simp at ht
  · intro t ht
    simp only [List.mem_map] at ht
    obtain ⟨u, -, rfl⟩ := ht
    exact hc
theorem scale1_len (c : Int) (p : Poly) : (scale1 c p).length ≤ p.length := by
  unfold scale1; split <;> simp

/-- The sum as it stands: a value, or the new row that is still empty. -/
def Out9 (s : St) (out : Poly) : Prop := s.env 9 = .p (poly out) ∨ (out = [] ∧ s.env 9 = .ref ⟨0, 14⟩ 1 0 0 12 false ∧ s.h.get ⟨0, 14⟩ = ⟨1, false, some (.cells [])⟩)

set_option maxHeartbeats 2000000 in
theorem made_spec (x : RawP) (hx : RawOK x) (hxl : x.length < 2 ^ 63) (n : Nat) (hn : n ≤ 4) (deg : Int) (hdg : 0 ≤ deg ∧ deg ≤ 13) (terms : Nat) (ht : terms ≤ 4) :
    funD (cxT pp) 58 [.agg [raw x], .int .i64 n, .int .i64 deg, .int .i64 terms] = some (poly (made x n deg terms)) := by
  have loop := loop_fold (cx := cxT pp) (d := 0) (c := c58_1) (x.take terms) (madd n deg)
    (fun i out s => (Sm (3 * i) out ∧ out.length ≤ i) ∧ Out9 s out ∧ (s.env 10 = .p (.int .i64 i) ∧ s.env 4 = .ptr ⟨0, 4⟩ 1 0 ∧ s.h.get ⟨0, 4⟩ = ⟨1, false, some (.cells [.p (raw x)])⟩ ∧ s.env 1 = .p (.int .i64 n) ∧ s.env 2 = .p (.int .i64 deg) ∧ s.env 3 = .p (.int .i64 terms))) (.ex 0) (by simp)
    (by
      rintro i out ⟨env, h⟩ r rest hi hx1 hd ⟨⟨hsm, hol⟩, hout, h10, h4, g4, h1, h2, h3⟩
      simp only at h10 h4 g4 h1 h2 h3
      have hi' : i < x.length ∧ i < terms := by simp at hi; omega
      have hi1 : (i : Int) < x.length := by omega
      have hi2 : (i : Int) < terms := by omega
      have hk : ∃ rr, x.drop i = r :: rr := by
        have hge : x[i]? = some r := by
          rw [List.getElem?_take] at hx1
          rwa [if_pos hi'.2] at hx1
        rw [List.getElem?_eq_getElem hi'.1] at hge
        exact ⟨x.drop (i + 1), by rw [List.drop_eq_getElem_cons hi'.1, Option.some.inj hge]⟩
      obtain ⟨rr, hk⟩ := hk
      have hw := inc_id hi'.1 hxl
      have inner := fun e9 g14 s => made_inner (pp := pp) x hx hxl i r rr hk n hn deg hdg e9 g14 deg terms s
      have kc := tmod4 r.c
      have kw := r2whole (pp := pp) (r.c.tmod 4) (by omega)
      have kw1 := r2whole (pp := pp) 1 (by decide)
      have hwc : IntKind.i64.wrap (r.c.tmod 4) = r.c.tmod 4 := by rw [i64_id] <;> omega
      have ks := r6scale_spec (pp := pp) (r.c.tmod 4) kc [⟨1, rmono r n deg⟩] (by simp [rmono_valid r n deg hdg.1 hdg.2]) (by simp)
      have ka := r6add_spec (pp := pp) out (scale1 (r.c.tmod 4) [⟨1, rmono r n deg⟩]) (by
        intro a ha b hb _
        have h1 := hsm a ha
        have h2 := scale1_sm _ kc _ b hb
        omega) (by omega) (by have := scale1_len (r.c.tmod 4) [⟨1, rmono r n deg⟩]; simp at this; omega)
      have hsm2 : Sm (3 * (i + 1)) (madd n deg out r) := padd_sm out _ hsm (scale1_sm _ kc _)
      have hol2 : (madd n deg out r).length ≤ i + 1 := by
        have h1 := padd_len out (scale1 (r.c.tmod 4) [⟨1, rmono r n deg⟩])
        have h2 := scale1_len (r.c.tmod 4) [⟨1, rmono r n deg⟩]
        simp at h2
        unfold madd
        omega
      simp [cTerm, cRat] at ks kw1 kw
      have hmadd : padd out (scale1 (r.c.tmod 4) [⟨1, rmono r n deg⟩]) = madd n deg out r := rfl
      rw [hmadd] at ka
      generalize hS : scale1 (r.c.tmod 4) [⟨1, rmono r n deg⟩] = S at *
      simp [-Prod.exists, c58_1, raw, h10, h4, g4, h1, h2, h3, hi1, hi2]
      generalize hX : codeD (cxT pp) 0 (ACode.loop c58_0) _ = X
      rcases hout with hout | ⟨rfl, hout, hg14⟩
      · simp only at hout
        obtain ⟨e, env', h', rfl, q⟩ := at_code hX (inner (.p (poly out)) (h.get ⟨0, 14⟩) _ (by simp [h10, h4, g4, h1, h2, h3, hout, mono1, raw]))
        simp only at q
        obtain ⟨rfl, ⟨v, q1, q2⟩, q3, q4, q5, q6, q7, q8, q9, q10⟩ := q
        simp [-Prod.exists, q1, q2, q3, q4, q5, q6, q7, q8, q9, q10, hi'.1, hi1, hk, raw, cR5, hwc, kw, kw1, ks, ka, hw, hsm2, hol2, Out9]
      · simp only at hout hg14
        obtain ⟨e, env', h', rfl, q⟩ := at_code hX (inner (.ref ⟨0, 14⟩ 1 0 0 12 false) ⟨1, false, some (.cells [])⟩ _ (by simp [h10, h4, g4, h1, h2, h3, hout, hg14, mono1, raw]))
        simp only at q
        obtain ⟨rfl, ⟨v, q1, q2⟩, q3, q4, q5, q6, q7, q8, q9, q10⟩ := q
        simp at ka
        simp [-Prod.exists, q1, q2, q3, q4, q5, q6, q7, q8, q9, q10, hi'.1, hi1, hk, raw, cR5, hwc, kw, kw1, ks, ka, hw, hsm2, hol2, Out9])
    (by
      rintro out ⟨env, h⟩ ⟨⟨hsm, hol⟩, hout, h10, h4, g4, h1, h2, h3⟩
      simp only at h10 h4 g4 h1 h2 h3
      have hc : ¬ ((x.length : Int) < x.length ∧ (x.length : Int) < terms) := by omega
      by_cases hlt : x.length ≤ terms
      · have e1 : min terms x.length = x.length := by omega
        simp [e1] at h10
        simp only [List.length_take, e1] at hsm hol
        simp [-Prod.exists, c58_1, raw, h10, h4, g4, h1, h2, h3, e1, hsm, hol]
        simpa [Out9] using hout
      · have e1 : min terms x.length = terms := by omega
        have e2 : (terms : Int) < x.length := by omega
        simp [e1] at h10
        simp only [List.length_take, e1] at hsm hol
        simp [-Prod.exists, c58_1, raw, h10, h4, g4, h1, h2, h3, e1, e2, hsm, hol]
        simpa [Out9] using hout)
  rw [fun_58]
  unfold closedD bodyD made
  simp [fn58]
  generalize hX : codeD (cxT pp) 0 (ACode.loop c58_1) _ = X
  obtain ⟨e, env, h, rfl, q⟩ := at_code hX (loop [] _ (by simp [Out9, Sm]))
  simp only at q
  obtain ⟨rfl, -, q, -⟩ := q
  rcases q with q | ⟨q1, q2, q3⟩
  · simp only at q
    simp [q]
  · simp only at q2 q3
    simp [q1, q2, q3]
end Go.Va
end
section
open Go.Proofs
namespace Go.Va
variable {pp : Option PrimFn}

/-! ### letter, Name -/
def letter (b : Int) : Bool := (decide (65 ≤ b) && decide (b ≤ 90)) || (decide (97 ≤ b) && decide (b ≤ 122))
/-! ### index, is, has -/
def indexF (l : List ByteArray) (b : ByteArray) : Int := (findL (fun i (x : ByteArray) => if x = b then some (i : Int) else none) l 0).getD (-1)
/-- The index of a name, or -1. -/
def index (s : Sys) (b : ByteArray) : Int := indexF s.vars b
theorem index_spec (s : Sys) (hl : s.vars.length < 2 ^ 30) (b : ByteArray) : funD (cxT pp) 131 [.agg (cSys s), .str b] = some (.int .i64 (index s b)) := by
  have loop := loop_find (cx := cxT pp) (d := 0) (c := c131_0) s.vars (fun i (x : ByteArray) => if x = b then some (i : Int) else none)
    (fun i st => st.h.get ⟨0, 2⟩ = ⟨1, false, some (.cells ((cSys s).map .p))⟩ ∧ st.env 2 = .ptr ⟨0, 2⟩ 1 0 ∧ st.env 1 = .p (.str b) ∧ st.env 5 = .p (.int .i64 i))
    (fun z a => a.1 = .ret ∧ a.2.env 4 = .p (.int .i64 z)) (.ex 0) (by simp)
    (by
      rintro i ⟨env, h⟩ x rest hi hx hd ⟨g2, h2, h1, h5⟩
      simp only at g2 h2 h1 h5
      have hw := inc_id hi (by omega)
      by_cases hid : x = b
      · simp [c131_0, g2, h2, h1, h5, hi, hd, hid]
      · simp [c131_0, g2, h2, h1, h5, hi, hd, hid, hw])
    (by
      rintro ⟨env, h⟩ ⟨g2, h2, h1, h5⟩
      simp only at g2 h2 h1 h5
      simp [c131_0, g2, h2, h1, h5])
  rw [fun_131]
  unfold closedD bodyD index indexF
  simp [fn131]
  generalize hx : codeD (cxT pp) 0 (ACode.loop c131_0) _ = X
  obtain ⟨e, env, h, rfl, q⟩ := at_code hx (loop _ (by simp))
  simp only at q
  revert q
  cases findL (fun i (x : ByteArray) => if x = b then some (i : Int) else none) s.vars 0 with
  | none => simp +contextual
  | some z => simp +contextual

def isV (s : Sys) (i : Int) : Bool := decide (0 ≤ i) && decide (i < s.vars.length)
theorem is_spec (s : Sys) (i : Int) : funD (cxT pp) 132 [.agg (cSys s), .int .i64 i] = some (.bool (isV s i)) := by
  rw [fun_132]
  unfold closedD bodyD isV
  by_cases h : 0 ≤ i <;> simp [fn132, h]

def has (s : Sys) (id : Int) : Bool := decide (0 ≤ find s.eqs id) || decide (0 ≤ find s.neqs id)
theorem has_spec (s : Sys) (h1 : s.eqs.length < 2 ^ 30) (h2 : s.neqs.length < 2 ^ 30) (id : Int) : funD (cxT pp) 173 [.agg (cSys s), .int .i64 id] = some (.bool (has s id)) := by
  have k1 := find_spec (pp := pp) s.eqs h1 id
  have k2 := find_spec (pp := pp) s.neqs h2 id
  rw [fun_173]
  unfold closedD bodyD has
  by_cases h : 0 ≤ find s.eqs id <;> simp [fn173, k1, k2, h]

/-! ### put -/
/-- The list with an equation at its place. -/
def putF (x : Eqn) : List Eqn → Bool → List Eqn
  | [], done => if done then [] else [x]
  | y :: l, done => (if !done && decide (x.id ≤ y.id) then [x] else []) ++ (if y.id = x.id then [] else [y]) ++ putF x l (done || decide (x.id ≤ y.id))
def put (l : List Eqn) (x : Eqn) : List Eqn := putF x l false
def putG (x : Eqn) (a : List Eqn × Bool) (y : Eqn) : List Eqn × Bool :=
  (a.1 ++ (if !a.2 && decide (x.id ≤ y.id) then [x] else []) ++ (if y.id = x.id then [] else [y]), a.2 || decide (x.id ≤ y.id))
theorem putF_fold (x : Eqn) : ∀ (l : List Eqn) (a : List Eqn × Bool), (l.foldl (putG x) a).1 ++ (if (l.foldl (putG x) a).2 then [] else [x]) = a.1 ++ putF x l a.2
  | [], a => by
    obtain ⟨o, dn⟩ := a
    cases dn <;> rfl
  | y :: l, a => by
    rw [List.foldl_cons, putF_fold x l]
    simp [putG, putF]
theorem put_spec (l : List Eqn) (hl : l.length < 2 ^ 29) (x : Eqn) : funD (cxT pp) 137 [sl cEqn l, .agg (cEqn x)] = some (sl cEqn (put l x)) := by
  have loop := loop_fold (cx := cxT pp) (d := 0) (c := c137_0) l (putG x)
    (fun i (a : List Eqn × Bool) s => a.1.length ≤ 2 * i ∧ Row s 5 ⟨0, 8⟩ 2 a.1.length (a.1.flatMap cEqn) ∧ s.env 0 = .p (sl cEqn l) ∧ s.env 6 = .p (.bool a.2) ∧ s.env 7 = .p (.int .i64 i) ∧ s.env 3 = .ptr ⟨0, 3⟩ 1 0 ∧
      s.h.get ⟨0, 3⟩ = ⟨1, false, some (.cells ((cEqn x).map .p))⟩) (.ex 0) (by simp)
    (by
      rintro i ⟨out, dn⟩ ⟨env, h⟩ y rest hi hx hd ⟨hle, ⟨v, h5, g5⟩, h0, h6, h7, h3, g3⟩
      simp only at hle h5 g5 h0 h6 h7 h3 g3
      have hw := inc_id hi (by omega)
      have hr := @roomy_ok (out.length + 1) 32 (by omega) (by decide)
      have hr2 := @roomy_ok (out.length + 1 + 1) 32 (by omega) (by decide)
      have hm : (out.length + 1) * 2 = out.length * 2 + 2 := by omega
      cases dn with
      | true =>
        by_cases c2 : y.id = x.id
        · simp [-Prod.exists, c137_0, h5, g5, h0, h6, h7, h3, g3, hi, hd, hm, hw, hr, hr2, cEqn, Row, putG, c2]
          omega
        · simp [-Prod.exists, c137_0, h5, g5, h0, h6, h7, h3, g3, hi, hd, hm, hw, hr, hr2, cEqn, Row, putG, c2]
          omega
      | false =>
        by_cases c1 : x.id ≤ y.id
        · by_cases c2 : y.id = x.id
          · simp [-Prod.exists, c137_0, h5, g5, h0, h6, h7, h3, g3, hi, hd, hm, hw, hr, hr2, cEqn, Row, putG, c2]
            omega
          · simp [-Prod.exists, c137_0, h5, g5, h0, h6, h7, h3, g3, hi, hd, hm, hw, hr, hr2, cEqn, Row, putG, c1, c2]
            omega
        · have c2 : ¬ y.id = x.id := by omega
          simp [-Prod.exists, c137_0, h5, g5, h0, h6, h7, h3, g3, hi, hd, hm, hw, hr, hr2, cEqn, Row, putG, c1, c2]
          omega)
    (by
      rintro ⟨out, dn⟩ ⟨env, h⟩ ⟨hle, ⟨v, h5, g5⟩, h0, h6, h7, h3, g3⟩
      simp only at hle h5 g5 h0 h6 h7 h3 g3
      simp [-Prod.exists, c137_0, h5, g5, h0, h6, h7, h3, g3, Row, hle])
  have hf := putF_fold x l ([], false)
  rw [fun_137]
  unfold closedD bodyD put
  simp [fn137]
  generalize hx : codeD (cxT pp) 0 (ACode.loop c137_0) _ = X
  obtain ⟨e, env, h, rfl, q⟩ := at_code hx (loop ([], false) _ (by simp [Row, cEqn]))
  simp only at q
  revert q hf
  generalize l.foldl (putG x) ([], false) = A
  obtain ⟨out, dn⟩ := A
  rintro hf ⟨rfl, hle, ⟨v, q2, q3⟩, -, q4, -, q5, q6⟩
  simp only at q2 q3 q4 q5 q6 hf hle
  have hr := @roomy_ok (out.length + 1) 32 (by omega) (by decide)
  have hm : (out.length + 1) * 2 = out.length * 2 + 2 := by omega
  cases dn with
  | true =>
    simp at hf
    simp [q2, frz_row q3, q4, ← hf]
  | false =>
    simp at hf
    simp [q2, q3, q4, q5, q6, ← hf, hr, hm, cEqn]
end Go.Va
end
section
open Go.Proofs
namespace Go.Va
variable {pp : Option PrimFn}

/-! ### What is known of data -/
/-- A polynomial of small coefficients and good exponents. -/
def PW (p : Poly) : Prop := Sm 12 p ∧ (∀ t ∈ p, mvalid t.m = true) ∧ p.length < 2 ^ 20
def EW (l : List Eqn) : Prop := l.length ≤ 12 ∧ ∀ e ∈ l, PW e.p
structure SW (s : Sys) : Prop where
  vars : s.vars.length ≤ 4
  eqs : EW s.eqs
  neqs : EW s.neqs
  lo : 0 ≤ s.next
  hi : s.next ≤ 2 ^ 20
theorem puse_lt (p : Poly) : puse p < 256 := by
  have : ∀ (l : Poly) (n : Nat), n < 256 → l.foldl (fun n t => n ||| msup t.m) n < 256 := by
    intro l
    induction l with
    | nil => intro n h; exact h
    | cons t l ih => intro n h; exact ih _ (Nat.or_lt_two_pow (n := 8) h (msup_lt t.m))
  exact this p 0 (by decide)

/-! ### fits -/
def fits (p : Poly) (n : Nat) : Bool := pvalid p && decide ((puse p : Int).fdiv (2 ^ n) = 0) && decide (pdeg p ≤ 12)
theorem use64 (p : Poly) : IntKind.i64.wrap (puse p : Int) = (puse p : Int) := by
  have := puse_lt p
  rw [i64_id] <;> omega
theorem fits_spec (p : Poly) (hp : PW p) (n : Nat) (hn : n ≤ 4) : funD (cxT pp) 174 [poly p, .int .i64 n] = some (.bool (fits p n)) := by
  obtain ⟨h1, h2, h3⟩ := hp
  have k1 := r6valid_spec (pp := pp) p h1 (by omega)
  have k2 := r6use_spec (pp := pp) p (by omega)
  have k3 := r6deg_spec (pp := pp) p h2 (by omega)
  have hu := use64 p
  have hmin : min n 64 = n := by omega
  have hneg : ¬ ((n : Int) < 0) := by omega
  rw [fun_174]
  unfold closedD bodyD fits
  cases c1 : pvalid p
  · simp [fn174, k1, c1]
  · by_cases c2 : (puse p : Int).fdiv (2 ^ n) = 0
    · simp [fn174, k1, k2, k3, c1, c2, hu, hmin, hneg, IntKind.bits]
    · simp [fn174, k1, k2, k3, c1, c2, hu, hmin, hneg, IntKind.bits]

/-! ### used -/
def usedP (i : Int) (p : Poly) : Bool := decide (((puse p : Int).fdiv (2 ^ i.toNat)).tmod 2 = 1)
def used (s : Sys) (i : Int) : Bool := s.eqs.any (fun e => usedP i e.p) || s.neqs.any (fun e => usedP i e.p)
theorem any_find {α : Type} (f : α → Bool) : ∀ (l : List α) (i : Nat), (findL (fun _ x => if f x then some () else none) l i).isSome = l.any f
  | [], _ => rfl
  | x :: l, i => by
    unfold findL
    cases h : f x <;> simp [h, any_find f l]
set_option maxHeartbeats 1000000 in
theorem used_spec (s : Sys) (hs : SW s) (i : Int) (h0 : 0 ≤ i) (h4 : i ≤ 4) : funD (cxT pp) 133 [.agg (cSys s), .int .i64 i] = some (.bool (used s i)) := by
  have hmin : min i.toNat 64 = i.toNat := by omega
  have hneg : ¬ (i < 0) := by omega
  have loop0 := loop_find (cx := cxT pp) (d := 0) (c := c133_0) s.eqs (fun _ (x : Eqn) => if usedP i x.p then some () else none)
    (fun j st => st.h.get ⟨0, 2⟩ = ⟨1, false, some (.cells ((cSys s).map .p))⟩ ∧ st.env 2 = .ptr ⟨0, 2⟩ 1 0 ∧ st.env 1 = .p (.int .i64 i) ∧ st.env 5 = .p (.int .i64 j))
    (fun _ a => a.1 = .ret ∧ a.2.env 4 = .p (.bool true)) (.ex 0) (by simp)
    (by
      rintro j ⟨env, h⟩ x rest hi hx hd ⟨g2, h2, h1, h5⟩
      simp only at g2 h2 h1 h5
      have hw := inc_id hi (by have := hs.eqs.1; omega)
      have hp := hs.eqs.2 x (mem_drop hd)
      have k2 := r6use_spec (pp := pp) x.p (by have := hp.2.2; omega)
      have hu := use64 x.p
      by_cases c : ((puse x.p : Int).fdiv (2 ^ i.toNat)).tmod 2 = 1
      · simp [c133_0, g2, h2, h1, h5, hi, hd, cEqn, k2, hu, hmin, hneg, IntKind.bits, usedP, c]
      · simp [c133_0, g2, h2, h1, h5, hi, hd, cEqn, k2, hu, hmin, hneg, IntKind.bits, usedP, c, hw])
    (by
      rintro ⟨env, h⟩ ⟨g2, h2, h1, h5⟩
      simp only at g2 h2 h1 h5
      simp [c133_0, g2, h2, h1, h5])
  have loop1 := loop_find (cx := cxT pp) (d := 0) (c := c133_1) s.neqs (fun _ (x : Eqn) => if usedP i x.p then some () else none)
    (fun j st => st.h.get ⟨0, 2⟩ = ⟨1, false, some (.cells ((cSys s).map .p))⟩ ∧ st.env 2 = .ptr ⟨0, 2⟩ 1 0 ∧ st.env 1 = .p (.int .i64 i) ∧ st.env 6 = .p (.int .i64 j))
    (fun _ a => a.1 = .ret ∧ a.2.env 4 = .p (.bool true)) (.ex 2) (by simp)
    (by
      rintro j ⟨env, h⟩ x rest hi hx hd ⟨g2, h2, h1, h5⟩
      simp only at g2 h2 h1 h5
      have hw := inc_id hi (by have := hs.neqs.1; omega)
      have hp := hs.neqs.2 x (mem_drop hd)
      have k2 := r6use_spec (pp := pp) x.p (by have := hp.2.2; omega)
      have hu := use64 x.p
      by_cases c : ((puse x.p : Int).fdiv (2 ^ i.toNat)).tmod 2 = 1
      · simp [c133_1, g2, h2, h1, h5, hi, hd, cEqn, k2, hu, hmin, hneg, IntKind.bits, usedP, c]
      · simp [c133_1, g2, h2, h1, h5, hi, hd, cEqn, k2, hu, hmin, hneg, IntKind.bits, usedP, c, hw])
    (by
      rintro ⟨env, h⟩ ⟨g2, h2, h1, h5⟩
      simp only at g2 h2 h1 h5
      simp [c133_1, g2, h2, h1, h5])
  have a0 := any_find (fun e : Eqn => usedP i e.p) s.eqs 0
  have a1 := any_find (fun e : Eqn => usedP i e.p) s.neqs 0
  rw [fun_133]
  unfold closedD bodyD used
  simp [fn133]
  generalize hx : codeD (cxT pp) 0 (ACode.loop c133_0) _ = X
  obtain ⟨e, env, h, rfl, q⟩ := at_code hx (loop0 _ (by simp))
  simp only at q
  revert a0 q
  cases findL (fun _ (x : Eqn) => if usedP i x.p then some () else none) s.eqs 0 with
  | some u =>
    rintro a0 ⟨rfl, q2⟩
    simp [q2, ← a0]
  | none =>
    rintro a0 ⟨rfl, q1, q2, q3, q4⟩
    simp at q1
    simp [q1, q2, q3, q4, ← a0]
    generalize hx : codeD (cxT pp) 0 (ACode.loop c133_1) _ = X
    obtain ⟨e, env, h, rfl, q⟩ := at_code hx (loop1 _ (by simp [q1, q2, q3, q4]))
    simp only at q
    revert a1 q
    cases findL (fun _ (x : Eqn) => if usedP i x.p then some () else none) s.neqs 0 with
    | some u =>
      rintro a1 ⟨rfl, q2⟩
      simp [q2, ← a1]
    | none =>
      rintro a1 ⟨rfl, q1, q2, q3, q4⟩
      simp [← a1]

/-! ### checkAdd, checkId -/
def checkAdd (s : Sys) (e : Edt) : Int :=
  if e.id < 0 ∨ 999999 < e.id ∨ (0 < e.id ∧ has s e.id = true) then 332
  else if (e.neq = false ∧ 12 ≤ s.eqs.length) ∨ (e.neq = true ∧ 12 ≤ s.neqs.length) ∨ (e.id = 0 ∧ 1000000 ≤ s.next) then 2
  else if fits e.p s.vars.length = true then 0 else 320
set_option maxHeartbeats 4000000 in
theorem checkAdd_spec (s : Sys) (hs : SW s) (e : Edt) (he : PW e.p) : funD (cxT pp) 134 [.agg (cSys s), .agg (cEdt e)] = some (.int .i64 (checkAdd s e)) := by
  have b1 := hs.eqs.1
  have b2 := hs.neqs.1
  have k1 := has_spec (pp := pp) s (by omega) (by omega) e.id
  have k2 := fits_spec (pp := pp) e.p he s.vars.length hs.vars
  rw [fun_134]
  unfold closedD bodyD checkAdd
  by_cases a1 : e.id < 0
  · simp [fn134, a1]
  · by_cases a2 : 999999 < e.id
    · simp [fn134, a1, a2]
    · by_cases a3 : 0 < e.id ∧ has s e.id = true
      · obtain ⟨a3, a4⟩ := a3
        simp [fn134, a1, a2, a3, a4, k1]
      · by_cases a5 : e.id = 0
        · have a6 : ¬ 0 < e.id := by omega
          cases hneq : e.neq
          · by_cases a7 : 12 ≤ s.eqs.length
            · have a7' : (12 : Int) ≤ s.eqs.length := by omega
              simp [fn134, a1, a2, a5, a6, k1, hneq, a7, a7']
            · have a7' : ¬ (12 : Int) ≤ s.eqs.length := by omega
              by_cases a8 : 1000000 ≤ s.next
              · simp [fn134, a1, a2, a5, a6, k1, hneq, a7, a7', a8]
              · cases a9 : fits e.p s.vars.length <;> simp [fn134, a1, a2, a5, a6, k1, hneq, a7, a7', a8, k2, a9]
          · by_cases a7 : 12 ≤ s.neqs.length
            · have a7' : (12 : Int) ≤ s.neqs.length := by omega
              simp [fn134, a1, a2, a5, a6, k1, hneq, a7, a7']
            · have a7' : ¬ (12 : Int) ≤ s.neqs.length := by omega
              by_cases a8 : 1000000 ≤ s.next
              · simp [fn134, a1, a2, a5, a6, k1, hneq, a7, a7', a8]
              · cases a9 : fits e.p s.vars.length <;> simp [fn134, a1, a2, a5, a6, k1, hneq, a7, a7', a8, k2, a9]
        · have a6 : 0 < e.id := by omega
          have a4 : has s e.id = false := by
            cases h : has s e.id
            · rfl
            · exact absurd ⟨a6, h⟩ a3
          cases hneq : e.neq
          · by_cases a7 : 12 ≤ s.eqs.length
            · have a7' : (12 : Int) ≤ s.eqs.length := by omega
              simp [fn134, a1, a2, a4, a5, a6, k1, hneq, a7, a7']
            · have a7' : ¬ (12 : Int) ≤ s.eqs.length := by omega
              cases a9 : fits e.p s.vars.length <;> simp [fn134, a1, a2, a4, a5, a6, k1, hneq, a7, a7', k2, a9]
          · by_cases a7 : 12 ≤ s.neqs.length
            · have a7' : (12 : Int) ≤ s.neqs.length := by omega
              simp [fn134, a1, a2, a4, a5, a6, k1, hneq, a7, a7']
            · have a7' : ¬ (12 : Int) ≤ s.neqs.length := by omega
              cases a9 : fits e.p s.vars.length <;> simp [fn134, a1, a2, a4, a5, a6, k1, hneq, a7, a7', k2, a9]

def checkId (s : Sys) (e : Edt) : Int :=
  if has s e.id = false then 332
  else if e.kind = 7 ∧ fits e.p s.vars.length = false then 320
  else if e.kind = 8 ∧ ((0 ≤ find s.eqs e.id ∧ 12 ≤ s.neqs.length) ∨ (¬ 0 ≤ find s.eqs e.id ∧ 12 ≤ s.eqs.length)) then 2 else 0
set_option maxHeartbeats 4000000 in
theorem checkId_spec (s : Sys) (hs : SW s) (e : Edt) (he : PW e.p) : funD (cxT pp) 135 [.agg (cSys s), .agg (cEdt e)] = some (.int .i64 (checkId s e)) := by
  have b1 := hs.eqs.1
  have b2 := hs.neqs.1
  have k1 := has_spec (pp := pp) s (by omega) (by omega) e.id
  have k2 := fits_spec (pp := pp) e.p he s.vars.length hs.vars
  have k3 := find_spec (pp := pp) s.eqs (by omega) e.id
  rw [fun_135]
  unfold closedD bodyD checkId
  cases a1 : has s e.id
  · simp [fn135, a1, k1]
  · by_cases a2 : e.kind = 7
    · cases a3 : fits e.p s.vars.length
      · simp [fn135, a1, k1, a2, k2, a3]
      · simp [fn135, a1, k1, a2, k2, a3, k3]
    · by_cases a4 : e.kind = 8
      · by_cases a5 : 0 ≤ find s.eqs e.id
        · by_cases a6 : 12 ≤ s.neqs.length
          · have a6' : (12 : Int) ≤ s.neqs.length := by omega
            simp [fn135, a1, k1, a2, k2, k3, a4, a5, a6, a6']
          · have a6' : ¬ (12 : Int) ≤ s.neqs.length := by omega
            simp [fn135, a1, k1, a2, k2, k3, a4, a5, a6, a6']
        · by_cases a6 : 12 ≤ s.eqs.length
          · have a6' : (12 : Int) ≤ s.eqs.length := by omega
            simp [fn135, a1, k1, a2, k2, k3, a4, a5, a6, a6']
          · have a6' : ¬ (12 : Int) ≤ s.eqs.length := by omega
            simp [fn135, a1, k1, a2, k2, k3, a4, a5, a6, a6']
      · simp [fn135, a1, k1, a2, k2, k3, a4]

/-! ### Check -/
def nameOK (b : ByteArray) : Bool :=
  match b.data.toList with
  | [] => false
  | c :: l => decide (l.length ≤ 11) && letter c.toNat && l.all fun c => letter c.toNat || (decide (48 ≤ c.toNat) && decide (c.toNat ≤ 57)) || decide (c.toNat = 95)
/-- Is a name's contract known? -/
def NameK (pp : Option PrimFn) (b : ByteArray) : Prop := funD (cxT pp) 76 [.str b] = some (.bool (nameOK b))
def check (s : Sys) (e : Edt) : Int :=
  if e.kind = 1 then (if 4 ≤ s.vars.length then 2 else if e.at_ < 0 ∨ (s.vars.length : Int) < e.at_ then 330 else if nameOK e.name = false ∨ 0 ≤ index s e.name then 331 else 0)
  else if e.kind = 2 then (if isV s e.at_ = false then 330 else if used s e.at_ = true then 333 else 0)
  else if e.kind = 3 then (if isV s e.at_ = false then 330 else if nameOK e.name = false ∨ (0 ≤ index s e.name ∧ ¬ index s e.name = e.at_) then 331 else 0)
  else if e.kind = 4 then (if isV s e.at_ = false ∨ isV s e.to = false then 330 else 0)
  else if e.kind = 5 then checkAdd s e
  else if e.kind = 6 ∨ e.kind = 7 ∨ e.kind = 8 then checkId s e
  else 1
set_option maxHeartbeats 4000000 in
theorem check_spec (s : Sys) (hs : SW s) (e : Edt) (he : PW e.p) (hn : NameK pp e.name) : funD (cxT pp) 67 [.agg (cSys s), .agg (cEdt e)] = some (.int .i64 (check s e)) := by
  have b0 := hs.vars
  have k1 := checkAdd_spec (pp := pp) s hs e he
  have k2 := checkId_spec (pp := pp) s hs e he
  have k3 := index_spec (pp := pp) s (by omega) e.name
  have k4 := is_spec (pp := pp) s e.at_
  have k5 := is_spec (pp := pp) s e.to
  unfold NameK at hn
  rw [fun_67]
  unfold closedD bodyD check
  by_cases a1 : e.kind = 1
  · by_cases a2 : 4 ≤ s.vars.length
    · have a2' : (4 : Int) ≤ s.vars.length := by omega
      simp [fn67, a1, a2, a2']
    · have a2' : ¬ (4 : Int) ≤ s.vars.length := by omega
      by_cases a3 : e.at_ < 0
      · simp [fn67, a1, a2, a2', a3]
      · by_cases a4 : (s.vars.length : Int) < e.at_
        · simp [fn67, a1, a2, a2', a3, a4]
        · cases a5 : nameOK e.name
          · simp [fn67, a1, a2, a2', a3, a4, hn, a5]
          · by_cases a6 : 0 ≤ index s e.name <;> simp [fn67, a1, a2, a2', a3, a4, hn, a5, k3, a6]
  · by_cases a2 : e.kind = 2
    · cases a3 : isV s e.at_
      · simp [fn67, a1, a2, k4, a3]
      · have a4 : 0 ≤ e.at_ ∧ e.at_ ≤ 4 := by
          simp [isV] at a3; omega
        have k6 := used_spec (pp := pp) s hs e.at_ a4.1 a4.2
        cases a5 : used s e.at_ <;> simp [fn67, a1, a2, k4, a3, k6, a5]
    · by_cases a3 : e.kind = 3
      · cases a4 : isV s e.at_
        · simp [fn67, a1, a2, a3, k4, a4]
        · cases a5 : nameOK e.name
          · simp [fn67, a1, a2, a3, k4, a4, k3, hn, a5]
          · by_cases a6 : 0 ≤ index s e.name
            · by_cases a7 : index s e.name = e.at_
              · have a8 : 0 ≤ e.at_ := by omega
                simp [fn67, a1, a2, a3, k4, a4, k3, hn, a5, a7, a8]
              · simp [fn67, a1, a2, a3, k4, a4, k3, hn, a5, a6, a7]
            · simp [fn67, a1, a2, a3, k4, a4, k3, hn, a5, a6]
      · by_cases a4 : e.kind = 4
        · cases a5 : isV s e.at_
          · simp [fn67, a1, a2, a3, a4, k4, a5]
          · cases a6 : isV s e.to <;> simp [fn67, a1, a2, a3, a4, k4, k5, a5, a6]
        · by_cases a5 : e.kind = 5
          · simp [fn67, a1, a2, a3, a4, a5, k1]
            simp [a5] at k1
            simp [k1]
          · by_cases a6 : e.kind = 6
            · simp [a6] at k2
              simp [fn67, a1, a2, a3, a4, a5, a6, k2]
            · by_cases a7 : e.kind = 7
              · simp [a7] at k2
                simp [fn67, a1, a2, a3, a4, a5, a6, a7, k2]
              · by_cases a8 : e.kind = 8
                · simp [a8] at k2
                  simp [fn67, a1, a2, a3, a4, a5, a6, a7, a8, k2]
                · simp [fn67, a1, a2, a3, a4, a5, a6, a7, a8]
end Go.Va
end
section
open Go.Proofs
namespace Go.Va
variable {pp : Option PrimFn}

/-! ### Permute -/
def permG (acc : List Int) (x : Int × Int) : List Int := acc.set x.1.toNat x.2
theorem permG_len : ∀ (l : List (Int × Int)) (acc : List Int), (l.foldl permG acc).length = acc.length
  | [], _ => rfl
  | x :: l, acc => by rw [List.foldl_cons, permG_len l]; simp [permG]
/-- The monomial in which the variable i is at pm[i]. -/
def permM (pm m : Mono) : Mono := ⟨(pm.l.zip m.l).foldl permG mono1.l, by rw [permG_len]; rfl⟩
def permT (pm : Mono) (out : Poly) (t : Term) : Poly := padd out [⟨t.c, permM pm t.m⟩]
def permute (pm : Mono) (p : Poly) : Poly := p.foldl (permT pm) []
/-- No two terms fall together. -/
def Apart (pm : Mono) (p : Poly) : Prop := ∀ i t rest, p.drop i = t :: rest → ∀ a ∈ (p.take i).foldl (permT pm) [], mcmp a.m (permM pm t.m) ≠ 0

theorem ints_set {l : List Int} {n : Nat} {v : Int} (h : n < l.length) : ints (l.set n v) = ints (l.take n) ++ .int .i64 v :: ints (l.drop (n + 1)) := by
  rw [List.set_eq_take_append_cons_drop, if_pos h]; simp

set_option maxHeartbeats 1000000 in
theorem perm_inner (pm : Mono) (hpm : ∀ x ∈ pm.l, 0 ≤ x ∧ x < 8) (p : Poly) (k : Nat) (t : Term) (rest : Poly) (hk : p.drop k = t :: rest) (e6 : AV) (g13 : HE) (s : St)
    (h : (∃ v, s.env 8 = .ptr ⟨0, 8⟩ v 0 ∧ s.h.get ⟨0, 8⟩ = ⟨v, false, some (.cells ((ints mono1.l).map .p))⟩) ∧ s.env 9 = .p (.int .i64 0) ∧
      (s.env 0 = .p (poly p) ∧ s.env 7 = .p (.int .i64 k) ∧ s.env 3 = .ptr ⟨0, 3⟩ 1 0 ∧ s.h.get ⟨0, 3⟩ = ⟨1, false, some (.cells ((ints pm.l).map .p))⟩ ∧ s.env 6 = e6 ∧ s.h.get ⟨0, 13⟩ = g13)) :
    ∃ a, codeD (cxT pp) 0 (.loop c136_0) s = some a ∧ a.1 = .ex 2 ∧ (∃ v, a.2.env 8 = .ptr ⟨0, 8⟩ v 0 ∧ a.2.h.get ⟨0, 8⟩ = ⟨v, false, some (.cells ((ints (permM pm t.m).l).map .p))⟩) ∧
      (a.2.env 0 = .p (poly p) ∧ a.2.env 7 = .p (.int .i64 k) ∧ a.2.env 3 = .ptr ⟨0, 3⟩ 1 0 ∧ a.2.h.get ⟨0, 3⟩ = ⟨1, false, some (.cells ((ints pm.l).map .p))⟩ ∧ a.2.env 6 = e6 ∧ a.2.h.get ⟨0, 13⟩ = g13) := by
  have hkl := drop_lt hk
  have hle : (pm.l.zip t.m.l).length = 8 := by simp
  have := loop_fold (cx := cxT pp) (d := 0) (c := c136_0) (pm.l.zip t.m.l) permG
    (fun i acc s => acc.length = 8 ∧ (∃ v, s.env 8 = .ptr ⟨0, 8⟩ v 0 ∧ s.h.get ⟨0, 8⟩ = ⟨v, false, some (.cells ((ints acc).map .p))⟩) ∧ s.env 9 = .p (.int .i64 i) ∧
      (s.env 0 = .p (poly p) ∧ s.env 7 = .p (.int .i64 k) ∧ s.env 3 = .ptr ⟨0, 3⟩ 1 0 ∧ s.h.get ⟨0, 3⟩ = ⟨1, false, some (.cells ((ints pm.l).map .p))⟩ ∧ s.env 6 = e6 ∧ s.h.get ⟨0, 13⟩ = g13)) (.ex 2) (by simp)
    (by
      rintro i acc ⟨env, h⟩ ⟨x, y⟩ rst hi hx1 hd ⟨hal, ⟨v, h8, g8⟩, h9, h0, h7, h3, g3, h6, hg13⟩
      simp only at h8 g8 h9 h0 h7 h3 g3 h6 hg13
      rw [hle] at hi
      have hw := inc_id hi (by omega)
      obtain ⟨ra, rb, da, db⟩ := zip_drop' hd
      have hx := hpm x (mem_drop da)
      have hi8 : (i : Int) < 8 := by omega
      have hi1 : i + 1 ≤ 8 := by omega
      have hxn : x.toNat < 8 := by omega
      have hxn1 : x.toNat + 1 ≤ 8 := by omega
      have hset := ints_set (v := y) (show x.toNat < acc.length by omega)
      have hdrop : (ints t.m.l ++ rest.flatMap cTerm).drop i = .int .i64 y :: (ints rb ++ rest.flatMap cTerm) := by
        rw [List.drop_append_of_le_length (by simp; omega), ints_drop, db]; rfl
      simp [-Prod.exists, c136_0, h8, g8, h9, h0, h7, h3, g3, h6, hg13, hi, hi8, hi1, hw, hk, hkl, da, cTerm, hdrop, hx, hxn, hxn1, hal, permG, hset])
    (by
      rintro acc ⟨env, h⟩ ⟨hal, ⟨v, h8, g8⟩, h9, h0, h7, h3, g3, h6, hg13⟩
      rw [hle] at h9
      simp only at h8 g8 h9 h0 h7 h3 g3 h6 hg13
      simp [-Prod.exists, c136_0, h8, g8, h9, h0, h7, h3, g3, h6, hg13, hal, hle])
    mono1.l s (by
      obtain ⟨⟨v, h8, g8⟩, h9, hrest⟩ := h
      exact ⟨rfl, ⟨v, h8, g8⟩, by simpa using h9, hrest⟩)
  obtain ⟨a, q1, q2, -, ⟨v, q3, q4⟩, -, q5⟩ := this
  exact ⟨a, q1, q2, ⟨v, q3, q4⟩, q5⟩

def Out6 (s : St) (out : Poly) : Prop := s.env 6 = .p (poly out) ∨ (out = [] ∧ s.env 6 = .ref ⟨0, 13⟩ 1 0 0 12 false ∧ s.h.get ⟨0, 13⟩ = ⟨1, false, some (.cells [])⟩)

set_option maxHeartbeats 2000000 in
theorem permute_spec (pm : Mono) (hpm : IsPerm pm.l) (hr : ∀ x ∈ pm.l, 0 ≤ x ∧ x < 8) (p : Poly) (hp : Apart pm p) (hl : p.length < 2 ^ 20) :
    funD (cxT pp) 136 [poly p, .agg (ints pm.l)] = some (.tup [poly (permute pm p), .int .i64 0]) := by
  have kp := isperm_spec (pp := pp) hpm
  have loop := loop_foldI (cx := cxT pp) (d := 0) (c := c136_1) p (fun _ => permT pm)
    (fun i out s => (out = (p.take i).foldl (permT pm) [] ∧ out.length ≤ i) ∧ Out6 s out ∧ (s.env 0 = .p (poly p) ∧ s.env 7 = .p (.int .i64 i) ∧ s.env 3 = .ptr ⟨0, 3⟩ 1 0 ∧ s.h.get ⟨0, 3⟩ = ⟨1, false, some (.cells ((ints pm.l).map .p))⟩)) (.ex 0) (by simp)
    (by
      rintro i out ⟨env, h⟩ t rest hi hx1 hd ⟨⟨hout0, hol⟩, hout, h0, h7, h3, g3⟩
      simp only at h0 h7 h3 g3
      have hw := inc_id hi (by omega)
      have inner := fun e6 g13 s => perm_inner (pp := pp) pm hr p i t rest hd e6 g13 s
      have ka := r6add_spec (pp := pp) out [⟨t.c, permM pm t.m⟩] (by
        intro a ha b hb hab
        simp at hb
        subst hb
        rw [hout0] at ha
        exact absurd hab (hp i t rest hd a ha)) (by omega) (by simp)
      have hol2 : (permT pm out t).length ≤ i + 1 := by
        have h1 := padd_len out [⟨t.c, permM pm t.m⟩]
        simp at h1
        unfold permT
        omega
      have hout2 : permT pm out t = (p.take (i + 1)).foldl (permT pm) [] := by
        rw [List.take_add_one, hx1, List.foldl_append, ← hout0]; rfl
      have hpt : padd out [⟨t.c, permM pm t.m⟩] = permT pm out t := rfl
      rw [hpt] at ka
      simp [cTerm] at ka
      generalize permT pm out t = O2 at *
      simp [-Prod.exists, c136_1, h0, h7, h3, g3, hi]
      generalize hX : codeD (cxT pp) 0 (ACode.loop c136_0) _ = X
      rcases hout with hout | ⟨rfl, hout, hg13⟩
      · simp only at hout
        obtain ⟨e, env', h', rfl, q⟩ := at_code hX (inner (.p (poly out)) (h.get ⟨0, 13⟩) _ (by simp [h0, h7, h3, g3, hout, mono1]))
        simp only at q
        obtain ⟨rfl, ⟨v, q1, q2⟩, q3, q4, q5, q6, q7, q8⟩ := q
        simp [-Prod.exists, q1, q2, q3, q4, q5, q6, q7, q8, hi, hd, cTerm, ka, hw, ← hout2, hol2, Out6]
      · simp only at hout hg13
        obtain ⟨e, env', h', rfl, q⟩ := at_code hX (inner (.ref ⟨0, 13⟩ 1 0 0 12 false) ⟨1, false, some (.cells [])⟩ _ (by simp [h0, h7, h3, g3, hout, hg13, mono1]))
        simp only at q
        obtain ⟨rfl, ⟨v, q1, q2⟩, q3, q4, q5, q6, q7, q8⟩ := q
        simp at ka
        simp [-Prod.exists, q1, q2, q3, q4, q5, q6, q7, q8, hi, hd, cTerm, ka, hw, ← hout2, hol2, Out6])
    (by
      rintro out ⟨env, h⟩ ⟨⟨hout0, hol⟩, hout, h0, h7, h3, g3⟩
      simp only at h0 h7 h3 g3
      simp [-Prod.exists, c136_1, h0, h7, h3, g3, hol]
      refine ⟨by simpa using hout0, ?_⟩
      simpa [Out6] using hout)
  have hf : ∀ (l : Poly) (i : Nat) (a : Poly), foldI (fun _ => permT pm) l i a = l.foldl (permT pm) a := by
    intro l; induction l with
    | nil => intro i a; rfl
    | cons x l ih => intro i a; simp [foldI, ih]
  rw [fun_136]
  unfold closedD bodyD permute
  simp [fn136, kp]
  generalize hX : codeD (cxT pp) 0 (ACode.loop c136_1) _ = X
  obtain ⟨e, env, h, rfl, q⟩ := at_code hX (loop [] _ (by simp [Out6]))
  rw [hf] at q
  simp only at q
  obtain ⟨rfl, -, q, -⟩ := q
  rcases q with q | ⟨q1, q2, q3⟩
  · simp only at q
    simp [q]
  · simp only at q2 q3
    simp [q1, q2, q3]

/-! ### moved -/
def movedE (pm : Mono) (e : Eqn) : Eqn := ⟨e.id, permute pm e.p⟩
def moved (pm : Mono) (l : List Eqn) : List Eqn := l.map (movedE pm)
theorem moved_fold (pm : Mono) : ∀ (l out : List Eqn), l.foldl (fun out e => out ++ [movedE pm e]) out = out ++ moved pm l
  | [], _ => by simp [moved]
  | e :: l, out => by simp [moved_fold pm l, moved]
theorem moved_spec (pm : Mono) (hpm : IsPerm pm.l) (hr : ∀ x ∈ pm.l, 0 ≤ x ∧ x < 8) (l : List Eqn) (hl : l.length < 2 ^ 20) (hp : ∀ e ∈ l, Apart pm e.p ∧ e.p.length < 2 ^ 20) :
    funD (cxT pp) 68 [sl cEqn l, .agg (ints pm.l)] = some (sl cEqn (moved pm l)) := by
  have loop := loop_fold (cx := cxT pp) (d := 0) (c := c68_0) l (fun out e => out ++ [movedE pm e])
    (fun i (out : List Eqn) s => out.length = i ∧ Row s 5 ⟨0, 9⟩ 2 out.length (out.flatMap cEqn) ∧ s.env 0 = .p (sl cEqn l) ∧ s.env 6 = .p (.int .i64 i) ∧ s.env 3 = .ptr ⟨0, 3⟩ 1 0 ∧ s.h.get ⟨0, 3⟩ = ⟨1, false, some (.cells ((ints pm.l).map .p))⟩) (.ex 0) (by simp)
    (by
      rintro i out ⟨env, h⟩ x rest hi hx hd ⟨rfl, ⟨v, h5, g5⟩, h0, h6, h3, g3⟩
      simp only at h5 g5 h0 h6 h3 g3
      have hw := inc_id hi (by omega)
      have hr2 := @roomy_ok (out.length + 1) 32 (by omega) (by decide)
      obtain ⟨p1, p2⟩ := hp x (mem_drop hd)
      have k := permute_spec (pp := pp) pm hpm hr x.p p1 p2
      simp [-Prod.exists, c68_0, h5, g5, h0, h6, h3, g3, hi, hd, cEqn, hw, hr2, k, Row, movedE])
    (by
      rintro out ⟨env, h⟩ ⟨hle, ⟨v, h5, g5⟩, h0, h6, h3, g3⟩
      simp only at h5 g5 h0 h6 h3 g3
      simp [-Prod.exists, c68_0, h5, g5, h0, h6, h3, g3, Row, hle])
  rw [fun_68]
  unfold closedD bodyD
  simp [fn68]
  generalize hx : codeD (cxT pp) 0 (ACode.loop c68_0) _ = X
  obtain ⟨e, env, h, rfl, q⟩ := at_code hx (loop [] _ (by simp [Row]))
  simp only at q
  obtain ⟨rfl, -, ⟨v, q2, q3⟩, -⟩ := q
  rw [moved_fold] at q2 q3
  simp only [List.nil_append] at q2 q3
  simp [q2, frz_row q3]
end Go.Va
end
section
open Go.Proofs
namespace Go.Va
variable {pp : Option PrimFn}

/-! ### The equation with an Id -/
def getE (l : List Eqn) (id : Int) : Eqn := (l.find? fun x => decide (x.id = id)).getD ⟨0, []⟩
theorem findL_get (id : Int) : ∀ (l : List Eqn) (i : Nat) (z : Int), findL (fun i (x : Eqn) => if x.id = id then some (i : Int) else none) l i = some z → ∃ k r, z = ((i + k : Nat) : Int) ∧ l.drop k = getE l id :: r
  | [], _, _, h => by simp [findL] at h
  | x :: l, i, z, h => by
    unfold findL at h
    by_cases hx : x.id = id
    · simp [hx] at h
      exact ⟨0, l, by simpa using h.symm, by simp [getE, hx]⟩
    · simp [hx] at h
      obtain ⟨k, r, h1, h2⟩ := findL_get id l (i + 1) z h
      exact ⟨k + 1, r, by omega, by simpa [getE, hx] using h2⟩
theorem find_get {l : List Eqn} {id : Int} (h : 0 ≤ find l id) : ∃ r, l.drop (find l id).toNat = getE l id :: r := by
  unfold find at h ⊢
  cases hf : findL (fun i (x : Eqn) => if x.id = id then some (i : Int) else none) l 0 with
  | none => rw [hf] at h; simp at h
  | some z =>
    obtain ⟨k, r, h1, h2⟩ := findL_get id l 0 z hf
    subst h1
    exact ⟨r, by simpa using h2⟩

/-! ### equations -/
def eqnsAdd (s : Sys) (e : Edt) : Sys :=
  if e.neq = true then { s with neqs := put s.neqs ⟨if e.id = 0 then s.next else e.id, e.p⟩, next := max s.next ((if e.id = 0 then s.next else e.id) + 1) }
  else { s with eqs := put s.eqs ⟨if e.id = 0 then s.next else e.id, e.p⟩, next := max s.next ((if e.id = 0 then s.next else e.id) + 1) }
def eqnsSet (s : Sys) (e : Edt) : Sys := if 0 ≤ find s.eqs e.id then { s with eqs := put s.eqs ⟨e.id, e.p⟩ } else { s with neqs := put s.neqs ⟨e.id, e.p⟩ }
def eqnsFlip (s : Sys) (e : Edt) : Sys :=
  if 0 ≤ find s.eqs e.id then { s with eqs := drop s.eqs e.id, neqs := put s.neqs (getE s.eqs e.id) } else { s with eqs := put s.eqs (getE s.neqs e.id), neqs := drop s.neqs e.id }
/-- The system after an edit of equations. -/
def equations (s : Sys) (e : Edt) : Sys :=
  if e.kind = 5 then eqnsAdd s e
  else if e.kind = 6 then { s with eqs := drop s.eqs e.id, neqs := drop s.neqs e.id }
  else if e.kind = 7 then eqnsSet s e
  else eqnsFlip s e
@[simp] theorem cEqn_flat (x : Eqn) : cEqn x = [.int .i64 x.id, .frz .any x.p.length (x.p.flatMap cTerm)] := rfl
set_option maxHeartbeats 4000000 in
theorem equations_spec (s : Sys) (hs : SW s) (e : Edt) (hk : e.kind = 5 ∨ e.kind = 6 ∨ e.kind = 7 ∨ e.kind = 8) (hh : e.kind = 8 → has s e.id = true) (hid : e.kind = 5 → 0 ≤ e.id ∧ e.id ≤ 1000000) :
    funD (cxT pp) 70 [.agg (cSys s), .agg (cEdt e)] = some (.agg (cSys (equations s e))) := by
  have b1 := hs.eqs.1
  have b2 := hs.neqs.1
  have b3 := hs.lo
  have b4 := hs.hi
  have k1 := find_spec (pp := pp) s.eqs (by omega) e.id
  have k2 := find_spec (pp := pp) s.neqs (by omega) e.id
  have k3 := drop_spec (pp := pp) s.eqs (by omega) e.id
  have k4 := drop_spec (pp := pp) s.neqs (by omega) e.id
  have p1 := fun x => put_spec (pp := pp) s.eqs (by omega) x
  have p2 := fun x => put_spec (pp := pp) s.neqs (by omega) x
  have w1 : IntKind.i64.wrap (s.next + 1) = s.next + 1 := by rw [i64_id] <;> omega
  simp at p1 p2
  rw [fun_70]
  unfold closedD bodyD equations
  rcases hk with hk | hk | hk | hk
  · have hid := hid hk
    have w2 : IntKind.i64.wrap (e.id + 1) = e.id + 1 := by rw [i64_id] <;> omega
    by_cases a1 : e.id = 0
    · have m1 : max s.next (s.next + 1) = s.next + 1 := by omega
      have p1' := p1 ⟨s.next, e.p⟩
      have p2' := p2 ⟨s.next, e.p⟩
      simp [a1] at k1 k2
      cases a2 : e.neq
      · simp [fn70, hk, k1, k2, a1, a2, w1, m1, p1', eqnsAdd]
        omega
      · simp [fn70, hk, k1, k2, a1, a2, w1, m1, p2', eqnsAdd]
        omega
    · have p1' := p1 ⟨e.id, e.p⟩
      have p2' := p2 ⟨e.id, e.p⟩
      by_cases a3 : s.next < e.id + 1
      · have m1 : max s.next (e.id + 1) = e.id + 1 := by omega
        cases a2 : e.neq
        · simp [fn70, hk, k1, k2, a1, a2, a3, w2, m1, p1', eqnsAdd]
        · simp [fn70, hk, k1, k2, a1, a2, a3, w2, m1, p2', eqnsAdd]
      · have m1 : max s.next (e.id + 1) = s.next := by omega
        cases a2 : e.neq
        · simp [fn70, hk, k1, k2, a1, a2, a3, w2, m1, p1', eqnsAdd]
        · simp [fn70, hk, k1, k2, a1, a2, a3, w2, m1, p2', eqnsAdd]
  · simp [fn70, hk, k1, k2, k3, k4]
  · have p1' := p1 ⟨e.id, e.p⟩
    have p2' := p2 ⟨e.id, e.p⟩
    by_cases a1 : 0 ≤ find s.eqs e.id
    · simp [fn70, hk, k1, k2, a1, p1', eqnsSet]
    · simp [fn70, hk, k1, k2, a1, p2', eqnsSet]
  · by_cases a1 : 0 ≤ find s.eqs e.id
    · obtain ⟨r, hr⟩ := find_get a1
      have hl := drop_lt hr
      have hl' : find s.eqs e.id < s.eqs.length := by omega
      have p2' := p2 (getE s.eqs e.id)
      simp [fn70, hk, k1, k2, k3, k4, a1, hl', hr, p2', eqnsFlip]
    · have a2 : 0 ≤ find s.neqs e.id := by
        have := hh hk
        simp [has] at this
        omega
      obtain ⟨r, hr⟩ := find_get a2
      have hl := drop_lt hr
      have hl' : find s.neqs e.id < s.neqs.length := by omega
      have p1' := p1 (getE s.neqs e.id)
      simp [fn70, hk, k1, k2, k3, k4, a1, a2, hl', hr, p1', eqnsFlip]

/-! ### Apply -/
def rotM (a b : Int) : Mono := ⟨rotL a b, rfl⟩
def swpM (a b : Int) : Mono := ⟨swpL a b, rfl⟩
def vAt (s : Sys) (i : Int) : ByteArray := s.vars.getD i.toNat ⟨#[]⟩
def applyV (s : Sys) (e : Edt) : Sys :=
  if e.kind = 1 then ⟨s.vars.take e.at_.toNat ++ [e.name] ++ s.vars.drop e.at_.toNat, moved (rotM s.vars.length e.at_) s.eqs, moved (rotM s.vars.length e.at_) s.neqs, s.next⟩
  else if e.kind = 2 then ⟨s.vars.take e.at_.toNat ++ s.vars.drop (e.at_.toNat + 1), moved (rotM e.at_ (s.vars.length - 1)) s.eqs, moved (rotM e.at_ (s.vars.length - 1)) s.neqs, s.next⟩
  else if e.kind = 3 then { s with vars := s.vars.set e.at_.toNat e.name }
  else if e.kind = 4 then ⟨(s.vars.set e.at_.toNat (vAt s e.to)).set e.to.toNat (vAt s e.at_), moved (swpM e.at_ e.to) s.eqs, moved (swpM e.at_ e.to) s.neqs, s.next⟩
  else equations s e
/-- The system after an edit, or the empty one; and the error. -/
def apply (s : Sys) (e : Edt) : Sys × Int := if check s e = 0 then (applyV s e, 0) else (sys0, check s e)

theorem isPerm_rot {a b : Int} (ha : 0 ≤ a ∧ a ≤ 4) (hb : 0 ≤ b ∧ b ≤ 4) : IsPerm (rotL a b) := ⟨a, b, ha, hb, .inl rfl⟩
theorem isPerm_swp {a b : Int} (ha : 0 ≤ a ∧ a ≤ 4) (hb : 0 ≤ b ∧ b ≤ 4) : IsPerm (swpL a b) := ⟨a, b, ha, hb, .inr rfl⟩
theorem range_all : (nat4.all fun a => nat4.all fun b => (rotL a b ++ swpL a b).all fun x => decide (0 ≤ x ∧ x < 8)) = true := by decide
theorem isPerm_range {l : List Int} (h : IsPerm l) : ∀ x ∈ l, 0 ≤ x ∧ x < 8 := by
  obtain ⟨a, b, ha, hb, h⟩ := h
  intro x hx
  have := List.all_eq_true.1 (List.all_eq_true.1 (List.all_eq_true.1 range_all a (mem_nat4 ha.1 ha.2)) b (mem_nat4 hb.1 hb.2)) x (by
    rw [List.mem_append]; rcases h with rfl | rfl
    · exact .inl hx
    · exact .inr hx)
  simpa using this
theorem swp_all : (nat4.all fun a => nat4.all fun b => decide (((rotL 0 0).set a.toNat b).set b.toNat a = swpL a b)) = true := by decide
theorem swp_set {a b : Int} (ha : 0 ≤ a ∧ a ≤ 4) (hb : 0 ≤ b ∧ b ≤ 4) : ((rotL 0 0).set a.toNat b).set b.toNat a = swpL a b := by
  have := List.all_eq_true.1 (List.all_eq_true.1 swp_all a (mem_nat4 ha.1 ha.2)) b (mem_nat4 hb.1 hb.2)
  simpa using this

@[simp] theorem rotL_len (a b : Int) : (rotL a b).length = 8 := rfl
@[simp] theorem swpL_len (a b : Int) : (swpL a b).length = 8 := rfl
/-- All polynomials stay apart under the permutations that occur. -/
def SA (s : Sys) : Prop := ∀ pm : Mono, IsPerm pm.l → ∀ x ∈ s.eqs ++ s.neqs, Apart pm x.p
theorem moved_ok {s : Sys} (hs : SW s) (ha : SA s) (pm : Mono) (hpm : IsPerm pm.l) :
    funD (cxT pp) 68 [sl cEqn s.eqs, .agg (ints pm.l)] = some (sl cEqn (moved pm s.eqs)) ∧ funD (cxT pp) 68 [sl cEqn s.neqs, .agg (ints pm.l)] = some (sl cEqn (moved pm s.neqs)) :=
  ⟨moved_spec pm hpm (isPerm_range hpm) s.eqs (by have := hs.eqs.1; omega) (fun e he => ⟨ha pm hpm e (by simp [he]), (hs.eqs.2 e he).2.2⟩),
   moved_spec pm hpm (isPerm_range hpm) s.neqs (by have := hs.neqs.1; omega) (fun e he => ⟨ha pm hpm e (by simp [he]), (hs.neqs.2 e he).2.2⟩)⟩
theorem strs_set {l : List ByteArray} {n : Nat} {v : ByteArray} (h : n < l.length) : strs (l.set n v) = strs (l.take n) ++ .str v :: strs (l.drop (n + 1)) := by
  rw [List.set_eq_take_append_cons_drop, if_pos h]; simp
theorem vAt_drop {s : Sys} {i : Int} (h : isV s i = true) : s.vars.drop i.toNat = vAt s i :: s.vars.drop (i.toNat + 1) := by
  simp [isV] at h
  have hl : i.toNat < s.vars.length := by omega
  rw [List.drop_eq_getElem_cons hl]
  simp [vAt, List.getD_eq_getElem?_getD, hl]
@[simp high] theorem pstrs_drop (l : List ByteArray) (i : Nat) : ((strs l).map AV.p).drop i = (strs (l.drop i)).map AV.p := by simp [strs, List.map_drop]
@[simp high] theorem pstrs_take (l : List ByteArray) (i : Nat) : ((strs l).map AV.p).take i = (strs (l.take i)).map AV.p := by simp [strs, List.map_take]

theorem pints_set {l : List Int} {n : Nat} {v : Int} (h : n < l.length) : (ints (l.take n)).map AV.p ++ AV.p (.int .i64 v) :: (ints (l.drop (n + 1))).map AV.p = (ints (l.set n v)).map AV.p := by
  rw [ints_set h]; simp
theorem pstrs_set {l : List ByteArray} {n : Nat} {v : ByteArray} (h : n < l.length) : (strs (l.take n)).map AV.p ++ AV.p (.str v) :: (strs (l.drop (n + 1))).map AV.p = (strs (l.set n v)).map AV.p := by
  rw [strs_set h]; simp
set_option maxHeartbeats 4000000 in
theorem apply1_spec (s : Sys) (hs : SW s) (ha : SA s) (e : Edt) (he : PW e.p) (hn : NameK pp e.name) (hk : e.kind = 1) :
    funD (cxT pp) 21 [.agg (cSys s), .agg (cEdt e)] = some (.tup [.agg (cSys (apply s e).1), .int .i64 (apply s e).2]) := by
  have b0 := hs.vars
  have kc := check_spec (pp := pp) s hs e he hn
  rw [fun_21]
  unfold closedD bodyD apply
  by_cases c0 : check s e = 0
  · have hr0 := @roomy_ok s.vars.length 16 (by omega) (by decide)
    have ca : 0 ≤ e.at_ ∧ e.at_ ≤ s.vars.length ∧ s.vars.length < 4 := by
      simp [check, hk] at c0
      split at c0
      · simp at c0
      · split at c0
        · simp at c0
        · omega
    obtain ⟨m1, m2⟩ := moved_ok (pp := pp) hs ha (rotM s.vars.length e.at_) (isPerm_rot (by omega) (by omega))
    have kr := rotated_spec (pp := pp) s.vars.length e.at_ (by omega) (by omega)
    have hr1 := @roomy_ok e.at_.toNat 16 (by omega) (by decide)
    have hr2 := @roomy_ok (e.at_.toNat + 1) 16 (by omega) (by decide)
    have hr3 := @roomy_ok (e.at_.toNat + 1 + (s.vars.length - e.at_.toNat)) 16 (by omega) (by decide)
    simp [hk] at kc
    simp [rotM] at m1 m2
    have t1 : e.at_.toNat ≤ s.vars.length := by omega
    have hmx : max e.at_ 0 = e.at_ := by omega
    have hmx2 : min e.at_.toNat s.vars.length = e.at_.toNat := by omega
    have hz0 : roomy 0 16 = true := by decide
    have hz1 : roomy 1 16 = true := by decide
    by_cases hA : s.vars.length = 0
    · have hv : s.vars = [] := List.eq_nil_of_length_eq_zero hA
      have hB : e.at_ = 0 := by omega
      simp [hB, hv] at kc m1 m2 kr
      simp [fn21, kc, c0, hk, hr1, Fl.tight, hz0, hz1, hv, hB, m1, m2, kr, applyV, rotM]
    · have hr4 := @roomy_ok (1 + s.vars.length) 16 (by omega) (by decide)
      have hr5 := @roomy_ok (s.vars.length + 1) 16 (by omega) (by decide)
      have hr6 := @roomy_ok (e.at_.toNat + (s.vars.length - e.at_.toNat + 1)) 16 (by omega) (by decide)
      have hq : e.at_.toNat + 1 + (s.vars.length - e.at_.toNat) = e.at_.toNat + (s.vars.length - e.at_.toNat + 1) := by omega
      have hq2 : 1 + s.vars.length = s.vars.length + 1 := by omega
      by_cases hB : e.at_ = 0
      · have hp : ¬ s.vars = [] := fun h => hA (by rw [h]; rfl)
        simp [hB] at kc m1 m2 kr
        simp [fn21, kc, c0, hk, hr0, hr1, hr2, hr3, hr4, hr5, hmx, hmx2, Fl.tight, hz0, hz1, m1, m2, kr, applyV, rotM, hA, hB, hq2, hp]
      · have hB' : ¬ e.at_.toNat = 0 := by omega
        by_cases hC : s.vars.length - e.at_.toNat = 0
        · have hd : s.vars.drop e.at_.toNat = [] := List.drop_eq_nil_of_le (by omega)
          simp [fn21, kc, c0, hk, hr0, hr1, hr2, hr3, hmx, hmx2, Fl.tight, hz0, hz1, ca.1, ca.2, t1, m1, m2, kr, applyV, rotM, hA, hB', hC, hd]
        · simp [fn21, kc, c0, hk, hr0, hr1, hr2, hr3, hmx, hmx2, Fl.tight, hz0, hz1, ca.1, ca.2, t1, m1, m2, kr, applyV, rotM, hA, hB', hC, hq, hr6]
  · simp [fn21, kc, c0, sys0]

set_option maxHeartbeats 4000000 in
theorem apply2_spec (s : Sys) (hs : SW s) (ha : SA s) (e : Edt) (he : PW e.p) (hn : NameK pp e.name) (hk : e.kind = 2) :
    funD (cxT pp) 21 [.agg (cSys s), .agg (cEdt e)] = some (.tup [.agg (cSys (apply s e).1), .int .i64 (apply s e).2]) := by
  have b0 := hs.vars
  have kc := check_spec (pp := pp) s hs e he hn
  rw [fun_21]
  unfold closedD bodyD apply
  by_cases c0 : check s e = 0
  · have ca : 0 ≤ e.at_ ∧ e.at_ < s.vars.length := by
      simp [check, hk] at c0
      split at c0
      · simp at c0
      · rename_i h; simp [isV] at h; omega
    have hr0 := @roomy_ok s.vars.length 16 (by omega) (by decide)
    obtain ⟨m1, m2⟩ := moved_ok (pp := pp) hs ha (rotM e.at_ (s.vars.length - 1)) (isPerm_rot (by omega) (by omega))
    have kr := rotated_spec (pp := pp) e.at_ (s.vars.length - 1) (by omega) (by omega)
    have hw1 : IntKind.i64.wrap ((s.vars.length : Int) - 1) = (s.vars.length : Int) - 1 := by rw [i64_id] <;> omega
    have hw2 : IntKind.i64.wrap (e.at_ + 1) = e.at_ + 1 := by rw [i64_id] <;> omega
    have hr1 := @roomy_ok e.at_.toNat 16 (by omega) (by decide)
    have hr2 := @roomy_ok (s.vars.length - (e.at_.toNat + 1)) 16 (by omega) (by decide)
    have hr3 := @roomy_ok (e.at_.toNat + (s.vars.length - (e.at_.toNat + 1))) 16 (by omega) (by decide)
    have hmx : max e.at_ 0 = e.at_ := by omega
    have hmx2 : min e.at_.toNat s.vars.length = e.at_.toNat := by omega
    have hz0 : roomy 0 16 = true := by decide
    have hA : ¬ s.vars.length = 0 := by omega
    have hp : ¬ s.vars = [] := fun h => hA (by rw [h]; rfl)
    have t1 : e.at_.toNat ≤ s.vars.length := by omega
    have t2 : e.at_ ≤ s.vars.length := by omega
    have t3 : e.at_ + 1 ≤ s.vars.length := by omega
    have t4 : e.at_.toNat + 1 ≤ s.vars.length := by omega
    have t5 : (e.at_ + 1).toNat = e.at_.toNat + 1 := by omega
    have t6 : 0 ≤ e.at_ + 1 := by omega
    simp [hk] at kc
    simp [rotM] at m1 m2
    by_cases hB : e.at_ = 0
    · simp [hB] at kc m1 m2 kr
      have hw3 : IntKind.i64.wrap 1 = 1 := by rw [i64_id] <;> omega
      have hr4 := @roomy_ok (s.vars.length - 1) 16 (by omega) (by decide)
      have u1 : 1 ≤ s.vars.length := by omega
      have u2 : (1 : Int) ≤ s.vars.length := by omega
      by_cases hC : s.vars.length - 1 = 0
      · have hd : s.vars.drop 1 = [] := List.drop_eq_nil_of_le (by omega)
        simp [fn21, kc, c0, hk, hr0, hr1, hr2, hr3, hr4, hmx, hmx2, Fl.tight, hz0, m1, m2, kr, hw1, hw2, hw3, applyV, rotM, hA, hB, hC, hp, hd, u1, u2]
      · simp [fn21, kc, c0, hk, hr0, hr1, hr2, hr3, hr4, hmx, hmx2, Fl.tight, hz0, m1, m2, kr, hw1, hw2, hw3, applyV, rotM, hA, hB, hC, hp, u1, u2]
    · have hB' : ¬ e.at_.toNat = 0 := by omega
      by_cases hC : s.vars.length - (e.at_.toNat + 1) = 0
      · have hd : s.vars.drop (e.at_.toNat + 1) = [] := List.drop_eq_nil_of_le (by omega)
        simp [fn21, kc, c0, hk, hr0, hr1, hr2, hr3, hmx, hmx2, Fl.tight, hz0, m1, m2, kr, hw1, hw2, applyV, rotM, hA, hB', hC, hp, hd, t1, t2, t3, t4, t5, t6, ca.1]
      · simp [fn21, kc, c0, hk, hr0, hr1, hr2, hr3, hmx, hmx2, Fl.tight, hz0, m1, m2, kr, hw1, hw2, applyV, rotM, hA, hB', hC, hp, t1, t2, t3, t4, t5, t6, ca.1]
  · simp [fn21, kc, c0, sys0]

set_option maxHeartbeats 4000000 in
theorem apply3_spec (s : Sys) (hs : SW s) (e : Edt) (he : PW e.p) (hn : NameK pp e.name) (hk : e.kind = 3) :
    funD (cxT pp) 21 [.agg (cSys s), .agg (cEdt e)] = some (.tup [.agg (cSys (apply s e).1), .int .i64 (apply s e).2]) := by
  have b0 := hs.vars
  have kc := check_spec (pp := pp) s hs e he hn
  rw [fun_21]
  unfold closedD bodyD apply
  by_cases c0 : check s e = 0
  · have ca : 0 ≤ e.at_ ∧ e.at_ < s.vars.length := by
      simp [check, hk] at c0
      split at c0
      · simp at c0
      · rename_i h; simp [isV] at h; omega
    have hr0 := @roomy_ok s.vars.length 16 (by omega) (by decide)
    have hA : ¬ s.vars.length = 0 := by omega
    have hp : ¬ s.vars = [] := fun h => hA (by rw [h]; rfl)
    have t1 : e.at_.toNat + 1 ≤ s.vars.length := by omega
    have t2 : e.at_.toNat < s.vars.length := by omega
    have hset := strs_set (v := e.name) t2
    have hmx2 : min e.at_.toNat s.vars.length = e.at_.toNat := by omega
    have hq : e.at_.toNat + (s.vars.length - (e.at_.toNat + 1) + 1) = s.vars.length := by omega
    simp [hk] at kc
    simp [fn21, kc, c0, hk, hr0, hA, hp, applyV, t1, t2, ca.1, ca.2, hset, hmx2, hq]
  · simp [fn21, kc, c0, sys0]

set_option maxHeartbeats 4000000 in
theorem apply4_spec (s : Sys) (hs : SW s) (ha : SA s) (e : Edt) (he : PW e.p) (hn : NameK pp e.name) (hk : e.kind = 4) :
    funD (cxT pp) 21 [.agg (cSys s), .agg (cEdt e)] = some (.tup [.agg (cSys (apply s e).1), .int .i64 (apply s e).2]) := by
  have b0 := hs.vars
  have kc := check_spec (pp := pp) s hs e he hn
  rw [fun_21]
  unfold closedD bodyD apply
  by_cases c0 : check s e = 0
  · have cv : isV s e.at_ = true ∧ isV s e.to = true := by
      cases h1 : isV s e.at_
      · simp [check, hk, h1] at c0
      · cases h2 : isV s e.to
        · simp [check, hk, h1, h2] at c0
        · exact ⟨rfl, rfl⟩
    have ca : 0 ≤ e.at_ ∧ e.at_ < s.vars.length := by have := cv.1; simp [isV] at this; omega
    have cb : 0 ≤ e.to ∧ e.to < s.vars.length := by have := cv.2; simp [isV] at this; omega
    have hr0 := @roomy_ok s.vars.length 16 (by omega) (by decide)
    have hA : ¬ s.vars.length = 0 := by omega
    have hp : ¬ s.vars = [] := fun h => hA (by rw [h]; rfl)
    have kr := rotated_spec (pp := pp) 0 0 (by omega) (by omega)
    obtain ⟨m1, m2⟩ := moved_ok (pp := pp) hs ha (swpM e.at_ e.to) (isPerm_swp (by omega) (by omega))
    have hsw := swp_set (a := e.at_) (b := e.to) (by omega) (by omega)
    have d1 := vAt_drop cv.1
    have d2 := vAt_drop cv.2
    have t1 : e.at_.toNat < s.vars.length := by omega
    have t2 : e.to.toNat < s.vars.length := by omega
    have t1' : e.at_.toNat + 1 ≤ s.vars.length := by omega
    have t2' : e.to.toNat + 1 ≤ s.vars.length := by omega
    have u1 : e.at_ < 8 := by omega
    have u2 : e.to < 8 := by omega
    have u3 : e.at_.toNat + 1 ≤ 8 := by omega
    have u4 : e.to.toNat + 1 ≤ 8 := by omega
    have s1 := pstrs_set (v := vAt s e.to) t1
    have s2 := pstrs_set (l := s.vars.set e.at_.toNat (vAt s e.to)) (v := vAt s e.at_) (n := e.to.toNat) (by simpa using t2)
    have r1 := pints_set (l := rotL 0 0) (n := e.at_.toNat) (v := e.to) (by simp; omega)
    have r2 := pints_set (l := (rotL 0 0).set e.at_.toNat e.to) (n := e.to.toNat) (v := e.at_) (by simp; omega)
    rw [hsw] at r2
    simp [hk] at kc
    simp [swpM] at m1 m2
    have hs8 : (swpL e.at_ e.to).take 8 = swpL e.at_ e.to := rfl
    simp [fn21, kc, c0, hk, hr0, hA, hp, hs8, applyV, swpM, kr, m1, m2, d1, d2, t1, t2, t1', t2', u1, u2, u3, u4, ca.1, ca.2, cb.1, cb.2, s1, s2, r1, r2]
  · simp [fn21, kc, c0, sys0]

set_option maxHeartbeats 4000000 in
theorem apply5_spec (s : Sys) (hs : SW s) (e : Edt) (he : PW e.p) (hn : NameK pp e.name) (h1 : ¬ e.kind = 1) (h2 : ¬ e.kind = 2) (h3 : ¬ e.kind = 3) (h4 : ¬ e.kind = 4) :
    funD (cxT pp) 21 [.agg (cSys s), .agg (cEdt e)] = some (.tup [.agg (cSys (apply s e).1), .int .i64 (apply s e).2]) := by
  have kc := check_spec (pp := pp) s hs e he hn
  rw [fun_21]
  unfold closedD bodyD apply
  by_cases c0 : check s e = 0
  · have hk : (e.kind = 5 ∨ e.kind = 6 ∨ e.kind = 7 ∨ e.kind = 8) ∧ (e.kind = 5 → 0 ≤ e.id ∧ e.id ≤ 1000000) ∧ (e.kind = 8 → has s e.id = true) := by
      simp only [check, if_neg h1, if_neg h2, if_neg h3, if_neg h4] at c0
      by_cases h5 : e.kind = 5
      · rw [if_pos h5] at c0
        refine ⟨.inl h5, fun _ => ?_, fun h => by omega⟩
        unfold checkAdd at c0
        split at c0
        · simp at c0
        · omega
      · rw [if_neg h5] at c0
        by_cases h6 : e.kind = 6 ∨ e.kind = 7 ∨ e.kind = 8
        · rw [if_pos h6] at c0
          have hh : has s e.id = true := by
            unfold checkId at c0
            split at c0
            · simp at c0
            · rename_i h; simpa using h
          exact ⟨.inr h6, fun h => absurd h h5, fun _ => hh⟩
        · rw [if_neg h6] at c0; simp at c0
    have ke := equations_spec (pp := pp) s hs e hk.1 hk.2.2 hk.2.1
    have hv : applyV s e = equations s e := by simp [applyV, h1, h2, h3, h4]
    by_cases hA : s.vars.length = 0
    · have hp : s.vars = [] := List.eq_nil_of_length_eq_zero hA
      have hz0 : roomy 0 16 = true := by decide
      simp [hp] at kc ke
      simp [fn21, kc, c0, h1, h2, h3, h4, ke, hv, hp, hz0]
    · have hp : ¬ s.vars = [] := fun h => hA (by rw [h]; rfl)
      have hr0 := @roomy_ok s.vars.length 16 (by have := hs.vars; omega) (by decide)
      simp [fn21, kc, c0, h1, h2, h3, h4, ke, hv, hA, hp, hr0]
  · simp [fn21, kc, c0, sys0]

theorem apply_spec (s : Sys) (hs : SW s) (ha : SA s) (e : Edt) (he : PW e.p) (hn : NameK pp e.name) :
    funD (cxT pp) 21 [.agg (cSys s), .agg (cEdt e)] = some (.tup [.agg (cSys (apply s e).1), .int .i64 (apply s e).2]) := by
  by_cases h1 : e.kind = 1
  · exact apply1_spec s hs ha e he hn h1
  by_cases h2 : e.kind = 2
  · exact apply2_spec s hs ha e he hn h2
  by_cases h3 : e.kind = 3
  · exact apply3_spec s hs e he hn h3
  by_cases h4 : e.kind = 4
  · exact apply4_spec s hs ha e he hn h4
  exact apply5_spec s hs e he hn h1 h2 h3 h4
end Go.Va
end
section
open Go.Proofs
namespace Go.Va
variable {pp : Option PrimFn}

structure Raw33 where
  kind : Int
  a : Int
  b : Int
  n : Int
  p : RawP
def cRaw (r : Raw33) : List PV := [.int .u8 r.kind, .int .u8 r.a, .int .u8 r.b, .int .u8 r.n, raw r.p]
@[simp] theorem cRaw_len (t : Raw33) : (cRaw t).length = 5 := by simp [cRaw]
@[simp] theorem cRaw_er (t : Raw33) : PV.erL (cRaw t) = cRaw t := by simp [cRaw]
@[simp high] theorem raws_len (p : List Raw33) : (p.flatMap cRaw).length = p.length * 5 := flat_len cRaw_len p
@[simp] theorem raws_drop (p : List Raw33) (i : Nat) : (p.flatMap cRaw).drop (i * 5) = (p.drop i).flatMap cRaw := flat_drop cRaw_len p i
@[simp] theorem raws_er (p : List Raw33) : PV.erL (p.flatMap cRaw) = p.flatMap cRaw := flat_er cRaw_er p
def U8 (z : Int) : Prop := 0 ≤ z ∧ z ≤ 255
structure R33OK (r : Raw33) : Prop where
  kind : U8 r.kind
  a : U8 r.a
  b : U8 r.b
  n : U8 r.n
  p : RawOK r.p
  len : r.p.length < 2 ^ 63

def nameAt (i : Int) : ByteArray := name6.getD i.toNat ⟨#[]⟩
def editKind (x : Raw33) : Int := if 8 ≤ x.kind.tmod 16 then (if x.a.tmod 8 < 5 then 5 else 5 + x.a.tmod 4) else 1 + x.kind.tmod 16
/-- The edit that raw numbers describe. -/
def editOf (s : Sys) (x : Raw33) : Edt :=
  ⟨editKind x, nameAt (x.n.tmod 6), x.a.tmod (s.vars.length + 1), x.b.tmod (s.vars.length + 1), if editKind x = 5 ∧ 0 < x.n.tmod 4 then 0 else x.n.tmod (s.next + 1), made x.p (min s.vars.length 3) 2 3, decide (x.b.tmod 4 = 3)⟩

theorem tm (a b : Int) (ha : 0 ≤ a) (hb : 0 < b) : 0 ≤ a.tmod b ∧ a.tmod b < b := by
  rw [Int.tmod_eq_emod_of_nonneg ha]
  exact ⟨Int.emod_nonneg _ (by omega), Int.emod_lt_of_pos _ hb⟩
@[simp] theorem name6_len : name6.length = 6 := rfl
theorem name6_drop {i : Nat} (h : i < 6) : name6.drop i = name6.getD i ⟨#[]⟩ :: name6.drop (i + 1) := by
  have hl : i < name6.length := h
  rw [List.drop_eq_getElem_cons hl, List.getD_eq_getElem?_getD, List.getElem?_eq_getElem hl]; rfl

set_option maxHeartbeats 8000000 in
theorem edit_spec (s : Sys) (hs : SW s) (x : Raw33) (hx : R33OK x) : funD (cxT pp) 45 [.agg (cSys s), .agg (cRaw x)] = some (.agg (cEdt (editOf s x))) := by
  have b0 := hs.vars
  have b3 := hs.lo
  have b4 := hs.hi
  obtain ⟨⟨r1, r1'⟩, ⟨r2, r2'⟩, ⟨r3, r3'⟩, ⟨r4, r4'⟩, r5, r6⟩ := hx
  have t1 := tm x.kind 16 r1 (by omega)
  have t2 := tm x.a 4 r2 (by omega)
  have t3 := tm x.n 6 r4 (by omega)
  have w1 : IntKind.i64.wrap (x.kind.tmod 16) = x.kind.tmod 16 := by rw [i64_id] <;> omega
  have w2 : IntKind.i64.wrap (1 + x.kind.tmod 16) = 1 + x.kind.tmod 16 := by rw [i64_id] <;> omega
  have w3 : IntKind.i64.wrap x.a = x.a := by rw [i64_id] <;> omega
  have w4 : IntKind.i64.wrap x.b = x.b := by rw [i64_id] <;> omega
  have w5 : IntKind.i64.wrap x.n = x.n := by rw [i64_id] <;> omega
  have w6 : IntKind.i64.wrap ((s.vars.length : Int) + 1) = (s.vars.length : Int) + 1 := by rw [i64_id] <;> omega
  have w7 : IntKind.i64.wrap (s.next + 1) = s.next + 1 := by rw [i64_id] <;> omega
  have w8 : IntKind.i64.wrap (x.a.tmod 4) = x.a.tmod 4 := by rw [i64_id] <;> omega
  have w9 : IntKind.i64.wrap (5 + x.a.tmod 4) = 5 + x.a.tmod 4 := by rw [i64_id] <;> omega
  have w10 : IntKind.i64.wrap 5 = 5 := by rw [i64_id] <;> omega
  have z1 : ¬ ((s.vars.length : Int) + 1 = 0) := by omega
  have z2 : ¬ (s.next + 1 = 0) := by omega
  have kn := names_spec (pp := pp)
  have km := made_spec (pp := pp) x.p r5 r6 (min s.vars.length 3) (by omega) 2 (by omega) 3 (by omega)
  have hnd := name6_drop (i := (x.n.tmod 6).toNat) (by omega)
  have hmin : ((min s.vars.length 3 : Nat) : Int) = if (3 : Int) < s.vars.length then 3 else (s.vars.length : Int) := by split <;> omega
  have hname : name6.getD (x.n.tmod 6).toNat ⟨#[]⟩ = nameAt (x.n.tmod 6) := rfl
  rw [hname] at hnd
  rw [hmin] at km
  simp at km kn
  rw [fun_45]
  unfold closedD bodyD
  by_cases c1 : 8 ≤ x.kind.tmod 16
  · by_cases c2 : x.a.tmod 8 < 5
    · have ek : editKind x = 5 := by simp [editKind, c1, c2]
      by_cases c3 : 0 < x.n.tmod 4
      · simp [fn45, cRaw, w1, w2, w3, w4, w5, w6, w7, w8, w9, w10, z1, z2, kn, km, hnd, t3.1, t3.2, c1, c2, c3, ek, editOf]
      · simp [fn45, cRaw, w1, w2, w3, w4, w5, w6, w7, w8, w9, w10, z1, z2, kn, km, hnd, t3.1, t3.2, c1, c2, c3, ek, editOf]
    · have ek : editKind x = 5 + x.a.tmod 4 := by simp [editKind, c1, c2]
      by_cases c4 : 5 + x.a.tmod 4 = 5
      · by_cases c3 : 0 < x.n.tmod 4
        · simp [fn45, cRaw, w1, w2, w3, w4, w5, w6, w7, w8, w9, w10, z1, z2, kn, km, hnd, t3.1, t3.2, c1, c2, c3, c4, ek, editOf]
        · simp [fn45, cRaw, w1, w2, w3, w4, w5, w6, w7, w8, w9, w10, z1, z2, kn, km, hnd, t3.1, t3.2, c1, c2, c3, c4, ek, editOf]
      · have c3 := 0
        simp [fn45, cRaw, w1, w2, w3, w4, w5, w6, w7, w8, w9, w10, z1, z2, kn, km, hnd, t3.1, t3.2, c1, c2, c4, ek, editOf]
  · have ek : editKind x = 1 + x.kind.tmod 16 := by simp [editKind, c1]
    by_cases c4 : 1 + x.kind.tmod 16 = 5
    · by_cases c3 : 0 < x.n.tmod 4
      · simp [fn45, cRaw, w1, w2, w3, w4, w5, w6, w7, w8, w9, w10, z1, z2, kn, km, hnd, t3.1, t3.2, c1, c3, c4, ek, editOf]
      · simp [fn45, cRaw, w1, w2, w3, w4, w5, w6, w7, w8, w9, w10, z1, z2, kn, km, hnd, t3.1, t3.2, c1, c3, c4, ek, editOf]
    · simp [fn45, cRaw, w1, w2, w3, w4, w5, w6, w7, w8, w9, w10, z1, z2, kn, km, hnd, t3.1, t3.2, c1, c4, ek, editOf]

/-! ### Made, Edits -/
def stepS (s : Sys) (x : Raw33) : Sys := if (apply s (editOf s x)).2 = 0 then (apply s (editOf s x)).1 else s
def sys1 : Sys := ⟨[], [], [], 1⟩
/-- The system after the edits of descriptions. -/
def madeS (l : List Raw33) (most : Nat) : Sys := (l.take most).foldl stepS sys1
/-- What is kept by every step. -/
structure Keeps33 (pp : Option PrimFn) (G : Sys → Prop) : Prop where
  sw : ∀ s, G s → SW s
  sa : ∀ s, G s → SA s
  pw : ∀ s x, G s → R33OK x → PW (editOf s x).p
  name : ∀ i, 0 ≤ i → i < 6 → NameK pp (nameAt i)
  step : ∀ s x, G s → R33OK x → G (stepS s x)
  one : G sys1

set_option maxHeartbeats 4000000 in
theorem made33_spec {G : Sys → Prop} (hG : Keeps33 pp G) (l : List Raw33) (hl : ∀ x ∈ l, R33OK x) (hlen : l.length < 2 ^ 63) (most : Nat) :
    funD (cxT pp) 17 [sl cRaw l, .int .i64 most] = some (.agg (cSys (madeS l most))) ∧ G (madeS l most) := by
  have loop := loop_fold (cx := cxT pp) (d := 0) (c := c17_0) (l.take most) stepS
    (fun i (s : Sys) st => G s ∧ st.env 0 = .p (sl cRaw l) ∧ st.env 1 = .p (.int .i64 most) ∧ st.env 6 = .p (.int .i64 i) ∧ st.env 5 = .ptr ⟨0, 5⟩ 1 0 ∧ st.env 4 = .ptr ⟨0, 4⟩ 1 0 ∧
      (∃ cs, cs.length = 4 ∧ st.h.get ⟨0, 4⟩ = ⟨1, false, some (.cells cs)⟩) ∧ (∃ ps, ps.length = 4 ∧ PV.erL ps = cSys s ∧ st.h.get ⟨0, 5⟩ = ⟨1, false, some (.cells (ps.map .p))⟩)) (.ex 0) (by simp)
    (by
      rintro i s ⟨env, h⟩ x rest hi hx1 hd ⟨hg, h0, h1, h6, h5, h4, ⟨c4, l4, g4⟩, ⟨ps, l5, e5, g5⟩⟩
      simp only at h0 h1 h6 h5 h4 g4 g5
      have hi' : i < l.length ∧ i < most := by simp at hi; omega
      have hi1 : (i : Int) < l.length := by omega
      have hi2 : (i : Int) < most := by omega
      have hk : ∃ rr, l.drop i = x :: rr := by
        have hge : l[i]? = some x := by
          rw [List.getElem?_take] at hx1
          rwa [if_pos hi'.2] at hx1
        rw [List.getElem?_eq_getElem hi'.1] at hge
        exact ⟨l.drop (i + 1), by rw [List.drop_eq_getElem_cons hi'.1, Option.some.inj hge]⟩
      obtain ⟨rr, hk⟩ := hk
      have hw := inc_id hi'.1 hlen
      have hxo := hl x (mem_drop hk)
      have ke := edit_spec (pp := pp) s (hG.sw s hg) x hxo
      have t3 := tm x.n 6 hxo.n.1 (by omega)
      have ka := apply_spec (pp := pp) s (hG.sw s hg) (hG.sa s hg) (editOf s x) (hG.pw s x hg hxo) (hG.name _ t3.1 t3.2)
      have hst := hG.step s x hg hxo
      simp [cRaw] at ke
      simp at ka
      by_cases c : (apply s (editOf s x)).2 = 0
      · have hss : stepS s x = (apply s (editOf s x)).1 := by simp [stepS, c]
        rw [hss] at hst
        generalize (apply s (editOf s x)).1 = S2 at *
        simp [-Prod.exists, c17_0, h0, h1, h6, h5, h4, g4, g5, l5, e5, hi1, hi2, hi'.1, hk, cRaw, ke, ka, c, hw, hss, hst, l4]
        have hd : ps.drop 4 = [] := List.drop_eq_nil_of_le (by omega)
        exact ⟨cSys S2, rfl, by simp, by simp [← List.map_drop, hd]⟩
      · have hss : stepS s x = s := by simp [stepS, c]
        simp [-Prod.exists, c17_0, h0, h1, h6, h5, h4, g4, g5, l5, e5, hi1, hi2, hi'.1, hk, cRaw, ke, ka, c, hw, hss, hg, l4]
        exact ⟨ps, l5, by simpa using e5, rfl⟩)
    (by
      rintro s ⟨env, h⟩ ⟨hg, h0, h1, h6, h5, h4, ⟨c4, l4, g4⟩, ⟨ps, l5, e5, g5⟩⟩
      simp only at h0 h1 h6 h5 h4 g4 g5
      by_cases hlt : l.length ≤ most
      · have e1 : min most l.length = l.length := by omega
        simp [e1] at h6
        simp [-Prod.exists, c17_0, h0, h1, h6, h5, h4, g4, g5, l5, e5, e1, hg, l4]
        exact ⟨ps, l5, by simpa using e5, rfl⟩
      · have e1 : min most l.length = most := by omega
        have e2 : (most : Int) < l.length := by omega
        simp [e1] at h6
        simp [-Prod.exists, c17_0, h0, h1, h6, h5, h4, g4, g5, l5, e5, e1, e2, hg, l4]
        exact ⟨ps, l5, by simpa using e5, rfl⟩)
  rw [fun_17]
  unfold closedD bodyD madeS
  simp [fn17]
  generalize hX : codeD (cxT pp) 0 (ACode.loop c17_0) _ = X
  obtain ⟨e, env, h, rfl, q⟩ := at_code hX (loop sys1 _ (by
    refine ⟨hG.one, by simp, by simp, by simp, by simp, by simp, by simp, ⟨[.frz .nil 0 [], .frz .nil 0 [], .frz .nil 0 [], .int .i64 1], rfl, by simp [sys1], by simp⟩⟩))
  simp only at q
  obtain ⟨rfl, hg, -, -, -, q5, q4, ⟨c4, l4, g4⟩, ⟨ps, l5, e5, g5⟩⟩ := q
  have hd4 : c4.drop 4 = [] := List.drop_eq_nil_of_le (by omega)
  simp [q5, q4, g4, g5, l4, l5, e5, hg, hd4]
end Go.Va
end
section
open Go.Proofs
namespace Go.Va
variable {pp : Option PrimFn}

theorem ownD_of {cx : Cx} {f : FuncId} {fn : AFn} (hf : cx.fns f = some fn) (ps : List PV) : ownD cx f ps = (bodyD cx 0 fn (ps.map .p) Hp.none).bind (ownR fn.rs) := by
  unfold ownD; rw [hf]; rfl

/-! ### Edits -/
def cE (e : Edt) : List PV := cEdt e
@[simp] theorem cE_len (t : Edt) : (cE t).length = 7 := by simp [cE]
@[simp] theorem cE_er (t : Edt) : PV.erL (cE t) = cE t := by simp [cE]
@[simp high] theorem edts_len (p : List Edt) : (p.flatMap cE).length = p.length * 7 := flat_len cE_len p
@[simp] theorem edts_drop (p : List Edt) (i : Nat) : (p.flatMap cE).drop (i * 7) = (p.drop i).flatMap cE := flat_drop cE_len p i
@[simp] theorem edts_take (p : List Edt) (i : Nat) : (p.flatMap cE).take (i * 7) = (p.take i).flatMap cE := flat_take cE_len p i
@[simp] theorem edts_er (p : List Edt) : PV.erL (p.flatMap cE) = p.flatMap cE := flat_er cE_er p
/-! ### SameList, Same -/
theorem samelist_spec (a b : List Eqn) (ha : EW a) (hb : EW b) : funD (cxT pp) 73 [sl cEqn a, sl cEqn b] = some (.bool (decide (a = b))) := by
  have la := ha.1
  have lb := hb.1
  rw [fun_73]
  unfold closedD bodyD
  by_cases hlen : a.length = b.length
  · have loop := loop_find (cx := cxT pp) (d := 0) (c := c73_0) (a.zip b) (fun _ (x : Eqn × Eqn) => if x.1 = x.2 then none else some ())
      (fun i s => s.h = Hp.none ∧ s.env 0 = .p (sl cEqn a) ∧ s.env 1 = .p (sl cEqn b) ∧ s.env 5 = .p (.int .i64 i))
      (fun z a => a.1 = .ret ∧ a.2.env 4 = .p (.bool false)) (.ex 0) (by simp)
      (by
        rintro i ⟨env, h⟩ ⟨x, y⟩ rest hi hx hd ⟨rfl, h0, h1, h5⟩
        simp only at h0 h1 h5
        simp [← hlen] at hi
        have hw := inc_id hi (by omega)
        obtain ⟨ra, rb, da, db⟩ := zip_drop' hd
        have px := ha.2 x (mem_drop da)
        have py := hb.2 y (mem_drop db)
        have hs := r6same_spec (pp := pp) x.p y.p px.1 py.1 (by have := px.2.2; omega)
        have hi2 : i < b.length := by omega
        by_cases c1 : x.id = y.id
        · by_cases c2 : x.p = y.p
          · have hxy : x = y := by cases x; cases y; simp_all
            subst hxy
            simp [c73_0, h0, h1, h5, hi, hi2, da, db, hs, hw]
          · have hxy : ¬ x = y := fun e => c2 (by rw [e])
            simp [c73_0, h0, h1, h5, hi, hi2, da, db, hs, hxy, c1, c2]
        · have hxy : ¬ x = y := fun e => c1 (by rw [e])
          simp [c73_0, h0, h1, h5, hi, hi2, da, db, hs, hxy, c1])
      (by
        rintro ⟨env, h⟩ ⟨rfl, h0, h1, h5⟩
        simp only at h0 h1 h5
        simp [← hlen] at h5
        simp [c73_0, h0, h1, h5, ← hlen])
    simp [fn73, hlen]
    generalize hx : codeD (cxT pp) 0 (ACode.loop c73_0) _ = X
    obtain ⟨e, env, h, rfl, q1⟩ := at_code hx (loop _ (by simp [hlen]))
    simp only at q1
    have key : ∀ (p q : List Eqn) (i : Nat), p.length = q.length → (findL (fun _ (x : Eqn × Eqn) => if x.1 = x.2 then none else some ()) (p.zip q) i).isNone = decide (p = q) := by
      intro p
      induction p with
      | nil => intro q i h; cases q <;> simp_all [findL]
      | cons a p ih =>
        intro q i h
        cases q with
        | nil => simp at h
        | cons b q =>
          have := ih q (i + 1) (by simpa using h)
          by_cases hab : a = b
          · simp [findL, hab, this]
          · simp [findL, hab]
    have hc := key a b 0 hlen
    revert q1 hc
    cases findL (fun _ (x : Eqn × Eqn) => if x.1 = x.2 then none else some ()) (a.zip b) 0 with
    | none => simp +contextual
    | some z => simp +contextual
  · have : ¬ a = b := fun e => hlen (by rw [e])
    have hl2 : ¬ ((a.length : Int) = b.length) := by omega
    simp [fn73, hl2, this]

set_option maxHeartbeats 1000000 in
theorem same32_spec (a b : Sys) (va : a.vars.length < 2 ^ 30) (ha : EW a.eqs) (ha2 : EW a.neqs) (hb : EW b.eqs) (hb2 : EW b.neqs) : funD (cxT pp) 24 [.agg (cSys a), .agg (cSys b)] = some (.bool (decide (a = b))) := by
  have k1 := samelist_spec (pp := pp) a.eqs b.eqs ha hb
  have k2 := samelist_spec (pp := pp) a.neqs b.neqs ha2 hb2
  rw [fun_24]
  unfold closedD bodyD
  by_cases hlen : a.vars.length = b.vars.length
  · by_cases c1 : a.next = b.next
    · by_cases c2 : a.eqs = b.eqs
      · by_cases c3 : a.neqs = b.neqs
        · have loop := loop_find (cx := cxT pp) (d := 0) (c := c24_0) (a.vars.zip b.vars) (fun _ (x : ByteArray × ByteArray) => if x.1 = x.2 then none else some ())
            (fun i s => s.h.get ⟨0, 2⟩ = ⟨1, false, some (.cells ((cSys a).map .p))⟩ ∧ s.h.get ⟨0, 3⟩ = ⟨1, false, some (.cells ((cSys b).map .p))⟩ ∧ s.env 2 = .ptr ⟨0, 2⟩ 1 0 ∧ s.env 3 = .ptr ⟨0, 3⟩ 1 0 ∧ s.env 5 = .p (.int .i64 i))
            (fun z a => a.1 = .ret ∧ a.2.env 4 = .p (.bool false)) (.ex 0) (by simp)
            (by
              rintro i ⟨env, h⟩ ⟨x, y⟩ rest hi hx hd ⟨g2, g3, h2, h3, h5⟩
              simp only at g2 g3 h2 h3 h5
              simp [← hlen] at hi
              have hw := inc_id hi (by omega)
              obtain ⟨ra, rb, da, db⟩ := zip_drop' hd
              have hi2 : i < b.vars.length := by omega
              by_cases hxy : x = y
              · subst hxy
                simp [c24_0, g2, g3, h2, h3, h5, hi, hi2, da, db, hw]
              · simp [c24_0, g2, g3, h2, h3, h5, hi, hi2, da, db, hxy])
            (by
              rintro ⟨env, h⟩ ⟨g2, g3, h2, h3, h5⟩
              simp only at g2 g3 h2 h3 h5
              simp [← hlen] at h5
              simp [c24_0, g2, g3, h2, h3, h5, ← hlen])
          simp [c1, c2, c3] at k1 k2
          simp [fn24, hlen, c1, c2, c3, k1, k2]
          generalize hx : codeD (cxT pp) 0 (ACode.loop c24_0) _ = X
          obtain ⟨e, env, h, rfl, q1⟩ := at_code hx (loop _ (by simp [hlen, c1, c2, c3]))
          simp only at q1
          have key : ∀ (p q : List ByteArray) (i : Nat), p.length = q.length → (findL (fun _ (x : ByteArray × ByteArray) => if x.1 = x.2 then none else some ()) (p.zip q) i).isNone = decide (p = q) := by
            intro p
            induction p with
            | nil => intro q i h; cases q <;> simp_all [findL]
            | cons a p ih =>
              intro q i h
              cases q with
              | nil => simp at h
              | cons b q =>
                have := ih q (i + 1) (by simpa using h)
                by_cases hab : a = b
                · simp [findL, hab, this]
                · simp [findL, hab]
          have hc := key a.vars b.vars 0 hlen
          have he : (a = b) = (a.vars = b.vars) := by
            cases a; cases b
            simp at c1 c2 c3
            simp [c1, c2, c3]
          simp only [he]
          revert q1 hc
          cases findL (fun _ (x : ByteArray × ByteArray) => if x.1 = x.2 then none else some ()) (a.vars.zip b.vars) 0 with
          | none => simp +contextual
          | some z => simp +contextual
        · have : ¬ a = b := fun e => c3 (by rw [e])
          simp [c3] at k2
          simp [c2] at k1
          simp [fn24, hlen, c1, c2, c3, k1, k2, this]
      · have : ¬ a = b := fun e => c2 (by rw [e])
        simp [c2] at k1
        simp [fn24, hlen, c1, c2, k1, this]
    · have : ¬ a = b := fun e => c1 (by rw [e])
      simp [fn24, hlen, c1, this]
  · have : ¬ a = b := fun e => hlen (by rw [e])
    have hl2 : ¬ ((a.vars.length : Int) = b.vars.length) := by omega
    simp [fn24, hl2, this]
end Go.Va
end
section
open Go.Proofs
namespace Go.Va
variable {pp : Option PrimFn}

/-! ### monomial -/
theorem mvalid_spec (a : Mono) : funD (cxT pp) 198 [.agg (ints a.l)] = some (.bool (mvalid a)) := by
  have hz := a.h
  have loop := loop_find (cx := cxT pp) (d := 0) (c := c198_0) a.l (fun _ x => if evalid x then none else some ())
    (fun i s => s.env 5 = .p (.agg (ints a.l)) ∧ s.env 6 = .p (.int .i64 i))
    (fun z a => a.1 = .ret ∧ a.2.env 2 = .p (.bool false)) (.ex 0) (by simp)
    (by
      rintro i ⟨env, h⟩ x rest hi hx hd ⟨h5, h6⟩
      simp only at h5 h6
      rw [hz] at hi
      have hw := inc_id hi (by omega)
      have hi' : (i : Int) < 8 := by omega
      have hi7 : (i : Int) ≤ 7 := by omega
      have hi1 : i + 1 ≤ 8 := by omega
      by_cases c1 : x < 0
      · simp [c198_0, h5, h6, hi, hi', hi7, hi1, hd, c1, evalid, show ¬ 0 ≤ x by omega]
      · by_cases c2 : 65535 < x
        · simp [c198_0, h5, h6, hi, hi', hi7, hi1, hd, c1, c2, evalid, show ¬ x ≤ 65535 by omega]
        · simp [c198_0, h5, h6, hi, hi', hi7, hi1, hd, c1, c2, evalid, hw, show 0 ≤ x by omega, show x ≤ 65535 by omega])
    (by
      rintro ⟨env, h⟩ ⟨h5, h6⟩
      rw [hz] at h6
      simp only at h5 h6
      simp [c198_0, h5, h6])
  rw [fun_198]
  unfold closedD bodyD mvalid
  simp [fn198]
  generalize hx : codeD (cxT pp) 0 (ACode.loop c198_0) _ = X
  obtain ⟨e, env, h, rfl, q⟩ := at_code hx (loop _ (by simp))
  simp only at q
  have hc := all_find evalid a.l 0
  revert q hc
  cases findL (fun _ x => if evalid x then none else some ()) a.l 0 with
  | none => simp +contextual
  | some z => simp +contextual

theorem mdeg_spec (a : Mono) (ha : mvalid a = true) : funD (cxT pp) 199 [.agg (ints a.l)] = some (.int .i64 (mdeg a)) := by
  have hz := a.h
  have hv : ∀ x ∈ a.l, 0 ≤ x ∧ x ≤ 65535 := by
    intro x hx
    have := List.all_eq_true.1 ha x hx
    simpa [evalid] using this
  have loop := loop_fold (cx := cxT pp) (d := 0) (c := c199_0) a.l (fun (n : Int) x => n + x)
    (fun i n s => (0 ≤ n ∧ n ≤ 65535 * i) ∧ s.env 6 = .p (.agg (ints a.l)) ∧ s.env 3 = .p (.int .i64 n) ∧ s.env 7 = .p (.int .i64 i)) (.ex 0) (by simp)
    (by
      rintro i n ⟨env, h⟩ x rest hi hx hd ⟨hn, h6, h3, h7⟩
      simp only at h6 h3 h7
      have hxv := hv x (List.mem_of_getElem? hx)
      rw [hz] at hi
      have hw := inc_id hi (by omega)
      have hi' : (i : Int) < 8 := by omega
      have hi7 : (i : Int) ≤ 7 := by omega
      have hi1 : i + 1 ≤ 8 := by omega
      have hs : IntKind.i64.wrap (n + x) = n + x := by rw [i64_id] <;> omega
      simp [c199_0, h6, h3, h7, hi, hi', hi7, hi1, hd, hw, hs]
      omega)
    (by
      rintro n ⟨env, h⟩ ⟨hn, h6, h3, h7⟩
      rw [hz] at h7 hn
      simp only at h6 h3 h7
      simp [c199_0, h6, h3, h7, hn, hz]
      omega)
  rw [fun_199]
  unfold closedD bodyD mdeg
  simp [fn199]
  generalize hx : codeD (cxT pp) 0 (ACode.loop c199_0) _ = X
  obtain ⟨e, env, h, rfl, q⟩ := at_code hx (loop 0 _ (by simp))
  simp only at q
  obtain ⟨rfl, -, -, q3, -⟩ := q
  have e : ∀ (l : List Int) (n : Int), l.foldl (fun n x => n + x) n = n + l.sum := by
    intro l; induction l with
    | nil => simp
    | cons x l ih => intro n; simp [ih, Int.add_assoc]
  rw [e] at q3
  simp [q3]

theorem or_pow {n i : Nat} (h : n < 2 ^ i) : n ||| 2 ^ i = n + 2 ^ i := by
  have := Nat.two_pow_add_eq_or_of_lt h 1
  simp only [Nat.mul_one] at this
  rw [Nat.or_comm, ← this]; omega
theorem msup_spec (a : Mono) : funD (cxT pp) 195 [.agg (ints a.l)] = some (.int .u8 (msup a : Nat)) := by
  have hz := a.h
  have loop := loop_foldI (cx := cxT pp) (d := 0) (c := c195_0) a.l (fun i (n : Nat) (x : Int) => if 0 < x then n + 2 ^ i else n)
    (fun i n s => n < 2 ^ i ∧ s.env 6 = .p (.agg (ints a.l)) ∧ s.env 3 = .p (.int .u8 (n : Nat)) ∧ s.env 7 = .p (.int .i64 i)) (.ex 0) (by simp)
    (by
      rintro i n ⟨env, h⟩ x rest hi hx hd ⟨hn, h6, h3, h7⟩
      simp only at h6 h3 h7
      rw [hz] at hi
      have hw := inc_id hi (by omega)
      have hi' : (i : Int) < 8 := by omega
      have hi7 : (i : Int) ≤ 7 := by omega
      have hi1 : i + 1 ≤ 8 := by omega
      have hp : (2 : Nat) ^ (i + 1) = 2 ^ i + 2 ^ i := by rw [Nat.pow_succ]; omega
      have h8 : (2 : Nat) ^ (i + 1) ≤ 2 ^ 8 := Nat.pow_le_pow_right (by decide) hi1
      have hmin : min i 8 = i := by omega
      have hneg : ¬ ((i : Int) < 0) := by omega
      have hsh : IntKind.u8.wrap ((2 : Int) ^ i) = ((2 ^ i : Nat) : Int) := by
        rw [show ((2 : Int) ^ i) = ((2 ^ i : Nat) : Int) by simp]
        rw [u8_id] <;> omega
      have ho := bin_or8 (a := n) (b := 2 ^ i) (by omega) (by omega)
      rw [or_pow hn] at ho
      by_cases c1 : 0 < x
      · simp [-Int.natCast_pow, c195_0, h6, h3, h7, hi, hi', hi7, hi1, hd, c1, hw, hmin, hneg, IntKind.bits, hsh, ho]
        omega
      · simp [c195_0, h6, h3, h7, hi, hi', hi7, hi1, hd, c1, hw]
        omega)
    (by
      rintro n ⟨env, h⟩ ⟨hn, h6, h3, h7⟩
      rw [hz] at h7 hn
      simp only at h6 h3 h7
      simp [c195_0, h6, h3, h7, hz]
      omega)
  rw [fun_195]
  unfold closedD bodyD msup
  simp [fn195]
  generalize hx : codeD (cxT pp) 0 (ACode.loop c195_0) _ = X
  obtain ⟨e, env, h, rfl, q⟩ := at_code hx (loop 0 _ (by simp))
  simp only at q
  obtain ⟨rfl, -, -, q3, -⟩ := q
  rw [supF_fold] at q3
  simp [q3]

theorem nan_spec (x : Int) : funD (cxT pp) 246 [.int .i64 x] = some (.bool false) := by
  rw [fun_246]
  unfold closedD bodyD
  simp [fn246]
theorem cmpI_spec (x y : Int) : funD (cxT pp) 232 [.int .i64 x, .int .i64 y] = some (.int .i64 (if x < y then -1 else if y < x then 1 else 0)) := by
  have k1 := nan_spec (pp := pp) x
  have k2 := nan_spec (pp := pp) y
  rw [fun_232]
  unfold closedD bodyD
  by_cases c1 : x < y
  · simp [fn232, k1, k2, c1]
  · by_cases c2 : y < x
    · simp [fn232, k1, k2, c1, c2]
    · simp [fn232, k1, k2, c1, c2]
theorem compare_spec (a b : Mono) : funD (cxT pp) 214 [.frz .any 8 (ints a.l), .frz .any 8 (ints b.l)] = some (.int .i64 (mcmp a b)) := by
  have hz : (a.l.zip b.l).length = 8 := by simp
  have loop := loop_find (cx := cxT pp) (d := 0) (c := c214_0) (a.l.zip b.l) (fun _ (x : Int × Int) => if x.1 < x.2 then some (-1 : Int) else if x.2 < x.1 then some 1 else none)
    (fun i s => s.env 9 = .p (.frz .any 8 (ints a.l)) ∧ s.env 1 = .p (.frz .any 8 (ints b.l)) ∧ s.env 0 = .p (.frz .any 8 (ints a.l)) ∧ s.env 10 = .p (.int .i64 8) ∧ s.env 11 = .p (.int .i64 i))
    (fun z a => a.1 = .ret ∧ a.2.env 4 = .p (.int .i64 z)) (.ex 0) (by simp)
    (by
      rintro i ⟨env, h⟩ ⟨x, y⟩ rest hi hx hd ⟨h9, h1, h0, h10, h11⟩
      simp only at h9 h1 h0 h10 h11
      rw [hz] at hi
      have hw := inc_id hi (by omega)
      have hi' : (i : Int) < 8 := by omega
      have hi7 : (i : Int) ≤ 7 := by omega
      have hi2 : ¬ (8 : Int) ≤ i := by omega
      have hi1 : i + 1 ≤ 8 := by omega
      obtain ⟨ra, rb, da, db⟩ := zip_drop' hd
      have k := cmpI_spec (pp := pp) x y
      by_cases c1 : x < y
      · simp [c1] at k
        simp [c214_0, h9, h1, h0, h10, h11, hi, hi', hi7, hi1, hi2, da, db, c1, k]
      · by_cases c2 : y < x
        · simp [c1, c2] at k
          simp [c214_0, h9, h1, h0, h10, h11, hi, hi', hi7, hi1, hi2, da, db, c1, c2, k]
        · simp [c1, c2] at k
          simp [c214_0, h9, h1, h0, h10, h11, hi, hi', hi7, hi1, hi2, da, db, c1, c2, hw, k])
    (by
      rintro ⟨env, h⟩ ⟨h9, h1, h0, h10, h11⟩
      rw [hz] at h11
      simp only at h9 h1 h0 h10 h11
      simp [c214_0, h9, h1, h0, h10, h11])
  rw [fun_214]
  unfold closedD bodyD mcmp
  simp [fn214]
  generalize hx : codeD (cxT pp) 0 (ACode.loop c214_0) _ = X
  obtain ⟨e, env, h, rfl, q⟩ := at_code hx (loop _ (by simp))
  simp only at q
  have hc := cmpL_find (a.l.zip b.l) 0
  revert q hc
  cases findL (fun _ (x : Int × Int) => if x.1 < x.2 then some (-1 : Int) else if x.2 < x.1 then some 1 else none) (a.l.zip b.l) 0 with
  | none => simp +contextual
  | some z => simp +contextual
theorem pcmp_spec (a b : Mono) : funD (cxT pp) 186 [.agg (ints a.l), .agg (ints b.l)] = some (.int .i64 (mcmp a b)) := by
  have k := compare_spec (pp := pp) a b
  rw [fun_186]
  unfold closedD bodyD
  simp [fn186, k]

/-! ### polynomial -/
set_option maxHeartbeats 1000000 in
theorem pvalid_spec (p : Poly) (hp : Sm 12 p) (hl : p.length < 2 ^ 30) : funD (cxT pp) 165 [poly p] = some (.bool (pvalid p)) := by
  have loop := loop_run (cx := cxT pp) (d := 0) (c := c165_0) p (fun _ (o : Option Mono) t => if tok o t then .inl (some t.m) else .inr ())
    (fun i o s => (s.env 0 = .p (poly p) ∧ s.env 5 = .p (poly p) ∧ s.env 6 = .p (.int .i64 p.length) ∧ s.env 7 = .p (.int .i64 i)) ∧ PrevP p i o)
    (fun _ a => a.1 = .ret ∧ a.2.env 2 = .p (.bool false)) (.ex 0) (by simp)
    (by
      rintro i o ⟨env, h⟩ x rest hi hx hd ⟨⟨h0, h5, h6, h7⟩, ho⟩
      simp only at h0 h5 h6 h7
      have hw := inc_id hi (by omega)
      have hc := hp x (mem_drop hd)
      have k1 := qvalid (pp := pp) x.c hc
      have k2 := qsign (pp := pp) x.c hc
      have k3 := mvalid_spec (pp := pp) x.m
      have hi2 : (i : Int) < p.length := by omega
      by_cases c1 : x.c = 0
      · have e : sgn x.c = 0 := by simp [c1, sgn]
        have ht : tok o x = false := by simp [tok, c1]
        rw [e] at k2
        simp [c165_0, h0, h5, h6, h7, hi, hi2, hd, cTerm, k1, k2, k3, ht]
      · cases c2 : mvalid x.m
        · have ht : tok o x = false := by simp [tok, c2]
          simp [c165_0, h0, h5, h6, h7, hi, hi2, hd, cTerm, k1, k2, k3, sgn0, c1, c2, ht]
        · rcases ho with ⟨hi0, rfl⟩ | ⟨k, t0, r0, hk, hd0, rfl⟩
          · have e0 : ¬ (0 < i) := by omega
            have ht : tok none x = true := by simp [tok, c1, c2]
            have ho' : PrevP p (i + 1) (some x.m) := .inr ⟨i, x, rest, rfl, hd, rfl⟩
            simp [c165_0, h0, h5, h6, h7, hi, hi2, hd, cTerm, k1, k2, k3, sgn0, c1, c2, ht, hw, e0, ho']
          · have k4 := pcmp_spec (pp := pp) t0.m x.m
            have e1 : IntKind.i64.wrap ((i : Int) - 1) = (k : Int) := by rw [i64_id] <;> omega
            have e2 : 0 < i := by omega
            have e3 : k < p.length := by omega
            have ho' : PrevP p (i + 1) (some x.m) := .inr ⟨i, x, rest, rfl, hd, rfl⟩
            by_cases c3 : 0 < mcmp t0.m x.m
            · have c3' : ¬ mcmp t0.m x.m ≤ 0 := by omega
              have ht : tok (some t0.m) x = true := by simp [tok, c1, c2, c3]
              simp [c165_0, h0, h5, h6, h7, hi, hi2, hd, hd0, cTerm, k1, k2, k3, k4, sgn0, c1, c2, c3', ht, hw, e1, e2, e3, ho']
            · have c3' : mcmp t0.m x.m ≤ 0 := by omega
              have ht : tok (some t0.m) x = false := by simp [tok, c3]
              simp [c165_0, h0, h5, h6, h7, hi, hi2, hd, hd0, cTerm, k1, k2, k3, k4, sgn0, c1, c2, c3', ht, e1, e2, e3])
    (by
      rintro o ⟨env, h⟩ ⟨⟨h0, h5, h6, h7⟩, ho⟩
      simp only at h0 h5 h6 h7
      simp [c165_0, h0, h5, h6, h7, ho])
  rw [fun_165]
  unfold closedD bodyD pvalid
  simp [fn165]
  generalize hx : codeD (cxT pp) 0 (ACode.loop c165_0) _ = X
  obtain ⟨e, env, h, rfl, q⟩ := at_code hx (loop none _ (by simp [PrevP]))
  simp only at q
  have hc := pvF_run p 0 none
  revert q hc
  cases runL (fun _ (o : Option Mono) t => if tok o t then .inl (some t.m) else .inr ()) p 0 none with
  | inl o =>
    rintro ⟨rfl, -, -⟩ hc
    simp [← hc]
  | inr u =>
    rintro ⟨rfl, q2⟩ hc
    simp [q2, ← hc]
theorem pdeg_spec (p : Poly) (hv : ∀ t ∈ p, mvalid t.m = true) (hl : p.length < 2 ^ 30) : funD (cxT pp) 166 [poly p] = some (.int .i64 (pdeg p)) := by
  have loop := loop_fold (cx := cxT pp) (d := 0) (c := c166_0) p (fun (d : Int) t => max d (mdeg t.m))
    (fun i d s => s.env 6 = .p (poly p) ∧ s.env 3 = .p (.int .i64 d) ∧ s.env 7 = .p (.int .i64 p.length) ∧ s.env 8 = .p (.int .i64 i)) (.ex 0) (by simp)
    (by
      rintro i d ⟨env, h⟩ x rest hi hx hd ⟨h6, h3, h7, h8⟩
      simp only at h6 h3 h7 h8
      have hw := inc_id hi (by omega)
      have hi2 : (i : Int) < p.length := by omega
      have k1 := mdeg_spec (pp := pp) x.m (hv x (mem_drop hd))
      by_cases c : d < mdeg x.m
      · have c' : max d (mdeg x.m) = mdeg x.m := by omega
        simp [c166_0, h6, h3, h7, h8, hi, hi2, hd, cTerm, k1, hw, c, c']
      · have c' : max d (mdeg x.m) = d := by omega
        simp [c166_0, h6, h3, h7, h8, hi, hi2, hd, cTerm, k1, hw, c, c'])
    (by
      rintro d ⟨env, h⟩ ⟨h6, h3, h7, h8⟩
      simp only at h6 h3 h7 h8
      simp [c166_0, h6, h3, h7, h8])
  rw [fun_166]
  unfold closedD bodyD pdeg
  simp [fn166]
  generalize hx : codeD (cxT pp) 0 (ACode.loop c166_0) _ = X
  obtain ⟨e, env, h, rfl, q⟩ := at_code hx (loop (-1) _ (by simp))
  simp only at q
  obtain ⟨rfl, -, q3, -⟩ := q
  simp [q3]
theorem puse_spec (p : Poly) (hl : p.length < 2 ^ 30) : funD (cxT pp) 163 [poly p] = some (.int .u8 (puse p : Nat)) := by
  have loop := loop_fold (cx := cxT pp) (d := 0) (c := c163_0) p (fun (n : Nat) t => n ||| msup t.m)
    (fun i n s => n < 256 ∧ s.env 6 = .p (poly p) ∧ s.env 3 = .p (.int .u8 (n : Nat)) ∧ s.env 7 = .p (.int .i64 p.length) ∧ s.env 8 = .p (.int .i64 i)) (.ex 0) (by simp)
    (by
      rintro i n ⟨env, h⟩ x rest hi hx hd ⟨hn, h6, h3, h7, h8⟩
      simp only at h6 h3 h7 h8
      have hw := inc_id hi (by omega)
      have hi2 : (i : Int) < p.length := by omega
      have k1 := msup_spec (pp := pp) x.m
      have ho := bin_or8 hn (msup_lt x.m)
      have hlt : n ||| msup x.m < 2 ^ 8 := Nat.or_lt_two_pow hn (msup_lt x.m)
      simp [c163_0, h6, h3, h7, h8, hi, hi2, hd, cTerm, k1, hw, ho]
      exact hlt)
    (by
      rintro d ⟨env, h⟩ ⟨hn, h6, h3, h7, h8⟩
      simp only at h6 h3 h7 h8
      simp [c163_0, h6, h3, h7, h8, hn])
  rw [fun_163]
  unfold closedD bodyD puse
  simp [fn163]
  generalize hx : codeD (cxT pp) 0 (ACode.loop c163_0) _ = X
  obtain ⟨e, env, h, rfl, q⟩ := at_code hx (loop 0 _ (by simp))
  simp only at q
  obtain ⟨rfl, -, -, q3, -⟩ := q
  simp [q3]

/-! ### fits, of an edit's work -/
/-- An edit's work: a system and an edit. -/
abbrev cWork (s : Sys) (e : Edt) : List PV := cSys s ++ cEdt e
theorem wfits_spec (s : Sys) (hs : s.vars.length ≤ 4) (e : Edt) (hp : PW e.p) : funD (cxT pp) 127 [.agg (cWork s e)] = some (.bool (fits e.p s.vars.length)) := by
  obtain ⟨h1, h2, h3⟩ := hp
  have k1 := pvalid_spec (pp := pp) e.p h1 (by omega)
  have k2 := puse_spec (pp := pp) e.p (by omega)
  have k3 := pdeg_spec (pp := pp) e.p h2 (by omega)
  have hu := use64 e.p
  have hmin : min s.vars.length 64 = s.vars.length := by omega
  have hneg : ¬ ((s.vars.length : Int) < 0) := by omega
  rw [fun_127]
  unfold closedD bodyD fits
  cases c1 : pvalid e.p
  · simp [fn127, k1, c1]
  · by_cases c2 : (puse e.p : Int).fdiv (2 ^ s.vars.length) = 0
    · simp [fn127, k1, k2, k3, c1, c2, hu, hmin, hneg, IntKind.bits]
    · simp [fn127, k1, k2, k3, c1, c2, hu, hmin, hneg, IntKind.bits]
end Go.Va
end
section
open Go.Proofs
namespace Go.Va
variable {pp : Option PrimFn}

/-! ### IndexFunc -/
def indexP (p : Eqn → Bool) (l : List Eqn) : Int := (findL (fun i (x : Eqn) => if p x then some (i : Int) else none) l 0).getD (-1)
/-- A function value answers as a predicate does. -/
def Pred (pp : Option PrimFn) (f : FuncId) (b : List PV) (P : Eqn → Bool) (l : List Eqn) : Prop :=
  ∀ x ∈ l, ∀ (d : Nat) (h : Hp) (key : Key), callD (cxT pp) d f (.p (.agg (cEqn x)) :: b.map .p) h key = some (.p (.bool (P x)), h)
theorem pred_closed {f : FuncId} {b : List PV} (hf : (cxT pp).prim f = none) (hf2 : (cxT pp).pol f = .closed) (hb : PV.erL b = b) {P : Eqn → Bool} {l : List Eqn} (hP : ∀ x ∈ l, funD (cxT pp) f (.agg (cEqn x) :: b) = some (.bool (P x))) : Pred pp f b P l := by
  intro x hx d h key
  have k := hP x hx
  simp at k
  rw [call_cl hf hf2]
  simp [hb, k]
theorem indexFunc_spec (f : FuncId) (b : List PV) (hb : PV.erL b = b) (P : Eqn → Bool) (l : List Eqn) (hl : l.length < 2 ^ 30) (hP : Pred pp f b P l) :
    funD (cxT pp) 176 [sl cEqn l, .func f [] b] = some (.int .i64 (indexP P l)) := by
  have hcall := fun x hx => hP x hx 0
  have loop := loop_find (cx := cxT pp) (d := 0) (c := c176_0) l (fun i (x : Eqn) => if P x then some (i : Int) else none)
    (fun i s => s.h = Hp.none ∧ s.env 0 = .p (sl cEqn l) ∧ s.env 1 = .p (.func f [] b) ∧ s.env 7 = .p (.int .i64 l.length) ∧ s.env 8 = .p (.int .i64 i))
    (fun z a => a.1 = .ret ∧ a.2.h = Hp.none ∧ a.2.env 4 = .p (.int .i64 z)) (.ex 0) (by simp)
    (by
      rintro i ⟨env, h⟩ x rest hi hx hd ⟨rfl, h0, h1, h7, h8⟩
      simp only at h0 h1 h7 h8
      have hw := inc_id hi (by omega)
      have hi2 : (i : Int) < l.length := by omega
      have hc := hcall x (mem_drop hd)
      simp at hc
      cases c : P x
      · simp [c176_0, h0, h1, h7, h8, hi, hi2, hd, c, hw, hc]
      · simp [c176_0, h0, h1, h7, h8, hi, hi2, hd, c, hw, hc])
    (by
      rintro ⟨env, h⟩ ⟨rfl, h0, h1, h7, h8⟩
      simp only at h0 h1 h7 h8
      simp [c176_0, h0, h1, h7, h8])
  rw [fun_176]
  unfold closedD bodyD indexP
  simp [fn176]
  generalize hx : codeD (cxT pp) 0 (ACode.loop c176_0) _ = X
  obtain ⟨e, env, h, rfl, q⟩ := at_code hx (loop _ (by simp))
  simp only at q
  revert q
  cases findL (fun i (x : Eqn) => if P x then some (i : Int) else none) l 0 with
  | none => simp +contextual
  | some z => simp +contextual
theorem where_spec (f : FuncId) (b : List PV) (hb : PV.erL b = b) (P : Eqn → Bool) (l : List Eqn) (hl : l.length < 2 ^ 30) (hP : Pred pp f b P l) :
    funD (cxT pp) 139 [sl cEqn l, .func f [] b] = some (.int .i64 (indexP P l)) := by
  have k := indexFunc_spec (pp := pp) f b hb P l hl hP
  simp at k
  rw [fun_139]
  unfold closedD bodyD
  simp [fn139, hb, k]

/-! ### byId, exists -/
theorem byId1_spec (x : Eqn) (id : Int) : funD (cxT pp) 140 [.agg (cEqn x), .cptr [.int .i64 id]] = some (.bool (decide (x.id = id))) := by
  rw [fun_140]
  unfold closedD bodyD
  simp [fn140]
theorem byId_spec (l : List Eqn) (hl : l.length < 2 ^ 30) (id : Int) : funD (cxT pp) 71 [sl cEqn l, .int .i64 id] = some (.int .i64 (find l id)) := by
  have k := where_spec (pp := pp) 140 [.cptr [.int .i64 id]] (by simp) (fun x => decide (x.id = id)) l hl (pred_closed (by simp) (by simp) (by simp) (fun x _ => byId1_spec x id))
  have e : indexP (fun x => decide (x.id = id)) l = find l id := by simp [indexP, find]
  rw [e] at k
  simp at k
  rw [fun_71]
  unfold closedD bodyD
  simp [fn71, k]
theorem exists_spec (s : Sys) (h1 : s.eqs.length < 2 ^ 30) (h2 : s.neqs.length < 2 ^ 30) (e : Edt) : funD (cxT pp) 125 [.agg (cWork s e)] = some (.bool (has s e.id)) := by
  have k1 := byId_spec (pp := pp) s.eqs h1 e.id
  have k2 := byId_spec (pp := pp) s.neqs h2 e.id
  rw [fun_125]
  unfold closedD bodyD has
  by_cases h : 0 ≤ find s.eqs e.id <;> simp [fn125, k1, k2, h]

/-! ### DeleteFunc -/
theorem pflat_take {l : List Eqn} {i : Nat} : ((l.flatMap cEqn).map AV.p).take (i * 2) = ((l.take i).flatMap cEqn).map AV.p := by rw [← List.map_take, eqs_take]
theorem pflat_drop {l : List Eqn} {i : Nat} : ((l.flatMap cEqn).map AV.p).drop (i * 2) = ((l.drop i).flatMap cEqn).map AV.p := by rw [← List.map_drop, eqs_drop]
/-- What is kept. -/
def keepP (P : Eqn → Bool) (l : List Eqn) : List Eqn := l.filter fun x => !P x

theorem index_split (P : Eqn → Bool) : ∀ (l : List Eqn) (i : Nat), (findL (fun i (x : Eqn) => if P x then some (i : Int) else none) l i = none ∧ keepP P l = l) ∨
    ∃ A d R, l = A ++ d :: R ∧ findL (fun i (x : Eqn) => if P x then some (i : Int) else none) l i = some ((i + A.length : Nat) : Int) ∧ keepP P l = A ++ keepP P R
  | [], i => .inl ⟨rfl, rfl⟩
  | x :: l, i => by
    cases hx : P x
    · rcases index_split P l (i + 1) with ⟨h1, h2⟩ | ⟨A, d, R, h1, h2, h3⟩
      · refine .inl ⟨by simp [findL, hx, h1], ?_⟩
        unfold keepP at h2 ⊢
        simp [hx]
        simpa using h2
      · refine .inr ⟨x :: A, d, R, by simp [h1], by simp [findL, hx, h2]; omega, ?_⟩
        unfold keepP at h3 ⊢
        simp [hx, h3]
    · exact .inr ⟨[], x, l, rfl, by simp [findL, hx], by simp [keepP, hx]⟩
theorem keep_fold (P : Eqn → Bool) : ∀ (l K : List Eqn), l.foldl (fun K x => if P x then K else K ++ [x]) K = K ++ keepP P l
  | [], K => by simp [keepP]
  | x :: l, K => by
    rw [List.foldl_cons, keep_fold P l]
    cases hx : P x <;> simp [keepP, hx]
theorem cs_store {M : List Eqn} {s0 x : Eqn} {T : List Eqn} {cs : List AV} (h : cs = ((M ++ s0 :: T).flatMap cEqn).map AV.p) :
    cs.take (M.length * 2) ++ (AV.p (.int .i64 x.id) :: AV.p (.frz .any x.p.length (x.p.flatMap cTerm)) :: cs.drop (M.length * 2 + 2)) = ((M ++ x :: T).flatMap cEqn).map AV.p := by
  have e : M.length * 2 + 2 = (M.length + 1) * 2 := by omega
  subst h
  rw [pflat_take, e, pflat_drop]
  have e1 : (M ++ s0 :: T).take M.length = M := List.take_left' rfl
  have e2 : (M ++ s0 :: T).drop (M.length + 1) = T := by simp
  rw [e1, e2]; simp
theorem cs_load {M : List Eqn} {x : Eqn} {T : List Eqn} {cs : List AV} {n : Nat} (hn : n = M.length) (h : cs = ((M ++ x :: T).flatMap cEqn).map AV.p) :
    cs.drop (n * 2) = AV.p (.int .i64 x.id) :: AV.p (.frz .any x.p.length (x.p.flatMap cTerm)) :: (T.flatMap cEqn).map AV.p := by
  subst h; subst hn
  rw [pflat_drop, List.drop_left' rfl]
  simp
set_option maxHeartbeats 4000000 in
theorem delete_spec (f : FuncId) (b : List PV) (hb : PV.erL b = b) (P : Eqn → Bool) (l : List Eqn) (hl : l.length < 2 ^ 30) (hP : Pred pp f b P l)
    (k : Key) (hk : k.d = 0) (ver : Nat) (h : Hp) (hg : h.get k = ⟨ver, false, some (.cells ((l.flatMap cEqn).map .p))⟩) :
    ∃ h' J, bodyD (cxT pp) 1 fn169 [.ref k ver 0 l.length 2 false, .p (.func f [] b)] h = some (.ref k ver 0 (keepP P l).length 2 false, h') ∧
      h'.get k = ⟨ver, false, some (.cells (((keepP P l).flatMap cEqn).map .p ++ J))⟩ ∧ (∀ k' : Key, k'.d = 0 → k' ≠ k → h'.get k' = h.get k') := by
  have hki : ∀ t, ¬ k = ⟨1, t⟩ := fun t e => by rw [e] at hk; simp at hk
  have hki' : ∀ t, ¬ (⟨1, t⟩ : Key) = k := fun t e => hki t e.symm
  have hix := indexFunc_spec (pp := pp) f b hb P l hl hP
  simp at hix
  have hcall := fun x hx => hP x hx 1
  rcases index_split P l 0 with ⟨h1, h2⟩ | ⟨A, d, R, hlA, h1, h2⟩
  · refine ⟨h, [], ?_, by rw [h2]; simpa using hg, fun _ _ _ => rfl⟩
    unfold bodyD
    simp [indexP, h1] at hix
    rw [h2]
    simp [fn169, hg, hix, hb]
  · have hlen : l.length = A.length + 1 + R.length := by rw [hlA]; simp; omega
    have loop := loop_fold (cx := cxT pp) (d := 1) (c := c169_0) R (fun (K : List Eqn) x => if P x then K else K ++ [x])
      (fun i K s => K.length ≤ i ∧ (∃ cs S, S.length + K.length = i + 1 ∧ cs = (((A ++ K) ++ (S ++ R.drop i)).flatMap cEqn).map .p ∧ s.h.get k = ⟨ver, false, some (.cells cs)⟩) ∧ s.env 0 = .ref k ver 0 l.length 2 false ∧ s.env 1 = .p (.func f [] b) ∧
        s.env 5 = .p (.int .i64 (A.length + K.length : Nat)) ∧ s.env 6 = .p (.int .i64 (A.length + 1 + i : Nat)) ∧ (∀ k' : Key, k'.d = 0 → k' ≠ k → s.h.get k' = h.get k')) (.ex 0) (by simp)
      (by
        rintro i K ⟨env, hh⟩ x rest hi hx hd ⟨hKi, ⟨cs, S, hSK, hcs, g⟩, h0, h1', h5, h6, hfr⟩
        simp only at g h0 h1' h5 h6 hfr
        have hxl : x ∈ l := by rw [hlA]; simp [mem_drop hd]
        have hc := hcall x hxl
        simp at hc
        obtain ⟨s0, S', rfl⟩ : ∃ s0 S', S = s0 :: S' := by
          cases S with
          | nil => simp at hSK; omega
          | cons a b => exact ⟨a, b, rfl⟩
        simp at hSK
        have hcl : cs.length = l.length * 2 := by
          rw [hcs]; simp [hd, hlen]
          have := congrArg List.length hd
          simp at this
          omega
        have hload := cs_load (M := A ++ K ++ s0 :: S') (x := x) (T := rest) (cs := cs) (n := A.length + 1 + i) (by simp; omega) (by rw [hcs, hd]; simp)
        have hw : IntKind.i64.wrap (((A.length + 1 + i : Nat) : Int) + 1) = ((A.length + 1 + (i + 1) : Nat) : Int) := by rw [i64_id] <;> omega
        have hw2 : IntKind.i64.wrap (((A.length + K.length : Nat) : Int) + 1) = ((A.length + (K.length + 1) : Nat) : Int) := by rw [i64_id] <;> omega
        have t1 : ((A.length + 1 + i : Nat) : Int) < l.length := by omega
        have t2 : A.length + 1 + i < l.length := by omega
        have t3 : (A.length + 1 + i) * 2 + 2 ≤ l.length * 2 := by omega
        have t4 : A.length + K.length < l.length := by omega
        have t5 : (A.length + K.length) * 2 + 2 ≤ l.length * 2 := by omega
        cases c : P x
        · have hst := cs_store (M := A ++ K) (s0 := s0) (x := x) (T := S' ++ x :: rest) (cs := cs) (by rw [hcs, hd]; simp)
          simp only [List.length_append] at hst
          generalize hN : A.length + 1 + i = N at *
          generalize hM : A.length + K.length = m at *
          simp [-Prod.exists, c169_0, g, h0, h1', h5, h6, hki, hki', hcl, hload, hw, hw2, t1, t2, t3, t4, t5, hc, c]
          refine ⟨hKi, ⟨_, S' ++ [x], ?_, ?_, rfl⟩, ?_⟩
          · simp; omega
          · rw [hst, drop_next hd]; simp
          · intro k' e1 e2
            have e3 : ∀ t, ¬ k' = ⟨1, t⟩ := fun t e => by rw [e] at e1; simp at e1
            simp [e2, e3, hfr k' e1 e2]
        · generalize hN : A.length + 1 + i = N at *
          generalize hM : A.length + K.length = m at *
          simp [-Prod.exists, c169_0, g, h0, h1', h5, h6, hki, hki', hcl, hload, hw, hw2, t1, t2, t3, t4, t5, hc, c]
          refine ⟨by omega, ⟨cs, s0 :: S' ++ [x], ?_, ?_, rfl⟩, by omega, ?_⟩
          · simp; omega
          · rw [hcs, hd, drop_next hd]; simp
          · intro k' e1 e2
            have e3 : ∀ t, ¬ k' = ⟨1, t⟩ := fun t e => by rw [e] at e1; simp at e1
            simp [e3, hfr k' e1 e2])
      (by
        rintro K ⟨env, hh⟩ ⟨hKi, ⟨cs, S, hSK, hcs, g⟩, h0, h1', h5, h6, hfr⟩
        simp only at g h0 h1' h5 h6 hfr
        have t1 : ¬ ((A.length + 1 + R.length : Nat) : Int) < l.length := by omega
        generalize hN : A.length + 1 + R.length = N at *
        simp [-Prod.exists, c169_0, h0, h6, t1]
        exact ⟨hKi, ⟨cs, S, hSK, by simpa using hcs, g⟩, h1', by simpa using h5, hfr⟩)
    have hfold := keep_fold P R []
    rw [List.nil_append] at hfold
    unfold bodyD
    simp [indexP, h1] at hix
    have hw : IntKind.i64.wrap ((A.length : Int) + 1) = ((A.length + 1 : Nat) : Int) := by rw [i64_id] <;> omega
    have hne : ¬ ((A.length : Int) = -1) := by omega
    simp [fn169, hg, hix, hb, hne, hw]
    generalize hX : codeD (cxT pp) 1 (ACode.loop c169_0) _ = X
    obtain ⟨e, env, hh, rfl, q⟩ := at_code hX (loop [] _ (by
      refine ⟨by simp, ⟨(l.flatMap cEqn).map .p, [d], by simp, by rw [hlA]; simp, by simpa using hg⟩, by simp, by simp, by simp, by simp, fun _ _ _ => rfl⟩))
    rw [hfold] at q
    simp only at q
    obtain ⟨rfl, hKi, ⟨cs, S, hSK, hcs, g⟩, q0, q1, q5, q6, hfr⟩ := q
    try simp only at g q0 q1 q5 q6 hfr
    have hS : 0 < S.length := by omega
    have hcl : cs.length = l.length * 2 := by
      rw [hcs]; simp [hlen]; omega
    have htk : cs.take ((A.length + (keepP P R).length) * 2) = (((A ++ keepP P R).flatMap cEqn).map .p) := by
      have e1 : (A ++ keepP P R ++ (S ++ R.drop R.length)).take (A.length + (keepP P R).length) = A ++ keepP P R := List.take_left' (by simp)
      rw [hcs, pflat_take, e1]
    rw [h2]
    generalize hm : A.length + (keepP P R).length = m at *
    have t1 : m < l.length := by omega
    have t2 : m ≤ l.length := by omega
    have t3 : ¬ l.length ≤ m := by omega
    have t4 : ¬ l.length - m = 0 := by omega
    have t5 : m * 2 + (l.length - m) * 2 = l.length * 2 := by omega
    have t6 : ¬ m = l.length := by omega
    have t7 : m * 2 ≤ l.length * 2 := by omega
    simp [g, q0, q5, hcl, t1, t2, t3, t4, t5, t6, t7]
    refine ⟨_, ⟨hm.symm, rfl⟩, ⟨(List.replicate (l.length - m) [AV.p (.int .i64 0), AV.p (.frz .nil 0 [])]).flatten ++ cs.drop (l.length * 2), ?_⟩, ?_⟩
    · rw [set_getk, if_pos rfl, htk]
      simp only [List.flatMap_append, List.map_append, List.append_assoc]
    · intro k' e1 e2
      rw [set_getk, if_neg e2]
      exact hfr k' e1 e2

/-! ### without -/
theorem without1_spec (x : Eqn) (id : Int) : ownD (cxT pp) 171 [.agg (cEqn x), .cptr [.int .i64 id]] = some (.inl (.bool (decide (x.id = id)))) := by
  rw [ownD_of fns_171]
  unfold bodyD
  simp [fn171, ownR]
theorem without1_pred (l : List Eqn) (id : Int) : Pred pp 171 [.cptr [.int .i64 id]] (fun x => decide (x.id = id)) l := by
  intro x _ d h key
  have k := without1_spec (pp := pp) x id
  simp at k
  simp [k]
theorem drop_keep (l : List Eqn) (id : Int) : keepP (fun x => decide (x.id = id)) l = drop l id := rfl
theorem without_spec (l : List Eqn) (hl : l.length < 2 ^ 20) (id : Int) : ownD (cxT pp) 129 [sl cEqn l, .int .i64 id] = some (.inr ((drop l id).length, 2, false, (drop l id).flatMap cEqn)) := by
  have k := fun h hg => delete_spec (pp := pp) 171 [.cptr [.int .i64 id]] (by simp) (fun x => decide (x.id = id)) l (by omega) (without1_pred l id) ⟨0, 6⟩ rfl 1 h hg
  have hl20 : l.length ≤ 1048576 := by omega
  rw [ownD_of fns_129]
  unfold bodyD
  simp [fn129, specClone, hl20]
  generalize hH : markRO _ _ = H
  obtain ⟨h', J, h1, h2, -⟩ := k H (by rw [← hH]; simp)
  rw [drop_keep] at h1 h2
  simp [h1, h2, ownR, drop_keep]

/-! ### with -/
theorem with1_spec (y x : Eqn) : funD (cxT pp) 167 [.agg (cEqn y), .cptr (cEqn x)] = some (.bool (decide (x.id < y.id))) := by
  rw [fun_167]
  unfold closedD bodyD
  simp [fn167]
/-- The list with an element at its place by Id. -/
def withE (l : List Eqn) (x : Eqn) : List Eqn :=
  let out := drop l x.id
  let i := indexP (fun y => decide (x.id < y.id)) out
  let j := if i < 0 then out.length else i.toNat
  out.take j ++ [x] ++ out.drop j
theorem indexP_lt (P : Eqn → Bool) (l : List Eqn) : indexP P l < l.length ∧ -1 ≤ indexP P l := by
  rcases index_split P l 0 with ⟨h1, -⟩ | ⟨A, d, R, hl, h1, -⟩
  · have e : indexP P l = -1 := by simp [indexP, h1]
    omega
  · have e : indexP P l = A.length := by simp [indexP, h1]
    have e2 : l.length = A.length + (R.length + 1) := by rw [hl]; simp
    omega
theorem with_spec (l : List Eqn) (hl : l.length < 2 ^ 19) (x : Eqn) : funD (cxT pp) 128 [sl cEqn l, .agg (cEqn x)] = some (sl cEqn (withE l x)) := by
  have k1 := without_spec (pp := pp) l (by omega) x.id
  have hd : (drop l x.id).length ≤ l.length := List.length_filter_le ..
  have k2 := where_spec (pp := pp) 167 [.cptr (cEqn x)] (by simp) (fun y => decide (x.id < y.id)) (drop l x.id) (by omega) (pred_closed (by simp) (by simp) (by simp) (fun y _ => with1_spec y x))
  have hl20 : (drop l x.id).length + 1 ≤ 1048576 := by omega
  have hi := indexP_lt (fun y => decide (x.id < y.id)) (drop l x.id)
  simp at k1 k2
  rw [fun_128]
  unfold closedD bodyD
  by_cases c : indexP (fun y => decide (x.id < y.id)) (drop l x.id) < 0
  · have hm : ((drop l x.id).length + 1) * 2 = (drop l x.id).length * 2 + 2 := by omega
    have hwE : withE l x = drop l x.id ++ [x] := by simp [withE, c]
    rw [hwE]
    simp [fn128, k1, k2, c, specInsert, hm, hl20]
  · have c2 : 0 ≤ indexP (fun y => decide (x.id < y.id)) (drop l x.id) := by omega
    have c3 : (indexP (fun y => decide (x.id < y.id)) (drop l x.id)).toNat ≤ (drop l x.id).length := by omega
    have hwE : withE l x = (drop l x.id).take (indexP (fun y => decide (x.id < y.id)) (drop l x.id)).toNat ++ [x] ++ (drop l x.id).drop (indexP (fun y => decide (x.id < y.id)) (drop l x.id)).toNat := by simp [withE, c]
    rw [hwE]
    generalize indexP (fun y => decide (x.id < y.id)) (drop l x.id) = I at *
    have hm : ((drop l x.id).length + 1) * 2 = I.toNat * 2 + (((drop l x.id).length - I.toNat) * 2 + 1 + 1) := by omega
    have hm2 : min I.toNat (drop l x.id).length = I.toNat := by omega
    have hm3 : (drop l x.id).length + 1 = I.toNat + ((drop l x.id).length - I.toNat + 1) := by omega
    have hm4 : (I.toNat + ((drop l x.id).length - I.toNat + 1)) * 2 = I.toNat * 2 + (((drop l x.id).length - I.toNat) * 2 + 1 + 1) := by omega
    simp [fn128, k1, k2, c, c2, c3, specInsert, pflat_take, pflat_drop, hm2, hm3, hm4, show I.toNat + ((drop l x.id).length - I.toNat + 1) ≤ 1048576 by omega]
end Go.Va
end
section
open Go.Proofs
namespace Go.Va
variable {pp : Option PrimFn}

@[simp] theorem beq_ptr {k : Key} {v o : Nat} : AV.beq (.ptr k v o) (.ptr k v o) = true := by simp [AV.beq]
/-! ### first -/
structure Tst where
  e : Int
  f : FuncId
  a : List PV
  b : List PV
  r : Bool
def cTst (t : Tst) : List PV := [.int .i64 t.e, .func t.f t.a t.b]
@[simp] theorem cTst_len (t : Tst) : (cTst t).length = 2 := by simp [cTst]
@[simp high] theorem tsts_len (p : List Tst) : (p.flatMap cTst).length = p.length * 2 := flat_len cTst_len p
@[simp] theorem tsts_drop (p : List Tst) (i : Nat) : (p.flatMap cTst).drop (i * 2) = (p.drop i).flatMap cTst := flat_drop cTst_len p i
structure TstOK (pp : Option PrimFn) (t : Tst) : Prop where
  call : ∀ (h : Hp) (key : Key), callD (cxT pp) 0 t.f (t.a.map .p ++ t.b.map .p) h key = some (.p (.bool t.r), h)
/-- The first error. -/
def firstE (l : List Tst) : Int := (findL (fun _ (t : Tst) => if t.r then none else some t.e) l 0).getD 0
theorem first_spec (l : List Tst) (hl : l.length < 2 ^ 30) (hP : ∀ t ∈ l, TstOK pp t) : funD (cxT pp) 108 [.frz .any l.length (l.flatMap cTst)] = some (.int .i64 (firstE l)) := by
  have loop := loop_find (cx := cxT pp) (d := 0) (c := c108_0) l (fun _ (t : Tst) => if t.r then none else some t.e)
    (fun i s => s.env 5 = .p (.frz .any l.length (l.flatMap cTst)) ∧ s.env 6 = .p (.int .i64 l.length) ∧ s.env 7 = .p (.int .i64 i))
    (fun z a => a.1 = .ret ∧ a.2.env 2 = .p (.int .i64 z)) (.ex 0) (by simp)
    (by
      rintro i ⟨env, h⟩ t rest hi hx hd ⟨h5, h6, h7⟩
      simp only at h5 h6 h7
      have hw := inc_id hi (by omega)
      have hi2 : (i : Int) < l.length := by omega
      have hc := (hP t (mem_drop hd)).call
      cases c : t.r
      · rw [c] at hc
        simp [c108_0, h5, h6, h7, hi, hi2, hd, cTst, hc, c]
      · rw [c] at hc
        simp [c108_0, h5, h6, h7, hi, hi2, hd, cTst, hc, c, hw])
    (by
      rintro ⟨env, h⟩ ⟨h5, h6, h7⟩
      simp only at h5 h6 h7
      simp [c108_0, h5, h6, h7])
  rw [fun_108]
  unfold closedD bodyD firstE
  simp [fn108]
  generalize hx : codeD (cxT pp) 0 (ACode.loop c108_0) _ = X
  obtain ⟨e, env, h, rfl, q⟩ := at_code hx (loop _ (by simp))
  simp only at q
  revert q
  cases findL (fun _ (t : Tst) => if t.r then none else some t.e) l 0 with
  | none => simp +contextual
  | some z => simp +contextual
theorem tst_closed {e : Int} {f : FuncId} {a b : List PV} {r : Bool} (hf : (cxT pp).prim f = none) (hf2 : (cxT pp).pol f = .closed) (ha : PV.erL a = a) (hb : PV.erL b = b) (hk : funD (cxT pp) f (a ++ b) = some (.bool r)) : TstOK pp ⟨e, f, a, b, r⟩ := by
  refine ⟨fun h key => ?_⟩
  rw [call_cl hf hf2]
  simp [ha, hb, hk]

/-! ### The closures -/
def okId (s : Sys) (e : Edt) : Bool := decide (e.id = 0) || (decide (0 < e.id) && decide (e.id < 1000000) && !has s e.id)
theorem add1_spec (s : Sys) (h1 : s.eqs.length < 2 ^ 30) (h2 : s.neqs.length < 2 ^ 30) (e : Edt) : funD (cxT pp) 124 [.cptr (cWork s e)] = some (.bool (okId s e)) := by
  have k := exists_spec (pp := pp) s h1 h2 e
  simp at k
  rw [fun_124]
  unfold closedD bodyD okId
  by_cases a1 : e.id = 0
  · simp [fn124, a1]
  · by_cases a2 : 0 < e.id
    · by_cases a3 : e.id < 1000000
      · cases a4 : has s e.id <;> simp [fn124, a1, a2, a3, k, a4]
      · simp [fn124, a1, a2, a3]
    · simp [fn124, a1, a2]
def okBig (s : Sys) (e : Edt) (n : Nat) : Bool := decide (n < 12) && (decide (0 < e.id) || decide (s.next < 1000000))
theorem add2_spec (s : Sys) (e : Edt) (l : List Eqn) (R : List PV) (hR : PV.erL R = R) : funD (cxT pp) 126 [.cptr [.cptr (sl cEqn l :: R)], .cptr (cWork s e)] = some (.bool (okBig s e l.length)) := by
  rw [fun_126]
  unfold closedD bodyD okBig
  by_cases a1 : l.length < 12
  · have a1' : (l.length : Int) < 12 := by omega
    by_cases a2 : 0 < e.id
    · simp [fn126, a1, a1', a2]
    · simp [fn126, a1, a1', a2]
  · have a1' : ¬ (l.length : Int) < 12 := by omega
    simp [fn126, a1, a1']
def okFlip (i k : Int) (s : Sys) : Bool := (decide (0 ≤ i) && decide (s.neqs.length < 12)) || (decide (0 ≤ k) && decide (s.eqs.length < 12))
theorem flip1_spec (s : Sys) (e : Edt) (i k : Int) : funD (cxT pp) 130 [.cptr [.int .i64 i], .cptr (cWork s e), .cptr [.int .i64 k]] = some (.bool (okFlip i k s)) := by
  rw [fun_130]
  unfold closedD bodyD okFlip
  by_cases a1 : 0 ≤ i
  · by_cases a2 : s.neqs.length < 12
    · have a2' : (s.neqs.length : Int) < 12 := by omega
      simp [fn130, a1, a2, a2']
    · have a2' : ¬ (s.neqs.length : Int) < 12 := by omega
      by_cases a3 : 0 ≤ k
      · by_cases a4 : s.eqs.length < 12
        · have a4' : (s.eqs.length : Int) < 12 := by omega
          simp [fn130, a1, a2, a2', a3, a4, a4']
        · have a4' : ¬ (s.eqs.length : Int) < 12 := by omega
          simp [fn130, a1, a2, a2', a3, a4, a4']
      · simp [fn130, a1, a2, a2', a3]
  · by_cases a3 : 0 ≤ k
    · by_cases a4 : s.eqs.length < 12
      · have a4' : (s.eqs.length : Int) < 12 := by omega
        simp [fn130, a1, a3, a4, a4']
      · have a4' : ¬ (s.eqs.length : Int) < 12 := by omega
        simp [fn130, a1, a3, a4, a4']
    · simp [fn130, a1, a3]

/-! ### add -/
def eqnsAddW (s : Sys) (e : Edt) : Sys :=
  if e.neq = true then { s with neqs := withE s.neqs ⟨if e.id = 0 then s.next else e.id, e.p⟩, next := max s.next ((if e.id = 0 then s.next else e.id) + 1) }
  else { s with eqs := withE s.eqs ⟨if e.id = 0 then s.next else e.id, e.p⟩, next := max s.next ((if e.id = 0 then s.next else e.id) + 1) }
theorem first_add (s : Sys) (hs : SW s) (e : Edt) (he : PW e.p) (l : List Eqn) (R : List PV) (hR : PV.erL R = R) :
    funD (cxT pp) 108 [.frz .any 3 [.int .i64 332, .func 124 [] [.cptr (cWork s e)], .int .i64 2, .func 126 [] [.cptr [.cptr (sl cEqn l :: R)], .cptr (cWork s e)], .int .i64 320, .func 127 [.agg (cWork s e)] []]] =
      some (.int .i64 (if okId s e = false then 332 else if okBig s e l.length = false then 2 else if fits e.p s.vars.length = false then 320 else 0)) := by
  have b1 := hs.eqs.1
  have b2 := hs.neqs.1
  have k := first_spec (pp := pp) [⟨332, 124, [], [.cptr (cWork s e)], okId s e⟩, ⟨2, 126, [], [.cptr [.cptr (sl cEqn l :: R)], .cptr (cWork s e)], okBig s e l.length⟩, ⟨320, 127, [.agg (cWork s e)], [], fits e.p s.vars.length⟩] (by simp) (by
    intro t ht
    simp only [List.mem_cons, List.not_mem_nil, or_false] at ht
    rcases ht with rfl | rfl | rfl
    · exact tst_closed (by simp) (by simp) (by simp) (by simp) (add1_spec s (by omega) (by omega) e)
    · exact tst_closed (by simp) (by simp) (by simp) (by simp [hR]) (add2_spec s e l R hR)
    · exact tst_closed (by simp) (by simp) (by simp) (by simp) (wfits_spec s hs.vars e he))
  have e : (if okId s e = false then 332 else if okBig s e l.length = false then 2 else if fits e.p s.vars.length = false then 320 else 0) = firstE [⟨332, 124, [], [.cptr (cWork s e)], okId s e⟩, ⟨2, 126, [], [.cptr [.cptr (sl cEqn l :: R)], .cptr (cWork s e)], okBig s e l.length⟩, ⟨320, 127, [.agg (cWork s e)], [], fits e.p s.vars.length⟩] := by
    cases okId s e <;> cases okBig s e l.length <;> cases fits e.p s.vars.length <;> simp [firstE, findL]
  rw [e]
  exact k

theorem checkAdd_first (s : Sys) (e : Edt) : (if okId s e = false then 332 else if okBig s e (if e.neq = true then s.neqs else s.eqs).length = false then 2 else if fits e.p s.vars.length = false then 320 else 0) = checkAdd s e := by
  unfold checkAdd
  by_cases c1 : e.id < 0 ∨ 999999 < e.id ∨ (0 < e.id ∧ has s e.id = true)
  · have : okId s e = false := by
      simp only [okId, Bool.or_eq_false_iff, Bool.and_eq_false_iff, decide_eq_false_iff_not, Bool.not_eq_false']
      refine ⟨by rcases c1 with h | h | ⟨h, -⟩ <;> omega, ?_⟩
      rcases c1 with h | h | ⟨h, h2⟩
      · exact .inl (.inl (by omega))
      · exact .inl (.inr (by omega))
      · exact .inr h2
    rw [if_pos this, if_pos c1]
  · have : okId s e = true := by
      simp only [not_or, not_and] at c1
      simp only [okId, Bool.or_eq_true, Bool.and_eq_true, decide_eq_true_eq, Bool.not_eq_true']
      by_cases h : e.id = 0
      · exact .inl h
      · exact .inr ⟨⟨by omega, by omega⟩, by simpa using c1.2.2 (by omega)⟩
    rw [if_neg (by simp [this]), if_neg c1]
    simp only [not_or, not_and] at c1
    by_cases c2 : (e.neq = false ∧ 12 ≤ s.eqs.length) ∨ (e.neq = true ∧ 12 ≤ s.neqs.length) ∨ (e.id = 0 ∧ 1000000 ≤ s.next)
    · have : okBig s e (if e.neq = true then s.neqs else s.eqs).length = false := by
        simp only [okBig, Bool.and_eq_false_iff, Bool.or_eq_false_iff, decide_eq_false_iff_not]
        rcases c2 with ⟨h, h2⟩ | ⟨h, h2⟩ | ⟨h, h2⟩
        · left; rw [if_neg (by simp [h])]; omega
        · left; rw [if_pos h]; omega
        · right; omega
      rw [if_pos this, if_pos c2]
    · have : okBig s e (if e.neq = true then s.neqs else s.eqs).length = true := by
        simp only [not_or, not_and] at c2
        simp only [okBig, Bool.and_eq_true, Bool.or_eq_true, decide_eq_true_eq]
        refine ⟨?_, ?_⟩
        · cases h : e.neq
          · have := c2.1 h; simp; omega
          · have := c2.2.1 h; simp; omega
        · by_cases h : e.id = 0
          · have := c2.2.2 h; right; omega
          · left; omega
      rw [if_neg (by simp [this]), if_neg c2]
      cases fits e.p s.vars.length <;> simp

set_option maxHeartbeats 4000000 in
theorem add_spec (s : Sys) (hs : SW s) (e : Edt) (he : PW e.p) : funD (cxT pp) 63 [.agg (cWork s e)] = some (.tup (if checkAdd s e = 0 then [.agg (cSys (eqnsAddW s e)), .int .i64 0] else [.agg (cSys sys0), .int .i64 (checkAdd s e)])) := by
  have b1 := hs.eqs.1
  have b2 := hs.neqs.1
  have b3 := hs.lo
  have b4 := hs.hi
  have hca := checkAdd_first s e
  have w1 : IntKind.i64.wrap (s.next + 1) = s.next + 1 := by rw [i64_id] <;> omega
  have p1 := fun x => with_spec (pp := pp) s.eqs (by omega) x
  have p2 := fun x => with_spec (pp := pp) s.neqs (by omega) x
  simp at p1 p2
  rw [fun_63]
  unfold closedD bodyD
  cases a2 : e.neq
  · have kf := first_add (pp := pp) s hs e he s.eqs ([sl cEqn s.neqs, .int .i64 s.next] ++ cEdt e) (by simp)
    simp only [a2, Bool.false_eq_true, if_false] at hca
    rw [hca] at kf
    simp [a2] at kf
    by_cases c0 : checkAdd s e = 0
    · have hid : e.id = 0 ∨ (0 < e.id ∧ e.id < 1000000) := by
        unfold checkAdd at c0
        split at c0
        · simp at c0
        · omega
      by_cases a1 : e.id = 0
      · have q := p1 ⟨s.next, e.p⟩
        have m1 : max s.next (s.next + 1) = s.next + 1 := by omega
        have m2 : ¬ s.next + 1 ≤ s.next := by omega
        simp at q
        simp [a1] at kf
        simp [fn63, a2, kf, c0, a1, q, w1, m1, m2, eqnsAddW]
      · have q := p1 ⟨e.id, e.p⟩
        have w2 : IntKind.i64.wrap (e.id + 1) = e.id + 1 := by rw [i64_id] <;> omega
        simp at q
        by_cases a3 : s.next < e.id + 1
        · have m1 : max s.next (e.id + 1) = e.id + 1 := by omega
          simp [fn63, a2, kf, c0, a1, q, w2, m1, a3, eqnsAddW]
        · have m1 : max s.next (e.id + 1) = s.next := by omega
          simp [fn63, a2, kf, c0, a1, q, w2, m1, a3, eqnsAddW]
    · simp [fn63, a2, kf, c0, sys0]
  · have kf := first_add (pp := pp) s hs e he s.neqs ([.int .i64 s.next] ++ cEdt e) (by simp)
    simp only [a2, if_true] at hca
    rw [hca] at kf
    simp [a2] at kf
    by_cases c0 : checkAdd s e = 0
    · have hid : e.id = 0 ∨ (0 < e.id ∧ e.id < 1000000) := by
        unfold checkAdd at c0
        split at c0
        · simp at c0
        · omega
      by_cases a1 : e.id = 0
      · have q := p2 ⟨s.next, e.p⟩
        have m1 : max s.next (s.next + 1) = s.next + 1 := by omega
        have m2 : ¬ s.next + 1 ≤ s.next := by omega
        simp at q
        simp [a1] at kf
        simp [fn63, a2, kf, c0, a1, q, w1, m1, m2, eqnsAddW]
      · have q := p2 ⟨e.id, e.p⟩
        have w2 : IntKind.i64.wrap (e.id + 1) = e.id + 1 := by rw [i64_id] <;> omega
        simp at q
        by_cases a3 : s.next < e.id + 1
        · have m1 : max s.next (e.id + 1) = e.id + 1 := by omega
          simp [fn63, a2, kf, c0, a1, q, w2, m1, a3, eqnsAddW]
        · have m1 : max s.next (e.id + 1) = s.next := by omega
          simp [fn63, a2, kf, c0, a1, q, w2, m1, a3, eqnsAddW]
    · simp [fn63, a2, kf, c0, sys0]

/-! ### drop -/
theorem wdrop_spec (s : Sys) (hs : SW s) (e : Edt) : funD (cxT pp) 64 [.agg (cWork s e)] = some (.tup (if has s e.id = true then [.agg (cSys { s with eqs := drop s.eqs e.id, neqs := drop s.neqs e.id }), .int .i64 0] else [.agg (cSys sys0), .int .i64 332])) := by
  have b1 := hs.eqs.1
  have b2 := hs.neqs.1
  have kx := exists_spec (pp := pp) s (by omega) (by omega) e
  have k1 := without_spec (pp := pp) s.eqs (by omega) e.id
  have k2 := without_spec (pp := pp) s.neqs (by omega) e.id
  simp at kx k1 k2
  rw [fun_64]
  unfold closedD bodyD
  cases c : has s e.id
  · simp [fn64, kx, c, sys0]
  · simp [fn64, kx, c, k1, k2]

/-! ### set -/
def eqnsSetW (s : Sys) (e : Edt) : Sys := if 0 ≤ find s.eqs e.id then { s with eqs := withE s.eqs ⟨e.id, e.p⟩ } else { s with neqs := withE s.neqs ⟨e.id, e.p⟩ }
theorem first_set (s : Sys) (hs : SW s) (e : Edt) (he : PW e.p) :
    funD (cxT pp) 108 [.frz .any 2 [.int .i64 332, .func 125 [.agg (cWork s e)] [], .int .i64 320, .func 127 [.agg (cWork s e)] []]] =
      some (.int .i64 (if has s e.id = false then 332 else if fits e.p s.vars.length = false then 320 else 0)) := by
  have b1 := hs.eqs.1
  have b2 := hs.neqs.1
  have k := first_spec (pp := pp) [⟨332, 125, [.agg (cWork s e)], [], has s e.id⟩, ⟨320, 127, [.agg (cWork s e)], [], fits e.p s.vars.length⟩] (by simp) (by
    intro t ht
    simp only [List.mem_cons, List.not_mem_nil, or_false] at ht
    rcases ht with rfl | rfl
    · exact tst_closed (by simp) (by simp) (by simp) (by simp) (exists_spec s (by omega) (by omega) e)
    · exact tst_closed (by simp) (by simp) (by simp) (by simp) (wfits_spec s hs.vars e he))
  have e : (if has s e.id = false then 332 else if fits e.p s.vars.length = false then 320 else 0) = firstE [⟨332, 125, [.agg (cWork s e)], [], has s e.id⟩, ⟨320, 127, [.agg (cWork s e)], [], fits e.p s.vars.length⟩] := by
    cases has s e.id <;> cases fits e.p s.vars.length <;> simp [firstE, findL]
  rw [e]
  exact k
set_option maxHeartbeats 4000000 in
theorem set_spec (s : Sys) (hs : SW s) (e : Edt) (he : PW e.p) : funD (cxT pp) 65 [.agg (cWork s e)] = some (.tup (if has s e.id = false then [.agg (cSys sys0), .int .i64 332] else if fits e.p s.vars.length = false then [.agg (cSys sys0), .int .i64 320] else [.agg (cSys (eqnsSetW s e)), .int .i64 0])) := by
  have b1 := hs.eqs.1
  have b2 := hs.neqs.1
  have kf := first_set (pp := pp) s hs e he
  have k1 := byId_spec (pp := pp) s.eqs (by omega) e.id
  have p1 := with_spec (pp := pp) s.eqs (by omega) ⟨e.id, e.p⟩
  have p2 := with_spec (pp := pp) s.neqs (by omega) ⟨e.id, e.p⟩
  simp at kf p1 p2
  rw [fun_65]
  unfold closedD bodyD
  cases c1 : has s e.id
  · simp [fn65, kf, c1, sys0]
  · cases c2 : fits e.p s.vars.length
    · simp [fn65, kf, c1, c2, sys0]
    · by_cases c3 : 0 ≤ find s.eqs e.id
      · simp [fn65, kf, c1, c2, k1, c3, p1, eqnsSetW]
      · simp [fn65, kf, c1, c2, k1, c3, p2, eqnsSetW]

/-! ### flip -/
def eqnsFlipW (s : Sys) (e : Edt) : Sys :=
  if 0 ≤ find s.eqs e.id then { s with eqs := drop s.eqs e.id, neqs := withE s.neqs (getE s.eqs e.id) } else { s with eqs := withE s.eqs (getE s.neqs e.id), neqs := drop s.neqs e.id }
theorem first_flip (s : Sys) (hs : SW s) (e : Edt) (i k : Int) :
    funD (cxT pp) 108 [.frz .any 2 [.int .i64 332, .func 125 [.agg (cWork s e)] [], .int .i64 2, .func 130 [] [.cptr [.int .i64 i], .cptr (cWork s e), .cptr [.int .i64 k]]]] =
      some (.int .i64 (if has s e.id = false then 332 else if okFlip i k s = false then 2 else 0)) := by
  have b1 := hs.eqs.1
  have b2 := hs.neqs.1
  have kk := first_spec (pp := pp) [⟨332, 125, [.agg (cWork s e)], [], has s e.id⟩, ⟨2, 130, [], [.cptr [.int .i64 i], .cptr (cWork s e), .cptr [.int .i64 k]], okFlip i k s⟩] (by simp) (by
    intro t ht
    simp only [List.mem_cons, List.not_mem_nil, or_false] at ht
    rcases ht with rfl | rfl
    · exact tst_closed (by simp) (by simp) (by simp) (by simp) (exists_spec s (by omega) (by omega) e)
    · exact tst_closed (by simp) (by simp) (by simp) (by simp) (flip1_spec s e i k))
  have e : (if has s e.id = false then 332 else if okFlip i k s = false then 2 else 0) = firstE [⟨332, 125, [.agg (cWork s e)], [], has s e.id⟩, ⟨2, 130, [], [.cptr [.int .i64 i], .cptr (cWork s e), .cptr [.int .i64 k]], okFlip i k s⟩] := by
    cases has s e.id <;> cases okFlip i k s <;> simp [firstE, findL]
  rw [e]
  exact kk
set_option maxHeartbeats 4000000 in
theorem flip_spec (s : Sys) (hs : SW s) (e : Edt) : funD (cxT pp) 66 [.agg (cWork s e)] = some (.tup (if has s e.id = false then [.agg (cSys sys0), .int .i64 332] else if okFlip (find s.eqs e.id) (find s.neqs e.id) s = false then [.agg (cSys sys0), .int .i64 2] else [.agg (cSys (eqnsFlipW s e)), .int .i64 0])) := by
  have b1 := hs.eqs.1
  have b2 := hs.neqs.1
  have kf := first_flip (pp := pp) s hs e (find s.eqs e.id) (find s.neqs e.id)
  have k1 := byId_spec (pp := pp) s.eqs (by omega) e.id
  have k2 := byId_spec (pp := pp) s.neqs (by omega) e.id
  have k3 := without_spec (pp := pp) s.eqs (by omega) e.id
  have k4 := without_spec (pp := pp) s.neqs (by omega) e.id
  have p1 := fun x => with_spec (pp := pp) s.eqs (by omega) x
  have p2 := fun x => with_spec (pp := pp) s.neqs (by omega) x
  simp at kf k3 k4 p1 p2
  rw [fun_66]
  unfold closedD bodyD
  cases c1 : has s e.id
  · simp [fn66, kf, k1, k2, c1, sys0]
  · cases c2 : okFlip (find s.eqs e.id) (find s.neqs e.id) s
    · simp [fn66, kf, k1, k2, c1, c2, sys0]
    · by_cases c3 : 0 ≤ find s.eqs e.id
      · obtain ⟨r, hr⟩ := find_get c3
        have hl := drop_lt hr
        have hl' : find s.eqs e.id < s.eqs.length := by omega
        have q := p2 (getE s.eqs e.id)
        simp [fn66, kf, k1, k2, k3, k4, c1, c2, c3, hr, hl', q, eqnsFlipW]
      · have c4 : 0 ≤ find s.neqs e.id := by
          simp [has, c3] at c1
          exact c1
        obtain ⟨r, hr⟩ := find_get c4
        have hl := drop_lt hr
        have hl' : find s.neqs e.id < s.neqs.length := by omega
        have q := p1 (getE s.neqs e.id)
        simp [fn66, kf, k1, k2, k3, k4, c1, c2, c3, c4, hr, hl', q, eqnsFlipW]

/-! ### Apply -/
def equationsW (s : Sys) (e : Edt) : Sys :=
  if e.kind = 5 then eqnsAddW s e
  else if e.kind = 6 then { s with eqs := drop s.eqs e.id, neqs := drop s.neqs e.id }
  else if e.kind = 7 then eqnsSetW s e
  else eqnsFlipW s e
attribute [simp] mapPut mapFind sameK
set_option maxHeartbeats 4000000 in
theorem wapply_spec (s : Sys) (hs : SW s) (e : Edt) (he : PW e.p) (hdis : ¬ (0 ≤ find s.eqs e.id ∧ 0 ≤ find s.neqs e.id)) (hk : e.kind = 5 ∨ e.kind = 6 ∨ e.kind = 7 ∨ e.kind = 8) :
    funD (cxT pp) 20 [.agg (cSys s), .agg (cEdt e)] = some (.tup (if check s e = 0 then [.agg (cSys (equationsW s e)), .int .i64 0] else [.agg (cSys sys0), .int .i64 (check s e)])) := by
  rw [fun_20]
  unfold closedD bodyD
  rcases hk with hk | hk | hk | hk
  · have k := add_spec (pp := pp) s hs e he
    have hc : check s e = checkAdd s e := by simp [check, hk]
    rw [hc]
    simp [hk] at k
    by_cases c : checkAdd s e = 0
    · simp [c] at k
      simp [fn20, hk, k, c, equationsW]
    · simp [c] at k
      simp [fn20, hk, k, c]
  · have k := wdrop_spec (pp := pp) s hs e
    have hc : check s e = if has s e.id = true then 0 else 332 := by cases h : has s e.id <;> simp [check, hk, checkId, h]
    rw [hc]
    simp [hk] at k
    cases c : has s e.id
    · simp [c] at k
      simp [fn20, hk, k, c]
    · simp [c] at k
      simp [fn20, hk, k, c, equationsW]
  · have k := set_spec (pp := pp) s hs e he
    have hc : check s e = if has s e.id = false then 332 else if fits e.p s.vars.length = false then 320 else 0 := by
      cases h : has s e.id <;> cases h2 : fits e.p s.vars.length <;> simp [check, hk, checkId, h, h2]
    rw [hc]
    simp [hk] at k
    cases c : has s e.id
    · simp [c] at k
      simp [fn20, hk, k, c]
    · cases c2 : fits e.p s.vars.length
      · simp [c, c2] at k
        simp [fn20, hk, k, c, c2]
      · simp [c, c2] at k
        simp [fn20, hk, k, c, c2, equationsW]
  · have k := flip_spec (pp := pp) s hs e
    have hc : check s e = if has s e.id = false then 332 else if okFlip (find s.eqs e.id) (find s.neqs e.id) s = false then 2 else 0 := by
      cases h : has s e.id
      · simp [check, hk, checkId, h]
      · have hh : 0 ≤ find s.eqs e.id ∨ 0 ≤ find s.neqs e.id := by simpa [has] using h
        by_cases c1 : 0 ≤ find s.eqs e.id
        · have c2 : ¬ 0 ≤ find s.neqs e.id := fun h => hdis ⟨c1, h⟩
          by_cases c3 : 12 ≤ s.neqs.length
          · have c4 : ¬ s.neqs.length < 12 := by omega
            simp [check, hk, checkId, h, okFlip, c1, c2, c3, c4]
          · have c4 : s.neqs.length < 12 := by omega
            simp [check, hk, checkId, h, okFlip, c1, c2, c3, c4]
        · have c2 : 0 ≤ find s.neqs e.id := by omega
          by_cases c3 : 12 ≤ s.eqs.length
          · have c4 : ¬ s.eqs.length < 12 := by omega
            simp [check, hk, checkId, h, okFlip, c1, c2, c3, c4]
          · have c4 : s.eqs.length < 12 := by omega
            simp [check, hk, checkId, h, okFlip, c1, c2, c3, c4]
    rw [hc]
    simp [hk] at k
    cases c : has s e.id
    · simp [c] at k
      simp [fn20, hk, k, c]
    · cases c2 : okFlip (find s.eqs e.id) (find s.neqs e.id) s
      · simp [c, c2] at k
        simp [fn20, hk, k, c, c2]
      · simp [c, c2] at k
        simp [fn20, hk, k, c, c2, equationsW]
end Go.Va
end
section
open Go.Proofs
namespace Go.Va
variable {pp : Option PrimFn}

end Go.Va
end
section
open Go.Proofs
namespace Go.Va
variable {pp : Option PrimFn}
set_option maxRecDepth 1000000
theorem sanity_run : runIs pp 16 fn16 [] (.bool true) = true := by kernel_rfl
theorem sanity_spec : funD (cxT pp) 16 [] = some (.bool true) := runIs_fun fns_16 sanity_run
theorem names_run : ([0, 1, 2, 3, 4, 5].all fun (i : Int) => runIs pp 76 fn76 [.str (nameAt i)] (.bool (nameOK (nameAt i)))) = true := by kernel_rfl
theorem name_ok (i : Int) (h0 : 0 ≤ i) (h6 : i < 6) : NameK pp (nameAt i) := by
  have h : i ∈ [0, 1, 2, 3, 4, 5] := by simp; omega
  exact runIs_fun fns_76 (List.all_eq_true.1 names_run i h)
end Go.Va
end
section
open Go.Proofs
namespace Go.Va
variable {pp : Option PrimFn}

/-! ### Name (eliminantref32) -/
def contB (c : UInt8) : Bool := letter c.toNat || (decide (48 ≤ c.toNat) && decide (c.toNat ≤ 57)) || decide (c.toNat = 95)
theorem contB_int (c : UInt8) : contB c = (letter c.toNat || (decide ((48 : Int) ≤ c.toNat) && decide ((c.toNat : Int) ≤ 57)) || decide ((c.toNat : Int) = 95)) := by
  have e1 : decide (48 ≤ c.toNat) = decide ((48 : Int) ≤ c.toNat) := decide_eq_decide.2 (by omega)
  have e2 : decide (c.toNat ≤ 57) = decide ((c.toNat : Int) ≤ 57) := decide_eq_decide.2 (by omega)
  have e3 : decide (c.toNat = 95) = decide ((c.toNat : Int) = 95) := decide_eq_decide.2 (by omega)
  unfold contB
  rw [e1, e2, e3]
theorem ba_size (b : ByteArray) : b.size = b.data.toList.length := by rw [Array.length_toList]; rfl
/-! ### name (system) -/
theorem get!_of {b : ByteArray} {i : Nat} {c : UInt8} (h : b.data.toList[i]? = some c) : b.get! i = c := by
  have h2 : b.data[i]? = some c := by rw [← Array.getElem?_toList]; exact h
  show b.data[i]! = c
  rw [getElem!_def, h2]
theorem decode_lo {b : ByteArray} {i : Nat} {c : UInt8} (h : b.data.toList[i]? = some c) (hc : c.toNat < 128) : Utf8.decode b i = (c.toNat, 1) := by
  have e : b.get! (i + 0) = c := get!_of h
  unfold Utf8.decode
  simp only [e]
  rw [if_pos hc]
theorem decode_hi {b : ByteArray} {i : Nat} {c : UInt8} (h : b.data.toList[i]? = some c) (hc : ¬ c.toNat < 128) : 128 ≤ (Utf8.decode b i).1 := by
  have e : b.get! (i + 0) = c := get!_of h
  unfold Utf8.decode
  simp only [e]
  rw [if_neg hc]
  repeat' split
  all_goals simp [Utf8.runeError]
  all_goals simp_all
  all_goals omega
def nmF : Nat → List UInt8 → Bool
  | _, [] => true
  | i, c :: l => (if i = 0 then letter c.toNat else contB c) && nmF (i + 1) l
theorem nmF_all : ∀ (l : List UInt8) (i : Nat), nmF (i + 1) l = l.all contB
  | [], _ => rfl
  | c :: l, i => by simp [nmF, nmF_all l (i + 1)]
theorem nameOK_eq (b : ByteArray) : nameOK b = (decide (b.size ≤ 12) && nmF 0 b.data.toList && !decide (b = ⟨#[]⟩)) := by
  have hsz := ba_size b
  unfold nameOK
  cases hl : b.data.toList with
  | nil =>
    have : b = ⟨#[]⟩ := by
      cases b with | mk d => simp at hl; subst hl; rfl
    simp [this]
  | cons c l =>
    have hn : ¬ b = ⟨#[]⟩ := by rintro rfl; simp at hl
    rw [hl] at hsz
    simp only [List.length_cons] at hsz
    have e : decide (b.size ≤ 12) = decide (l.length ≤ 11) := decide_eq_decide.2 (by omega)
    simp [nmF, nmF_all, hn, e]
    rw [Bool.and_assoc]
    rfl
def NmInv (b : ByteArray) (pos : Nat) (s : St) : Prop := pos ≤ b.size ∧ s.env 0 = .p (.str b) ∧ ∃ v, s.env 10 = .iter ⟨0, 10⟩ v ∧ s.h.get ⟨0, 10⟩ = ⟨v, false, some (.siter b pos)⟩
def NmQ (b : ByteArray) (pos : Nat) (r : AExit × St) : Prop :=
  (nmF pos (b.data.toList.drop pos) = true ∧ r.1 = .ex 0 ∧ r.2.env 0 = .p (.str b)) ∨ (nmF pos (b.data.toList.drop pos) = false ∧ r.1 = .ret ∧ r.2.env 2 = .p (.bool false))
theorem nm_stop {b : ByteArray} {pos : Nat} {c : UInt8} {rest : List UInt8} (hd : b.data.toList.drop pos = c :: rest) (h1 : letter c.toNat = false) (h2 : pos = 0 ∨ contB c = false) : nmF pos (b.data.toList.drop pos) = false := by
  rw [hd]
  rcases h2 with h2 | h2
  · simp [nmF, h2, h1]
  · by_cases h0 : pos = 0
    · simp [nmF, h0, h1]
    · simp [nmF, h0, h2]
theorem nm_go {b : ByteArray} {pos : Nat} {c : UInt8} {rest : List UInt8} (hd : b.data.toList.drop pos = c :: rest) (h : (if pos = 0 then letter c.toNat else contB c) = true) (r : AExit × St) (hq : NmQ b (pos + 1) r) : NmQ b pos r := by
  have e : b.data.toList.drop (pos + 1) = rest := drop_next hd
  unfold NmQ at *
  rw [e] at hq
  rw [hd]
  have : nmF pos (c :: rest) = nmF (pos + 1) rest := by simp only [nmF, h, Bool.true_and]
  rw [this]
  exact hq
/-- Does the loop end at this rune? -/
def stopR (r : Int) (pos : Nat) : Bool := !letter r && (decide (pos = 0) || (!decide (r = 95) && (decide (r < 48) || decide (57 < r))))
theorem stop_of {b : ByteArray} {pos : Nat} {c : UInt8} {rest : List UInt8} (hd : b.data.toList.drop pos = c :: rest) {r : Int} (hr : r = c.toNat ∨ (128 ≤ r ∧ 128 ≤ c.toNat)) :
    (stopR r pos = true → nmF pos (b.data.toList.drop pos) = false) ∧ (stopR r pos = false → (if pos = 0 then letter c.toNat else contB c) = true) := by
  have hcb := contB_int c
  rcases hr with rfl | ⟨h1, h2⟩
  · constructor
    · intro h
      simp only [stopR, Bool.and_eq_true, Bool.not_eq_true'] at h
      refine nm_stop hd h.1 ?_
      by_cases p0 : pos = 0
      · exact .inl p0
      · right
        have h3 := h.2
        simp only [p0, decide_false, Bool.false_or, Bool.and_eq_true, Bool.not_eq_true', Bool.or_eq_true, decide_eq_true_eq, decide_eq_false_iff_not] at h3
        rw [hcb, h.1]
        simp only [Bool.false_or, Bool.or_eq_false_iff, Bool.and_eq_false_iff, decide_eq_false_iff_not]
        omega
    · intro h
      simp only [stopR, Bool.and_eq_false_iff, Bool.not_eq_false'] at h
      by_cases p0 : pos = 0
      · rw [if_pos p0]
        rcases h with h | h
        · exact h
        · simp [p0] at h
      · rw [if_neg p0, hcb]
        rcases h with h | h
        · simp [h]
        · simp only [p0, decide_false, Bool.false_or, Bool.and_eq_false_iff, Bool.not_eq_false', Bool.or_eq_false_iff, decide_eq_true_eq, decide_eq_false_iff_not] at h
          simp only [Bool.or_eq_true, Bool.and_eq_true, decide_eq_true_eq]
          omega
  · have e1 : ∀ z : Int, 128 ≤ z → letter z = false := by
      intro z hz
      simp only [letter, Bool.or_eq_false_iff, Bool.and_eq_false_iff, decide_eq_false_iff_not]
      omega
    constructor
    · intro h
      refine nm_stop hd (e1 _ (by omega)) (.inr ?_)
      rw [hcb, e1 _ (by omega)]
      simp only [Bool.false_or, Bool.or_eq_false_iff, Bool.and_eq_false_iff, decide_eq_false_iff_not]
      omega
    · intro h
      simp only [stopR, e1 r h1, Bool.not_false, Bool.true_and, Bool.or_eq_false_iff, Bool.and_eq_false_iff, decide_eq_false_iff_not, Bool.not_eq_false', decide_eq_true_eq] at h
      omega
set_option maxHeartbeats 8000000 in
theorem sname_spec (b : ByteArray) (hb : b.size < 2 ^ 30) : funD (cxT pp) 148 [.str b] = some (.bool (nameOK b)) := by
  have hsz := ba_size b
  have loop := loop_wf' (cx := cxT pp) (d := 0) (c := c148_0) (NmInv b) (NmQ b) (fun pos => b.size - pos) (by
    rintro pos ⟨env, h⟩ ⟨hp, h0, v, h10, g⟩
    simp only at h0 h10 g
    by_cases hlt : pos < b.size
    · obtain ⟨c, rest, hd⟩ : ∃ c rest, b.data.toList.drop pos = c :: rest := ⟨_, _, List.drop_eq_getElem_cons (by rw [← hsz]; exact hlt)⟩
      have hg : b.data.toList[pos]? = some c := by
        have := congrArg (·[0]?) hd
        simpa [List.getElem?_drop] using this
      obtain ⟨r, hdec, hr, hw1⟩ : ∃ r : Int, ((Utf8.decode b pos).1 : Int) = r ∧ (r = c.toNat ∨ (128 ≤ r ∧ 128 ≤ c.toNat)) ∧ (r < 128 → (Utf8.decode b pos).2 = 1) := by
        refine ⟨_, rfl, ?_⟩
        by_cases hc : c.toNat < 128
        · rw [decode_lo hg hc]; simp
        · have := decode_hi hg hc
          exact ⟨.inr ⟨by omega, by omega⟩, fun h => by omega⟩
      obtain ⟨hstop, hgo⟩ := stop_of hd hr
      by_cases b1 : 65 ≤ r
      · by_cases b2 : r ≤ 90
        · refine .inl ⟨pos + 1, by omega, nm_go hd (hgo ?_), ?_⟩
          · simp [stopR, letter, b1, b2]
          · have hw2 := hw1 (by omega)
            simp [NmInv, c148_0, h0, h10, g, hlt, hdec, hw2, b1, b2]; omega
        · by_cases b3 : 97 ≤ r
          · by_cases b4 : r ≤ 122
            · refine .inl ⟨pos + 1, by omega, nm_go hd (hgo ?_), ?_⟩
              · simp [stopR, letter, b1, b2, b3, b4]
              · have hw2 := hw1 (by omega)
                simp [NmInv, c148_0, h0, h10, g, hlt, hdec, hw2, b1, b2, b3, b4]; omega
            · by_cases p0 : pos = 0
              · subst p0
                refine .inr ?_
                have hst := hstop (by simp [stopR, letter, b1, b2, b3, b4])
                simp [NmQ, c148_0, h0, h10, g, hlt, hdec, b1, b2, b3, b4, hst]
                simpa using hst
              · by_cases c95 : r = 95
                · refine .inl ⟨pos + 1, by omega, nm_go hd (hgo ?_), ?_⟩
                  · simp [stopR, letter, b1, b2, b3, b4, p0, c95]
                  · have hw2 := hw1 (by omega)
                    simp [NmInv, c148_0, h0, h10, g, hlt, hdec, hw2, b1, b2, b3, b4, p0, c95]; omega
                · by_cases c48 : r < 48
                  · refine .inr ?_
                    have hst := hstop (by simp [stopR, letter, b1, b2, b3, b4, p0, c95, c48])
                    simp [NmQ, c148_0, h0, h10, g, hlt, hdec, b1, b2, b3, b4, p0, c95, c48, hst]
                  · by_cases c57 : 57 < r
                    · refine .inr ?_
                      have hst := hstop (by simp [stopR, letter, b1, b2, b3, b4, p0, c95, c48, c57])
                      simp [NmQ, c148_0, h0, h10, g, hlt, hdec, b1, b2, b3, b4, p0, c95, c48, c57, hst]
                    · refine .inl ⟨pos + 1, by omega, nm_go hd (hgo ?_), ?_⟩
                      · simp [stopR, letter, b1, b2, b3, b4, p0, c95, c48, c57]
                      · have hw2 := hw1 (by omega)
                        simp [NmInv, c148_0, h0, h10, g, hlt, hdec, hw2, b1, b2, b3, b4, p0, c95, c48, c57]; omega
          · by_cases p0 : pos = 0
            · subst p0
              refine .inr ?_
              have hst := hstop (by simp [stopR, letter, b1, b2, b3])
              simp [NmQ, c148_0, h0, h10, g, hlt, hdec, b1, b2, b3, hst]
              simpa using hst
            · by_cases c95 : r = 95
              · refine .inl ⟨pos + 1, by omega, nm_go hd (hgo ?_), ?_⟩
                · simp [stopR, letter, b1, b2, b3, p0, c95]
                · have hw2 := hw1 (by omega)
                  simp [NmInv, c148_0, h0, h10, g, hlt, hdec, hw2, b1, b2, b3, p0, c95]; omega
              · by_cases c48 : r < 48
                · refine .inr ?_
                  have hst := hstop (by simp [stopR, letter, b1, b2, b3, p0, c95, c48])
                  simp [NmQ, c148_0, h0, h10, g, hlt, hdec, b1, b2, b3, p0, c95, c48, hst]
                · by_cases c57 : 57 < r
                  · refine .inr ?_
                    have hst := hstop (by simp [stopR, letter, b1, b2, b3, p0, c95, c48, c57])
                    simp [NmQ, c148_0, h0, h10, g, hlt, hdec, b1, b2, b3, p0, c95, c48, c57, hst]
                  · refine .inl ⟨pos + 1, by omega, nm_go hd (hgo ?_), ?_⟩
                    · simp [stopR, letter, b1, b2, b3, p0, c95, c48, c57]
                    · have hw2 := hw1 (by omega)
                      simp [NmInv, c148_0, h0, h10, g, hlt, hdec, hw2, b1, b2, b3, p0, c95, c48, c57]; omega
      · have b3 : ¬ 97 ≤ r := by omega
        · by_cases p0 : pos = 0
          · subst p0
            refine .inr ?_
            have hst := hstop (by simp [stopR, letter, b1, b3])
            simp [NmQ, c148_0, h0, h10, g, hlt, hdec, b1, b3, hst]
            simpa using hst
          · by_cases c95 : r = 95
            · refine .inl ⟨pos + 1, by omega, nm_go hd (hgo ?_), ?_⟩
              · simp [stopR, letter, b1, b3, p0, c95]
              · have hw2 := hw1 (by omega)
                simp [NmInv, c148_0, h0, h10, g, hlt, hdec, hw2, b1, b3, p0, c95]; omega
            · by_cases c48 : r < 48
              · refine .inr ?_
                have hst := hstop (by simp [stopR, letter, b1, b3, p0, c95, c48])
                simp [NmQ, c148_0, h0, h10, g, hlt, hdec, b1, b3, p0, c95, c48, hst]
              · by_cases c57 : 57 < r
                · refine .inr ?_
                  have hst := hstop (by simp [stopR, letter, b1, b3, p0, c95, c48, c57])
                  simp [NmQ, c148_0, h0, h10, g, hlt, hdec, b1, b3, p0, c95, c48, c57, hst]
                · refine .inl ⟨pos + 1, by omega, nm_go hd (hgo ?_), ?_⟩
                  · simp [stopR, letter, b1, b3, p0, c95, c48, c57]
                  · have hw2 := hw1 (by omega)
                    simp [NmInv, c148_0, h0, h10, g, hlt, hdec, hw2, b1, b3, p0, c95, c48, c57]; omega
    · refine .inr ?_
      have e : pos = b.size := by omega
      have hn : nmF pos (b.data.toList.drop pos) = true := by
        rw [List.drop_eq_nil_of_le (by omega)]; rfl
      simp [c148_0, h0, h10, g, hlt, NmQ, hn])
  rw [fun_148]
  unfold closedD bodyD
  rw [nameOK_eq]
  by_cases a1 : b.size ≤ 12
  · have a1' : ¬ (12 : Int) < b.size := by omega
    simp [fn148, a1, a1']
    generalize hx : codeD (cxT pp) 0 (ACode.loop c148_0) _ = X
    obtain ⟨e, env, h, rfl, q⟩ := at_code hx (loop 0 _ (by simp [NmInv]))
    simp only [NmQ, List.drop_zero] at q
    rcases q with ⟨q1, rfl, q2⟩ | ⟨q1, rfl, q2⟩
    · simp [q1, q2]
    · simp [q1, q2]
  · have a1' : (12 : Int) < b.size := by omega
    simp [fn148, a1, a1']
end Go.Va
end
section
open Go.Proofs
namespace Go.Va
variable {pp : Option PrimFn}
end Go.Va
end
section
open Go.Proofs
namespace Go.Va

/-! ### mcmp -/
theorem cmpL_eq : ∀ {a b : List Int}, a.length = b.length → cmpL (a.zip b) = 0 → a = b
  | [], [], _, _ => rfl
  | [], _ :: _, h, _ => by simp at h
  | _ :: _, [], h, _ => by simp at h
  | x :: a, y :: b, h, hc => by
    simp only [List.zip_cons_cons, cmpL] at hc
    split at hc
    · simp at hc
    · split at hc
      · simp at hc
      · have : x = y := by omega
        subst this
        rw [cmpL_eq (by simpa using h) hc]
theorem mcmp_eq {a b : Mono} (h : mcmp a b = 0) : a = b := by
  obtain ⟨a, ha⟩ := a
  obtain ⟨b, hb⟩ := b
  have : a = b := cmpL_eq (by rw [ha, hb]) h
  subst this; rfl
theorem cmpL_self : ∀ (a : List Int), cmpL (a.zip a) = 0
  | [] => rfl
  | x :: a => by simp [cmpL, cmpL_self a]
theorem cmpL_trans : ∀ {a b c : List Int}, a.length = b.length → b.length = c.length → 0 < cmpL (a.zip b) → 0 < cmpL (b.zip c) → 0 < cmpL (a.zip c)
  | [], [], [], _, _, h, _ => by simp [cmpL] at h
  | [], _ :: _, _, h, _, _, _ => by simp at h
  | _ :: _, [], _, h, _, _, _ => by simp at h
  | _, [], _ :: _, _, h, _, _ => by simp at h
  | _, _ :: _, [], _, h, _, _ => by simp at h
  | x :: a, y :: b, z :: c, h1, h2, h3, h4 => by
    simp only [List.zip_cons_cons, cmpL] at h3 h4 ⊢
    split at h3
    · simp at h3
    · rename_i g1
      split at h4
      · simp at h4
      · rename_i g2
        by_cases g3 : x < z
        · omega
        · rw [if_neg g3]
          by_cases g4 : z < x
          · rw [if_pos g4]; decide
          · rw [if_neg g4]
            have e1 : x = z := by omega
            have e2 : x = y := by omega
            subst e1; subst e2
            simp at h3 h4
            exact cmpL_trans (by simpa using h1) (by simpa using h2) h3 h4
theorem mcmp_trans {a b c : Mono} (h1 : 0 < mcmp a b) (h2 : 0 < mcmp b c) : 0 < mcmp a c :=
  cmpL_trans (by rw [a.h, b.h]) (by rw [b.h, c.h]) h1 h2
theorem mcmp_ne {a b : Mono} (h : 0 < mcmp a b) : a ≠ b := by
  rintro rfl
  have := cmpL_self a.l
  unfold mcmp at h; omega

/-! ### Valid polynomials have different monomials -/
abbrev monos (p : Poly) : List Mono := p.map (·.m)
theorem pvF_nodup : ∀ (p : Poly) (o : Option Mono), pvF o p = true → (monos p).Nodup ∧ ∀ m, o = some m → ∀ t ∈ p, 0 < mcmp m t.m
  | [], _, _ => by simp
  | t :: p, o, h => by
    simp only [pvF, Bool.and_eq_true] at h
    obtain ⟨h1, h2⟩ := pvF_nodup p (some t.m) h.2
    refine ⟨?_, ?_⟩
    · simp only [List.map_cons, List.nodup_cons]
      refine ⟨?_, h1⟩
      intro hm
      obtain ⟨u, hu, he⟩ := List.mem_map.1 hm
      exact mcmp_ne (h2 _ rfl u hu) he.symm
    · rintro m rfl u hu
      have h3 : 0 < mcmp m t.m := by
        have := h.1
        simp [tok] at this
        exact this.2
      rcases List.mem_cons.1 hu with rfl | hu
      · exact h3
      · exact mcmp_trans h3 (h2 _ rfl u hu)
theorem pvalid_nodup {p : Poly} (h : pvalid p = true) : (monos p).Nodup := (pvF_nodup p none h).1

/-! ### Adding a term that is not there -/
theorem padd_one : ∀ (p : Poly) (b : Term), (∀ a ∈ p, mcmp a.m b.m ≠ 0) → List.Perm (padd p [b]) (p ++ [b])
  | [], b, _ => by simp [padd]
  | a :: p, b, h => by
    unfold padd
    split
    · exact List.Perm.cons a (padd_one p b fun x hx => h x (List.mem_cons_of_mem _ hx))
    · rename_i h1
      split
      · rw [padd_nil]
        exact (List.perm_append_singleton b (a :: p)).symm
      · rename_i h2
        exact absurd (show mcmp a.m b.m = 0 by omega) (h a (List.mem_cons_self ..))

/-! ### Permutations of variables -/
theorem permG_ne : ∀ (P M : List Int) (acc : List Int) (x : Nat), (∀ y ∈ P, y.toNat ≠ x) → ((P.zip M).foldl permG acc)[x]? = acc[x]?
  | [], _, _, _, _ => rfl
  | _ :: _, [], _, _, _ => rfl
  | p :: P, m :: M, acc, x, h => by
    rw [List.zip_cons_cons, List.foldl_cons, permG_ne P M _ x fun y hy => h y (List.mem_cons_of_mem _ hy)]
    unfold permG
    rw [List.getElem?_set_ne (h p (List.mem_cons_self ..))]
theorem permG_get : ∀ (P M : List Int) (acc : List Int), P.Nodup → (∀ y ∈ P, 0 ≤ y ∧ y.toNat < acc.length) → P.length = M.length → ∀ (i : Nat) (p : Int), P[i]? = some p → ((P.zip M).foldl permG acc)[p.toNat]? = M[i]?
  | [], _, _, _, _, _, i, p, h => by simp at h
  | _ :: _, [], _, _, _, h, _, _, _ => by simp at h
  | q :: P, m :: M, acc, hn, hr, hl, i, p, h => by
    rw [List.zip_cons_cons, List.foldl_cons]
    rw [List.nodup_cons] at hn
    have hq := hr q (List.mem_cons_self ..)
    match i with
    | 0 =>
      simp at h
      subst h
      rw [permG_ne P M _ _ (by
        intro y hy he
        have := hr y (List.mem_cons_of_mem _ hy)
        exact hn.1 (by rwa [show q = y by omega]))]
      unfold permG
      rw [List.getElem?_set_self hq.2]; rfl
    | i + 1 =>
      simp only [List.getElem?_cons_succ] at h ⊢
      exact permG_get P M _ hn.2 (by
        intro y hy
        have := hr y (List.mem_cons_of_mem _ hy)
        unfold permG
        rw [List.length_set]; exact this) (by simpa using hl) i p h
theorem nodup_all : (nat4.all fun a => nat4.all fun b => decide (rotL a b).Nodup && decide (swpL a b).Nodup) = true := by decide
theorem isPerm_nodup {l : List Int} (h : IsPerm l) : l.Nodup := by
  obtain ⟨a, b, ha, hb, h⟩ := h
  have := List.all_eq_true.1 (List.all_eq_true.1 nodup_all a (mem_nat4 ha.1 ha.2)) b (mem_nat4 hb.1 hb.2)
  simp only [Bool.and_eq_true, decide_eq_true_eq] at this
  rcases h with rfl | rfl
  · exact this.1
  · exact this.2
theorem permM_inj {pm a b : Mono} (hp : IsPerm pm.l) (h : permM pm a = permM pm b) : a = b := by
  have hn := isPerm_nodup hp
  have hr : ∀ y ∈ pm.l, 0 ≤ y ∧ y.toNat < mono1.l.length := by
    intro y hy
    have := isPerm_range hp y hy
    have e : mono1.l.length = 8 := mono1.h
    omega
  have hl : (permM pm a).l = (permM pm b).l := by rw [h]
  have : a.l = b.l := by
    apply List.ext_getElem?
    intro i
    by_cases hi : i < 8
    · have hi' : i < pm.l.length := by rw [pm.h]; exact hi
      have g := List.getElem?_eq_getElem hi'
      rw [← permG_get pm.l a.l mono1.l hn hr (by rw [pm.h, a.h]) i _ g, ← permG_get pm.l b.l mono1.l hn hr (by rw [pm.h, b.h]) i _ g]
      exact congrArg (·[_]?) hl
    · rw [List.getElem?_eq_none (by rw [a.h]; omega), List.getElem?_eq_none (by rw [b.h]; omega)]
  obtain ⟨a, ha⟩ := a
  obtain ⟨b, hb⟩ := b
  simp only at this
  subst this; rfl
theorem permG_mem : ∀ (l : List (Int × Int)) (acc : List Int) (x : Int), x ∈ l.foldl permG acc → x ∈ acc ∨ ∃ y ∈ l, y.2 = x
  | [], _, _, h => .inl h
  | y :: l, acc, x, h => by
    rw [List.foldl_cons] at h
    rcases permG_mem l _ x h with h | ⟨z, hz, e⟩
    · unfold permG at h
      rcases List.mem_or_eq_of_mem_set h with h | h
      · exact .inl h
      · exact .inr ⟨y, List.mem_cons_self .., h.symm⟩
    · exact .inr ⟨z, List.mem_cons_of_mem _ hz, e⟩
theorem permM_valid {pm m : Mono} (h : mvalid m = true) : mvalid (permM pm m) = true := by
  unfold mvalid at *
  rw [List.all_eq_true] at *
  intro x hx
  rcases permG_mem _ _ x hx with hx | ⟨⟨p, y⟩, hy, rfl⟩
  · simp [mono1] at hx
    subst hx; rfl
  · exact h _ (List.of_mem_zip hy).2
abbrev pT (pm : Mono) (t : Term) : Term := ⟨t.c, permM pm t.m⟩
theorem permute_go {pm : Mono} (hp : IsPerm pm.l) : ∀ (q out : Poly), (∀ t ∈ q, ∀ a ∈ out, a.m ≠ permM pm t.m) → (monos q).Nodup → List.Perm (q.foldl (permT pm) out) (out ++ q.map (pT pm))
  | [], out, _, _ => by simp
  | t :: q, out, h, hn => by
    rw [List.foldl_cons, List.map_cons]
    simp only [List.map_cons, List.nodup_cons] at hn
    have h1 : List.Perm (permT pm out t) (out ++ [pT pm t]) := padd_one out _ fun a ha he => h t (List.mem_cons_self ..) a ha (mcmp_eq he)
    refine (permute_go hp q _ ?_ hn.2).trans ?_
    · intro u hu a ha
      have := h1.mem_iff.1 ha
      rw [List.mem_append, List.mem_singleton] at this
      rcases this with ha | rfl
      · exact h u (List.mem_cons_of_mem _ hu) a ha
      · intro he
        have := permM_inj hp he
        exact hn.1 (by rw [this]; exact List.mem_map_of_mem hu)
    · have := h1.append_right (q.map (pT pm))
      rwa [List.append_assoc] at this
theorem permute_perm {pm : Mono} (hp : IsPerm pm.l) {p : Poly} (hn : (monos p).Nodup) : List.Perm (permute pm p) (p.map (pT pm)) := by
  have := permute_go hp p [] (by simp) hn
  rwa [List.nil_append] at this
/-- .. with different monomials. -/
def PG (p : Poly) : Prop := PW p ∧ (monos p).Nodup
theorem nodup_pT {pm : Mono} (hp : IsPerm pm.l) {p : Poly} (hn : (monos p).Nodup) : (monos (p.map (pT pm))).Nodup := by
  induction p with
  | nil => simp
  | cons t p ih =>
    simp only [List.map_cons, List.nodup_cons] at hn ⊢
    refine ⟨?_, ih hn.2⟩
    intro h
    simp only [List.map_map, List.mem_map, Function.comp] at h
    obtain ⟨u, hu, he⟩ := h
    exact hn.1 (by rw [← permM_inj hp he]; exact List.mem_map_of_mem hu)
theorem permute_PG {pm : Mono} (hp : IsPerm pm.l) {p : Poly} (h : PG p) : PG (permute pm p) := by
  obtain ⟨⟨h1, h2, h3⟩, h4⟩ := h
  have hq := permute_perm hp h4
  refine ⟨⟨?_, ?_, ?_⟩, ?_⟩
  · intro t ht
    obtain ⟨u, hu, rfl⟩ := List.mem_map.1 (hq.mem_iff.1 ht)
    exact h1 u hu
  · intro t ht
    obtain ⟨u, hu, rfl⟩ := List.mem_map.1 (hq.mem_iff.1 ht)
    exact permM_valid (h2 u hu)
  · rw [hq.length_eq]; simpa using h3
  · exact (hq.map (·.m)).nodup_iff.2 (nodup_pT hp h4)
theorem apart_PG {pm : Mono} (hp : IsPerm pm.l) {p : Poly} (h : PG p) : Apart pm p := by
  intro i t rest hd a ha he
  have hs : p = p.take i ++ t :: rest := by rw [← hd, List.take_append_drop]
  have hn := h.2
  rw [hs] at hn
  simp only [List.map_append, List.map_cons, List.nodup_append] at hn
  have hq := permute_go hp (p.take i) [] (by simp) hn.1
  have := hq.mem_iff.1 ha
  rw [List.nil_append] at this
  obtain ⟨u, hu, rfl⟩ := List.mem_map.1 this
  have e := permM_inj hp (mcmp_eq he)
  exact hn.2.2 _ (List.mem_map_of_mem hu) _ (List.mem_cons_self ..) e

/-! ### Made polynomials -/
theorem padd_mem : ∀ (p q : Poly) (t : Term), t ∈ padd p q → (∃ a ∈ p, t.m = a.m) ∨ (∃ a ∈ q, t.m = a.m)
  | [], q, t, h => by simp only [padd] at h; exact .inr ⟨t, h, rfl⟩
  | a :: p, [], t, h => by simp only [padd] at h; exact .inl ⟨t, h, rfl⟩
  | a :: p, b :: q, t, h => by
    unfold padd at h
    have c1 : ∀ {r : Poly}, (∃ x ∈ r, t.m = x.m) → ∀ {y : Term}, ∃ x ∈ y :: r, t.m = x.m := by
      rintro r ⟨x, hx, e⟩ y
      exact ⟨x, List.mem_cons_of_mem _ hx, e⟩
    split at h
    · rcases List.mem_cons.1 h with rfl | h
      · exact .inl ⟨_, List.mem_cons_self .., rfl⟩
      · rcases padd_mem p (b :: q) t h with h | h
        · exact .inl (c1 h)
        · exact .inr h
    · split at h
      · rcases List.mem_cons.1 h with rfl | h
        · exact .inr ⟨_, List.mem_cons_self .., rfl⟩
        · rcases padd_mem (a :: p) q t h with h | h
          · exact .inl h
          · exact .inr (c1 h)
      · split at h
        · rcases padd_mem p q t h with h | h
          · exact .inl (c1 h)
          · exact .inr (c1 h)
        · rcases List.mem_cons.1 h with rfl | h
          · exact .inl ⟨_, List.mem_cons_self .., rfl⟩
          · rcases padd_mem p q t h with h | h
            · exact .inl (c1 h)
            · exact .inr (c1 h)
  termination_by p q => p.length + q.length
theorem made_go (n : Nat) (deg : Int) (h0 : 0 ≤ deg) (h1 : deg ≤ 13) : ∀ (l : List R5) (out : Poly) (k : Nat), Sm (3 * k) out → (∀ t ∈ out, mvalid t.m = true) → out.length ≤ k →
    Sm (3 * (k + l.length)) (l.foldl (madd n deg) out) ∧ (∀ t ∈ l.foldl (madd n deg) out, mvalid t.m = true) ∧ (l.foldl (madd n deg) out).length ≤ k + l.length
  | [], out, k, a, b, c => ⟨a, b, c⟩
  | r :: l, out, k, a, b, c => by
    rw [List.foldl_cons]
    have hs := padd_sm out _ a (scale1_sm (r.c.tmod 4) (tmod4 r.c) [⟨1, rmono r n deg⟩])
    have hl := padd_len out (scale1 (r.c.tmod 4) [⟨1, rmono r n deg⟩])
    have hl2 := scale1_len (r.c.tmod 4) [⟨1, rmono r n deg⟩]
    simp only [List.length_cons, List.length_nil] at hl2
    have hm : ∀ t ∈ madd n deg out r, mvalid t.m = true := by
      intro t ht
      rcases padd_mem _ _ t ht with ⟨u, hu, e⟩ | ⟨u, hu, e⟩
      · rw [e]; exact b u hu
      · unfold scale1 at hu
        split at hu
        · simp at hu
        · simp at hu
          subst hu
          rw [e]; exact rmono_valid r n deg h0 h1
    have := made_go n deg h0 h1 l (madd n deg out r) (k + 1) (by rw [show 3 * (k + 1) = 3 * k + 3 by omega]; exact hs) hm (by unfold madd; omega)
    rw [List.length_cons, show k + (l.length + 1) = k + 1 + l.length by omega]
    exact this
theorem made_PW (x : RawP) (n : Nat) (deg : Int) (h0 : 0 ≤ deg) (h1 : deg ≤ 13) (terms : Nat) (ht : terms ≤ 4) : PW (made x n deg terms) := by
  have := made_go n deg h0 h1 (x.take terms) [] 0 (by intro t ht; simp at ht) (by simp) (by simp)
  have hl : (x.take terms).length ≤ terms := by simp; omega
  refine ⟨?_, this.2.1, ?_⟩
  · intro t ht
    have := this.1 t ht
    omega
  · have := this.2.2
    unfold made; omega
end Go.Va
end
section
open Go.Proofs
namespace Go.Va
variable {pp : Option PrimFn}

/-! ### Rows of terms -/
def cT (L : Poly) : List AV := (L.flatMap cTerm).map .p
@[simp] theorem cT_len (L : Poly) : (cT L).length = L.length * 12 := by simp [cT]
theorem cT_drop (L : Poly) (i : Nat) : (cT L).drop (i * 12) = cT (L.drop i) := by unfold cT; rw [← List.map_drop, poly_drop]
theorem cT_take (L : Poly) (i : Nat) : (cT L).take (i * 12) = cT (L.take i) := by unfold cT; rw [← List.map_take, poly_take]
theorem cT_app (A B : Poly) : cT (A ++ B) = cT A ++ cT B := by simp [cT]
theorem cT_cons (t : Term) (B : Poly) : cT (t :: B) = (cTerm t).map .p ++ cT B := by simp [cT]
theorem cT_ld {A B : Poly} {t : Term} : ((cT (A ++ t :: B)).drop (A.length * 12)).take 12 = (cTerm t).map .p := by
  rw [cT_drop, List.drop_left' rfl, cT_cons, List.take_left' (by simp)]
theorem cT_st {A B : Poly} {t u : Term} : (cT (A ++ t :: B)).take (A.length * 12) ++ ((cTerm u).map .p ++ (cT (A ++ t :: B)).drop (A.length * 12 + 12)) = cT (A ++ u :: B) := by
  rw [cT_take, List.take_left' rfl, show A.length * 12 + 12 = (A.length + 1) * 12 by omega, cT_drop, cT_app, cT_cons]
  congr 3
  simp

/-! ### The order -/
theorem cmpL_anti : ∀ {a b : List Int}, a.length = b.length → cmpL (b.zip a) = - cmpL (a.zip b)
  | [], [], _ => rfl
  | [], _ :: _, h => by simp at h
  | _ :: _, [], h => by simp at h
  | x :: a, y :: b, h => by
    simp only [List.zip_cons_cons, cmpL]
    by_cases h1 : x < y
    · rw [if_neg (by omega), if_pos h1, if_pos h1]; rfl
    · by_cases h2 : y < x
      · rw [if_pos h2, if_neg h1, if_pos h2]
      · rw [if_neg h2, if_neg h1, if_neg h1, if_neg h2]
        exact cmpL_anti (by simpa using h)
theorem mcmp_anti (a b : Mono) : mcmp b a = - mcmp a b := cmpL_anti (by simp)
/-- Strictly falling. -/
def Desc (L : Poly) : Prop := L.Pairwise fun a b => 0 < mcmp a.m b.m
theorem less_spec (a b : Term) : funD (cxT pp) 237 [.agg (cTerm a), .agg (cTerm b)] = some (.int .i64 (mcmp b.m a.m)) := by
  have k := pcmp_spec (pp := pp) b.m a.m
  rw [fun_237]
  unfold closedD bodyD
  simp [fn237, cTerm, k]

/-! ### insertionSort -/
structure InsSt where
  A : Poly
  B : Poly
def InsInv (k : Key) (ver n i : Nat) (x : Term) (R : Poly) (h0 : Hp) (a : InsSt) (s : St) : Prop :=
  (Desc (a.A ++ a.B) ∧ (∀ b ∈ a.B, 0 < mcmp x.m b.m) ∧ (∀ b ∈ a.A, mcmp b.m x.m ≠ 0) ∧ a.A.length + a.B.length + 1 + R.length = n) ∧
  s.h.get k = ⟨ver, false, some (.cells (cT (a.A ++ x :: (a.B ++ R))))⟩ ∧ s.env 9 = .p (.int .i64 a.A.length) ∧
  (s.env 0 = .ref k ver 0 n 12 false ∧ s.env 1 = .p (.int .i64 0) ∧ s.env 2 = .p (.int .i64 n) ∧ s.env 3 = .p (.func 237 [] []) ∧ s.env 8 = .p (.int .i64 i)) ∧ (∀ k', k' ≠ k → s.h.get k' = h0.get k')
def InsQ (k : Key) (ver n i : Nat) (x : Term) (R : Poly) (h0 : Hp) (a : InsSt) (r : AExit × St) : Prop :=
  r.1 = .ex 2 ∧ ∃ L : Poly, Desc L ∧ L.Perm (a.A ++ x :: a.B) ∧ r.2.h.get k = ⟨ver, false, some (.cells (cT (L ++ R)))⟩ ∧
  (r.2.env 0 = .ref k ver 0 n 12 false ∧ r.2.env 1 = .p (.int .i64 0) ∧ r.2.env 2 = .p (.int .i64 n) ∧ r.2.env 3 = .p (.func 237 [] []) ∧ r.2.env 8 = .p (.int .i64 i)) ∧ (∀ k', k' ≠ k → r.2.h.get k' = h0.get k')
theorem desc_in {A B : Poly} {x : Term} (h : Desc (A ++ B)) (h1 : ∀ b ∈ B, 0 < mcmp x.m b.m) (h2 : ∀ a ∈ A, 0 < mcmp a.m x.m) : Desc (A ++ x :: B) := by
  unfold Desc at *
  rw [List.pairwise_append] at h ⊢
  refine ⟨h.1, List.pairwise_cons.2 ⟨h1, h.2.1⟩, ?_⟩
  intro a ha b hb
  rcases List.mem_cons.1 hb with rfl | hb
  · exact h2 a ha
  · exact h.2.2 a ha b hb
theorem snoc_of {α : Type} {A : List α} (h : A ≠ []) : ∃ A' y, A = A' ++ [y] := ⟨A.dropLast, A.getLast h, (List.dropLast_concat_getLast h).symm⟩
set_option maxHeartbeats 4000000 in
theorem ins_inner {d : Nat} (k : Key) (ver n i : Nat) (x : Term) (R : Poly) (h0 : Hp) (hn : n < 2 ^ 30) (a : InsSt) (s : St) (hs : InsInv k ver n i x R h0 a s) : ∃ r, codeD (cxT pp) d (.loop c269_0) s = some r ∧ InsQ k ver n i x R h0 a r := by
  refine loop_wf' (cx := cxT pp) (d := d) (c := c269_0) (InsInv k ver n i x R h0) (InsQ k ver n i x R h0) (fun a => a.A.length) ?_ a s hs
  rintro ⟨A, B⟩ ⟨env, h⟩ ⟨⟨g1, g2, g3, g4⟩, hg, h9, ⟨e0, e1, e2, e3, e8⟩, hfr⟩
  simp only at g1 g2 g3 g4 hg h9 e0 e1 e2 e3 e8 hfr
  by_cases hA : A = []
  · subst hA
    refine .inr ?_
    simp at h9 hg
    simp [c269_0, h9, e0, e1, e2, e3, e8, InsQ]
    refine ⟨x :: B, ?_, List.Perm.refl _, by simpa using hg, hfr⟩
    exact desc_in (A := []) (by simpa using g1) g2 (by simp)
  · obtain ⟨A', y, rfl⟩ := snoc_of hA
    have hk := less_spec (pp := pp) x y
    have hlen : (A' ++ [y]).length = A'.length + 1 := by simp
    have t1 : 0 < (A' ++ [y]).length := by omega
    have t2 : IntKind.i64.wrap (((A' ++ [y]).length : Int) - 1) = (A'.length : Int) := by rw [i64_id] <;> omega
    have t3 : ((A' ++ [y]).length : Int) < n := by omega
    have t3' : (A' ++ [y]).length < n := by omega
    have t4 : (A'.length : Int) < n := by omega
    have t4' : A'.length < n := by omega
    have hl : (cT (A' ++ y :: x :: (B ++ R))).length = n * 12 := by simp at g4 ⊢; omega
    have e : A' ++ [y] ++ x :: (B ++ R) = A' ++ y :: x :: (B ++ R) := by simp
    rw [e] at hg
    have d1 : ((cT (A' ++ y :: x :: (B ++ R))).drop ((A' ++ [y]).length * 12)).take 12 = (cTerm x).map .p := by rw [← e]; exact cT_ld
    have d2 : ((cT (A' ++ y :: x :: (B ++ R))).drop (A'.length * 12)).take 12 = (cTerm y).map .p := cT_ld
    have s1 : (cT (A' ++ y :: x :: (B ++ R))).take ((A' ++ [y]).length * 12) ++ ((cTerm y).map .p ++ (cT (A' ++ y :: x :: (B ++ R))).drop ((A' ++ [y]).length * 12 + 12)) = cT (A' ++ y :: y :: (B ++ R)) := by
      have := cT_st (A := A' ++ [y]) (B := B ++ R) (t := x) (u := y)
      rw [e] at this
      rw [this]; simp
    have s2 : (cT (A' ++ y :: y :: (B ++ R))).take (A'.length * 12) ++ ((cTerm x).map .p ++ (cT (A' ++ y :: y :: (B ++ R))).drop (A'.length * 12 + 12)) = cT (A' ++ x :: y :: (B ++ R)) := cT_st
    have hl2 : (cT (A' ++ y :: y :: (B ++ R))).length = n * 12 := by simp at hl ⊢; omega
    have f1 : (A' ++ [y]).length * 12 + 12 ≤ n * 12 := by omega
    have f2 : A'.length * 12 + 12 ≤ n * 12 := by omega
    generalize hN : (A' ++ [y]).length = N at *
    by_cases c : mcmp y.m x.m < 0
    · refine .inl ⟨⟨A', y :: B⟩, by simp; omega, ?_, ?_⟩
      · rintro r ⟨q1, L, q2, q3, q4⟩
        exact ⟨q1, L, q2, q3.trans (by simp; exact List.Perm.append_left _ (List.Perm.swap ..)), q4⟩
      · simp [-Prod.exists, c269_0, hg, h9, e0, e1, e2, e3, e8, t1, t2, t3, t3', t4, t4', hl, d1, d2, s1, s2, hl2, f1, f2, hk, c, InsInv]
        refine ⟨⟨by simpa using g1, ⟨?_, g2⟩, fun b hb => g3 b (by simp [hb]), by omega⟩, fun k' hk' => ?_⟩
        · rw [mcmp_anti]; omega
        · simp [hk', hfr k' hk']
    · refine .inr ?_
      simp [c269_0, hg, h9, e0, e1, e2, e3, e8, t1, t2, t3, t3', t4, t4', hl, d1, d2, f1, f2, hk, c, InsQ]
      refine ⟨A' ++ y :: x :: B, ?_, by simp, by simp, hfr⟩
      have hy : 0 < mcmp y.m x.m := by have := g3 y (by simp); omega
      have := desc_in (A := A' ++ [y]) (B := B) (x := x) g1 g2 (by
        intro a ha
        rcases List.mem_append.1 ha with ha | ha
        · refine mcmp_trans ?_ hy
          have g1' : Desc (A' ++ [y] ++ B) := g1
          unfold Desc at g1'
          rw [List.pairwise_append, List.pairwise_append] at g1'
          exact g1'.1.2.2 a ha y (by simp)
        · simp at ha; subst ha; exact hy)
      simpa using this
def OutSt (k : Key) (ver n : Nat) (L0 : Poly) (h0 : Hp) (a : Nat × Poly) (s : St) : Prop :=
  (1 ≤ a.1 ∧ a.2.Perm L0 ∧ Desc (a.2.take a.1) ∧ a.2.length = n) ∧ s.h.get k = ⟨ver, false, some (.cells (cT a.2))⟩ ∧ s.env 8 = .p (.int .i64 a.1) ∧
  (s.env 0 = .ref k ver 0 n 12 false ∧ s.env 1 = .p (.int .i64 0) ∧ s.env 2 = .p (.int .i64 n) ∧ s.env 3 = .p (.func 237 [] [])) ∧ (∀ k', k' ≠ k → s.h.get k' = h0.get k')
def OutQ (k : Key) (ver : Nat) (L0 : Poly) (h0 : Hp) (_ : Nat × Poly) (r : AExit × St) : Prop :=
  r.1 = .ex 0 ∧ ∃ L : Poly, Desc L ∧ L.Perm L0 ∧ r.2.h.get k = ⟨ver, false, some (.cells (cT L))⟩ ∧ (∀ k', k' ≠ k → r.2.h.get k' = h0.get k')
theorem apart_perm {L L0 : Poly} (h : L.Perm L0) (h0 : (monos L0).Nodup) : (monos L).Nodup := (h.map (·.m)).nodup_iff.2 h0
set_option maxHeartbeats 4000000 in
theorem insSort_spec {d : Nat} (k : Key) (ver : Nat) (L0 : Poly) (hd0 : (monos L0).Nodup) (hn : L0.length < 2 ^ 30) (h : Hp) (hg : h.get k = ⟨ver, false, some (.cells (cT L0))⟩) :
    ∃ h' L, bodyD (cxT pp) d fn269 [.ref k ver 0 L0.length 12 false, .p (.int .i64 0), .p (.int .i64 L0.length), .p (.func 237 [] [])] h = some (.p (.tup []), h') ∧ Desc L ∧ L.Perm L0 ∧ h'.get k = ⟨ver, false, some (.cells (cT L))⟩ ∧ (∀ k', k' ≠ k → h'.get k' = h.get k') := by
  have loop := loop_wf' (cx := cxT pp) (d := d) (c := c269_1) (OutSt k ver L0.length L0 h) (OutQ k ver L0 h) (fun a => L0.length - a.1) (by
    rintro ⟨i, L⟩ ⟨env, hh⟩ ⟨⟨g0, g1, g2, g3⟩, hg, h8, ⟨e0, e1, e2, e3⟩, hfr⟩
    simp only at g0 g1 g2 g3 hg h8 e0 e1 e2 e3 hfr
    by_cases hi : i < L0.length
    · refine .inl ?_
      have hi' : (i : Int) < L0.length := by omega
      have hw := inc_id hi (by omega)
      have hil : i < L.length := by omega
      have hsp : L = L.take i ++ L[i] :: L.drop (i + 1) := by rw [← List.drop_eq_getElem_cons hil, List.take_append_drop]
      have inner := fun s => ins_inner (pp := pp) (d := d) k ver L0.length i L[i] (L.drop (i + 1)) h hn ⟨L.take i, []⟩ s
      have hnd := apart_perm g1 hd0
      have hin : ∀ b ∈ L.take i, mcmp b.m L[i].m ≠ 0 := by
        intro b hb he
        rw [hsp] at hnd
        simp only [List.map_append, List.map_cons, List.nodup_append] at hnd
        exact hnd.2.2 _ (List.mem_map_of_mem hb) _ (List.mem_cons_self ..) (mcmp_eq he)
      have key : ∃ L' r, codeD (cxT pp) d c269_1 ⟨env, hh⟩ = some r ∧ r.1 = .norm ∧ OutSt k ver L0.length L0 h (i + 1, L') r.2 := by
        simp [-Prod.exists, c269_1, h8, e2, hi']
        generalize hX : codeD (cxT pp) d (ACode.loop c269_0) _ = X
        obtain ⟨e, env', h', rfl, q⟩ := at_code hX (inner _ (by
          refine ⟨⟨by simpa using g2, by simp, hin, by simp; omega⟩, ?_, ?_, ?_, ?_⟩
          · simp only [List.nil_append]; rw [← hsp]; exact hg
          · simp; omega
          · simp [e0, e1, e2, e3, h8]
          · exact hfr))
        obtain ⟨rfl, L', q1, q2, q3, ⟨q4, q5, q6, q7, q8⟩, q9⟩ := q
        simp only at q1 q2 q3 q4 q5 q6 q7 q8 q9
        have hlp := q2.length_eq
        simp at hlp
        refine ⟨L' ++ L.drop (i + 1), ?_⟩
        simp [-Prod.exists, q4, q5, q6, q7, q8, hw, OutSt]
        have hpl : (L' ++ L.drop (i + 1)).Perm L := by
          have := q2.append_right (L.drop (i + 1))
          rw [show L.take i ++ L[i] :: [] ++ L.drop (i + 1) = L by simp] at this
          exact this
        refine ⟨⟨hpl.trans g1, ?_, by omega⟩, q3, q9⟩
        rw [List.take_left' (by omega)]
        exact q1
      obtain ⟨L', r, h2, h3, h4⟩ := key
      exact ⟨(i + 1, L'), by simp only; omega, fun r' h => h, r, h2, h3, h4⟩
    · refine .inr ?_
      have hi' : ¬ (i : Int) < L0.length := by omega
      simp [c269_1, h8, e2, hi', OutQ]
      rw [List.take_of_length_le (by omega)] at g2
      exact ⟨L, g2, g1, hg, hfr⟩)
  unfold bodyD
  simp [fn269]
  generalize hX : codeD (cxT pp) d (ACode.loop c269_1) _ = X
  obtain ⟨e, env, h', rfl, q⟩ := at_code hX (loop (1, L0) _ (by
    refine ⟨⟨by simp, List.Perm.refl _, ?_, rfl⟩, hg, by simp [i64_id], by simp, fun _ _ => rfl⟩
    cases L0 with
    | nil => simp [Desc]
    | cons t L => simp [Desc]))
  obtain ⟨rfl, L, q1, q2, q3, q4⟩ := q
  simp
  exact ⟨L, q1, q2, q3, q4⟩

/-! ### SortFunc -/
theorem len_run : ([0, 1, 2, 3, 4, 5, 6, 7, 8, 9, 10, 11, 12].all fun (n : Int) => runIs pp 252 fn252 [.int .u64 n] (.int .i64 (if n = 0 then 0 else if n < 2 then 1 else if n < 4 then 2 else if n < 8 then 3 else 4))) = true := by kernel_rfl
theorem len_spec (n : Nat) (hn : n ≤ 12) : ∃ z, funD (cxT pp) 252 [.int .u64 n] = some (.int .i64 z) := by
  have h : (n : Int) ∈ [0, 1, 2, 3, 4, 5, 6, 7, 8, 9, 10, 11, 12] := by simp; omega
  exact ⟨_, runIs_fun fns_252 (List.all_eq_true.1 len_run n h)⟩
set_option maxHeartbeats 4000000 in
theorem sort_spec {d : Nat} (k : Key) (ver : Nat) (L0 : Poly) (hd0 : (monos L0).Nodup) (hn : L0.length ≤ 12) (h : Hp) (hg : h.get k = ⟨ver, false, some (.cells (cT L0))⟩) :
    ∃ h' L, bodyD (cxT pp) d fn236 [.ref k ver 0 L0.length 12 false, .p (.func 237 [] [])] h = some (.p (.tup []), h') ∧ Desc L ∧ L.Perm L0 ∧ h'.get k = ⟨ver, false, some (.cells (cT L))⟩ ∧ (∀ k', k' ≠ k → h'.get k' = h.get k') := by
  obtain ⟨z, hz⟩ := len_spec (pp := pp) L0.length hn
  obtain ⟨h', L, k1, k2, k3, k4, k5⟩ := insSort_spec (pp := pp) (d := d + 1 + 1) k ver L0 hd0 (by omega) h hg
  have hw : IntKind.u64.wrap (L0.length : Int) = L0.length := by
    simp [IntKind.wrap, IntKind.bits, IntKind.signed]; omega
  have hle : (L0.length : Int) ≤ 12 := by omega
  have hw2 : IntKind.i64.wrap (L0.length : Int) = L0.length := by rw [i64_id] <;> omega
  refine ⟨h', L, ?_, k2, k3, k4, k5⟩
  unfold bodyD
  simp [fn236, hw, hz]
  have hp : bodyD (cxT pp) (d + 1) fn251 [.ref k ver 0 L0.length 12 false, .p (.int .i64 0), .p (.int .i64 L0.length), .p (.int .i64 z), .p (.func 237 [] [])] h = some (.p (.tup []), h') := by
    unfold bodyD
    simp [fn251]
    generalize hX : codeD (cxT pp) (d + 1) (ACode.loop c251_0) _ = X
    rw [codeD_loop] at hX
    simp [c251_0, hle, hw2, k1] at hX
    subst hX
    simp
  simp [hp]
end Go.Va
end
