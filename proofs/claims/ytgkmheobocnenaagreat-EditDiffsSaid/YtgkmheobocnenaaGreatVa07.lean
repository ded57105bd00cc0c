/- Towards the law: a small language into which the program is turned, its soundness, and what the functions answer: part 7. -/
import Derived.Test.YtgkmheobocnenaaGreatVa06
import Derived.WalkSpells
import Derived.WalkLawsBesides
import Derived.Maps.RangeRun
import Derived.Test.YtgkmheobocnenaaGreatRows
import Derived.WalkKit
import Derived.ProofKit
import Derived.OpenShut
import Derived.ChangeOld
import Derived.Below
set_option linter.unusedSimpArgs false
set_option linter.unusedVariables false
set_option linter.unusedSectionVars false
set_option linter.unnecessarySimpa false
section
open Go Go.Proofs
namespace Go.Va
def tyOK (P : Program) (T s : Nat) : Bool :=
  match P.underlying T with
  | some (.slice e) => match P.info? e with
    | some i => match i.zero with
      | some z => Nat.beq i.size s && Nat.beq z.cells.size i.size && Nat.ble i.bytes 64
      | none => false
    | none => false
  | _ => false
theorem tyOK_spec {P : Program} {T s : Nat} (h : tyOK P T s = true) : ∃ e i z, P.underlying T = some (.slice e) ∧ P.info? e = some i ∧ i.zero = some z ∧ i.size = s ∧ z.cells.size = i.size ∧ i.bytes ≤ 64 := by
  unfold tyOK at h
  split at h
  · rename_i e he
    split at h
    · rename_i i hi
      split at h
      · rename_i z hz
        simp only [Bool.and_eq_true] at h
        exact ⟨e, i, z, he, hi, hz, Nat.eq_of_beq_eq_true h.1.1, Nat.eq_of_beq_eq_true h.1.2, Nat.le_of_ble_eq_true h.2⟩
      · cases h
    · cases h
  · cases h
theorem ty30 : tyOK Tryz.prog 30 1 = true := by kernel_rfl
theorem ty31 : tyOK Tryz.prog 31 2 = true := by kernel_rfl
theorem ty195 : tyOK Tryz.prog 195 1 = true := by kernel_rfl
theorem ty3 : Tryz.prog.underlying 3 = some (.int .i64) := by kernel_rfl
theorem enter_of {P : Program} {f : FuncId} {fn : AFn} (h : compFn P f = some fn) (vals : Array Value) (w : World) : (callFunc f vals).run P w = .ok (.enter f vals) w := by
  unfold compFn at h
  simp only [Option.bind_eq_some_iff] at h
  obtain ⟨F, hF, h⟩ := h
  split at h
  · cases h
  · rename_i hname
    simp only [Option.bind_eq_some_iff, Option.map_eq_some_iff] at h
    obtain ⟨c, hc, rs, hrs, rfl⟩ := h
    have hname' : ¬ (F.name = "runtime.NumGoroutine") := by simpa using hname
    simp [callFunc, hF, hname', hc]
theorem over200 (x y : Value) (w : World) : (callFunc 200 #[x, y]).run Tryz.prog w = ((Extern.SlicesOverlaps.overlaps #[31, 31] #[4] #[x, y]).run Tryz.prog w).andThen fun v w' => .ok (.value v) w' :=
  run_callFunc_extern Tryz.func200 (by kernel_rfl) (by kernel_rfl) (by kernel_rfl) (e := Extern.SlicesOverlaps.overlaps #[31, 31] #[4]) (by kernel_rfl) _ _
theorem over157 (x y : Value) (w : World) : (callFunc 157 #[x, y]).run Tryz.prog w = ((Extern.SlicesOverlaps.overlaps #[30, 30] #[4] #[x, y]).run Tryz.prog w).andThen fun v w' => .ok (.value v) w' :=
  run_callFunc_extern Tryz.func157 (by kernel_rfl) (by kernel_rfl) (by kernel_rfl) (e := Extern.SlicesOverlaps.overlaps #[30, 30] #[4]) (by kernel_rfl) _ _
theorem over192 (x y : Value) (w : World) : (callFunc 192 #[x, y]).run Tryz.prog w = ((Extern.SlicesOverlaps.overlaps #[195, 195] #[4] #[x, y]).run Tryz.prog w).andThen fun v w' => .ok (.value v) w' :=
  run_callFunc_extern Tryz.func192 (by kernel_rfl) (by kernel_rfl) (by kernel_rfl) (e := Extern.SlicesOverlaps.overlaps #[195, 195] #[4]) (by kernel_rfl) _ _
theorem ins168 : CallOK1 Tryz.prog 168 (specInsert 2) := by
  obtain ⟨e, i, z, h1, h2, h3, h4, h5, h6⟩ := tyOK_spec ty31
  exact insert_ok (T := 31) (e := e) (ov := 200) (i0 := i) (z := z) ⟨enter_of cfn168, h1, ty3, h2, h3, h4, h5, h6, over200, ins_room_168, ins_grow_168, ins_end_168⟩
theorem ins115 : CallOK1 Tryz.prog 115 (specInsert 1) := by
  obtain ⟨e, i, z, h1, h2, h3, h4, h5, h6⟩ := tyOK_spec ty30
  exact insert_ok (T := 30) (e := e) (ov := 157) (i0 := i) (z := z) ⟨enter_of cfn115, h1, ty3, h2, h3, h4, h5, h6, over157, by simpa using ins_room_115, by simpa using ins_grow_115, ins_end_115⟩
theorem ins159 : CallOK1 Tryz.prog 159 (specInsert 1) := by
  obtain ⟨e, i, z, h1, h2, h3, h4, h5, h6⟩ := tyOK_spec ty195
  exact insert_ok (T := 195) (e := e) (ov := 192) (i0 := i) (z := z) ⟨enter_of cfn159, h1, ty3, h2, h3, h4, h5, h6, over192, by simpa using ins_room_159, by simpa using ins_grow_159, ins_end_159⟩
end Go.Va
end
section
open Go Go.Proofs
namespace Go.Va
def cx0 : Cx where
  fns := tab.look
  pol := polT
  prim := fun _ => none
theorem cx0_ok : CxOK Tryz.prog cx0 := ⟨fun _ _ h => look_ok tab_ok h, fun _ _ h => by cases h⟩
set_option maxHeartbeats 4000000 in
set_option maxRecDepth 100000 in
theorem clone170_nil (c : Nat) (w : World) : Calls Tryz.prog 170 #[.slice none 0 c] w fun e w' => e = .returned (.slice none 0 0) ∧ w' = w := by
  obtain ⟨e, i, z, he, -⟩ := tyOK_spec ty31
  have hn : ∀ w, (binOp .eql 31 (.slice none 0 c) (.slice none 0 0)).run Tryz.prog w = .ok (.bool true) w := fun w => by
    simp only [binOp]
    simp [run_equal_slice_nil w 31 e none 0 c he]
  go_enter Tryz.func170, Tryz.ntmps170
  go_wp2_with (simp only [hn])
  go_ret
  exact ⟨rfl, rfl⟩
set_option maxHeartbeats 4000000 in
set_option maxRecDepth 100000 in
theorem clone116_nil (c : Nat) (w : World) : Calls Tryz.prog 116 #[.slice none 0 c] w fun e w' => e = .returned (.slice none 0 0) ∧ w' = w := by
  obtain ⟨e, i, z, he, -⟩ := tyOK_spec ty30
  have hn : ∀ w, (binOp .eql 30 (.slice none 0 c) (.slice none 0 0)).run Tryz.prog w = .ok (.bool true) w := fun w => by
    simp only [binOp]
    simp [run_equal_slice_nil w 30 e none 0 c he]
  go_enter Tryz.func116, Tryz.ntmps116
  go_wp2_with (simp only [hn])
  go_ret
  exact ⟨rfl, rfl⟩
theorem clone170_non (n : Nat) (cs : List PV) (hl : cs.length = n * 2) (hn : n ≤ 2 ^ 20) : ownD cx0 170 [.frz .non n cs] = some (.inr (n, 2, false, PV.erL cs)) := by
  have hr : roomy n 32 = true := by simp [roomy]; omega
  rw [ownD_of (show cx0.fns 170 = some fn170 from rfl)]
  unfold bodyD
  by_cases h0 : n = 0
  · subst h0
    have : cs = [] := List.length_eq_zero_iff.1 (by simpa using hl)
    subst this
    simp [fn170, ownR, hr]
  · simp [fn170, ownR, hl, hr, h0]
theorem clone116_non (n : Nat) (cs : List PV) (hl : cs.length = n) (hn : n ≤ 2 ^ 20) : ownD cx0 116 [.frz .non n cs] = some (.inr (n, 1, false, PV.erL cs)) := by
  have hr : roomy n 16 = true := by simp [roomy]; omega
  rw [ownD_of (show cx0.fns 116 = some fn116 from rfl)]
  unfold bodyD
  by_cases h0 : n = 0
  · subst h0
    have : cs = [] := List.length_eq_zero_iff.1 hl
    subst this
    simp [fn116, ownR, hr]
  · simp [fn116, ownR, hl, hr, h0]
theorem clone_ok {f : FuncId} {fn : AFn} {s : Nat} (hs : 0 < s) (hf : cx0.fns f = some fn) (hc : compFn Tryz.prog f = some fn) (h1 : ∀ (c : Nat) (w : World), Calls Tryz.prog f #[.slice none 0 c] w fun e w' => e = .returned (.slice none 0 0) ∧ w' = w)
    (h2 : ∀ (n : Nat) (cs : List PV), cs.length = n * s → n ≤ 2 ^ 20 → ownD cx0 f [.frz .non n cs] = some (.inr (n, s, false, PV.erL cs))) :
    CallOK1 Tryz.prog f (specClone s) := by
  intro d args h key r h' hspec κ w M0 vals hr hv
  unfold specClone at hspec
  split at hspec
  · rename_i fl n cs
    split at hspec
    · rename_i hh
      cases hspec
      generalize hvl : vals.toList = vl at hv
      cases hv with | cons hx hv => ?_
      cases hv
      rename_i v
      have hvals : vals = #[v] := by rw [← Array.toList_inj, hvl]
      subst hvals
      have big : ∀ ps, VP w (Mx κ h M0) ps v → ownD cx0 f [ps] = some (.inr (n, s, false, PV.erL cs)) → (callFunc f #[v]).run Tryz.prog w = .ok (.enter f #[v]) w ∧ Calls Tryz.prog f #[v] w fun e w' =>
          ∃ v, e = .returned v ∧ ∃ κ', RelH κ' (h.alloc key (.cells ((PV.erL cs).map .p))) w' M0 ∧ Trans κ h w κ' (h.alloc key (.cells ((PV.erL cs).map .p))) w' ∧ V κ' (h.alloc key (.cells ((PV.erL cs).map .p))) w' (Mx κ' (h.alloc key (.cells ((PV.erL cs).map .p))) M0) (.ref key ((h.get key).ver + 1) 0 n s false) v := by
        intro ps g1 g2
        obtain ⟨k, g3⟩ := (ownD_iff hf).1 g2
        have hmix : Tryz.prog.follows .mixedOrders = true := by kernel_rfl
        have hcf := call_rel cx0_ok (fun _ hcf n d => draws_ok hmix hcf n d) k
        obtain ⟨q1, q2⟩ := owned_rel hcf (draws_ok hmix hcf _ _) hc g3 (Mx.lt hr) (vals := #[v]) (.cons g1 .nil)
        refine ⟨q1, Calls.mono q2 ?_⟩
        rintro e w1 ⟨u, rfl, t1, t2⟩
        exact ⟨u, rfl, take_rel hr t1 t2⟩
      cases hx with | p hp =>
      cases hp with
      | frz0 _ _ A cap q1 q2 =>
        have hn0 : n * s = 0 := by simpa using hh.1.symm
        have hz : n = 0 := by
          rcases Nat.mul_eq_zero.1 hn0 with h | h
          · exact h
          · omega
        subst hz
        cases A with
        | none =>
          refine ⟨enter_of hc _ _, Calls.mono (h1 cap w) ?_⟩
          rintro e w1 ⟨rfl, rfl⟩
          have hg : Grown w1 w1 := ⟨Nat.le_refl _, fun _ _ => rfl, rfl, rfl, rfl⟩
          exact ⟨_, rfl, take_rel hr hg (.inl ⟨rfl, rfl, none, rfl⟩)⟩
        | some a => exact big _ (.frz0 .non 0 (some a) cap q1 rfl) (h2 0 [] (by simp) (by omega))
      | frz _ _ _ b o cap q1 q2 q3 q4 => exact big _ (.frz .non n cs b o cap q1 rfl q3 q4) (h2 n cs hh.1 hh.2)
    · cases hspec
  · cases hspec
theorem clone170 : CallOK1 Tryz.prog 170 (specClone 2) := clone_ok (by decide) rfl cfn170 clone170_nil clone170_non
theorem clone116 : CallOK1 Tryz.prog 116 (specClone 1) := clone_ok (by decide) rfl cfn116 clone116_nil (fun n cs h1 h2 => clone116_non n cs (by simpa using h1) h2)
end Go.Va
end
section
open Go Go.Proofs
namespace Go.Va
set_option maxHeartbeats 4000000 in
set_option maxRecDepth 100000 in
theorem clone97_nil (c : Nat) (w : World) : Calls Tryz.prog 97 #[.slice none 0 c] w fun e w' => e = .returned (.slice none 0 0) ∧ w' = w := by
  have hn : ∀ w, (binOp .eql 35 (.slice none 0 c) (.slice none 0 0)).run Tryz.prog w = .ok (.bool true) w := fun w => by
    simp only [binOp]
    simp [run_equal_slice_nil w 35 _ none 0 c Tryz.underlying35]
  go_enter Tryz.func97, Tryz.ntmps97
  go_wp2_with (simp only [hn])
  go_ret
  exact ⟨rfl, rfl⟩
theorem clone97_non (n : Nat) (cs : List PV) (hl : cs.length = n * 7) (hn : n ≤ 2 ^ 20) : ownD cx0 97 [.frz .non n cs] = some (.inr (n, 7, false, PV.erL cs)) := by
  have hr : roomy n 80 = true := by simp [roomy]; omega
  rw [ownD_of (show cx0.fns 97 = some fn97 from rfl)]
  unfold bodyD
  by_cases h0 : n = 0
  · subst h0
    have : cs = [] := List.length_eq_zero_iff.1 (by simpa using hl)
    subst this
    simp [fn97, ownR, hr]
  · skip
    simp [fn97, ownR, hl, hr, h0]
theorem clone97 : CallOK1 Tryz.prog 97 (specClone 7) := clone_ok (by decide) rfl cfn97 clone97_nil clone97_non
set_option maxHeartbeats 4000000 in
set_option maxRecDepth 100000 in
theorem clone99_nil (c : Nat) (w : World) : Calls Tryz.prog 99 #[.slice none 0 c] w fun e w' => e = .returned (.slice none 0 0) ∧ w' = w := by
  have hn : ∀ w, (binOp .eql 76 (.slice none 0 c) (.slice none 0 0)).run Tryz.prog w = .ok (.bool true) w := fun w => by
    simp only [binOp]
    simp [run_equal_slice_nil w 76 _ none 0 c Tryz.underlying76]
  go_enter Tryz.func99, Tryz.ntmps99
  go_wp2_with (simp only [hn])
  go_ret
  exact ⟨rfl, rfl⟩
theorem clone99_non (n : Nat) (cs : List PV) (hl : cs.length = n * 3) (hn : n ≤ 2 ^ 20) : ownD cx0 99 [.frz .non n cs] = some (.inr (n, 3, false, PV.erL cs)) := by
  have hr : roomy n 40 = true := by simp [roomy]; omega
  rw [ownD_of (show cx0.fns 99 = some fn99 from rfl)]
  unfold bodyD
  by_cases h0 : n = 0
  · subst h0
    have : cs = [] := List.length_eq_zero_iff.1 (by simpa using hl)
    subst this
    simp [fn99, ownR, hr]
  · skip
    simp [fn99, ownR, hl, hr, h0]
theorem clone99 : CallOK1 Tryz.prog 99 (specClone 3) := clone_ok (by decide) rfl cfn99 clone99_nil clone99_non
set_option maxHeartbeats 4000000 in
set_option maxRecDepth 100000 in
theorem clone259_nil (c : Nat) (w : World) : Calls Tryz.prog 259 #[.slice none 0 c] w fun e w' => e = .returned (.slice none 0 0) ∧ w' = w := by
  have hn : ∀ w, (binOp .eql 246 (.slice none 0 c) (.slice none 0 0)).run Tryz.prog w = .ok (.bool true) w := fun w => by
    simp only [binOp]
    simp [run_equal_slice_nil w 246 _ none 0 c Tryz.underlying246]
  go_enter Tryz.func259, Tryz.ntmps259
  go_wp2_with (simp only [hn])
  go_ret
  exact ⟨rfl, rfl⟩
theorem clone259_non (n : Nat) (cs : List PV) (hl : cs.length = n * 1) (hn : n ≤ 2 ^ 20) : ownD cx0 259 [.frz .non n cs] = some (.inr (n, 1, false, PV.erL cs)) := by
  have hr : roomy n 4 = true := by simp [roomy]; omega
  rw [ownD_of (show cx0.fns 259 = some fn259 from rfl)]
  unfold bodyD
  by_cases h0 : n = 0
  · subst h0
    have : cs = [] := List.length_eq_zero_iff.1 (by simpa using hl)
    subst this
    simp [fn259, ownR, hr]
  · simp at hl
    simp [fn259, ownR, hl, hr, h0]
theorem clone259 : CallOK1 Tryz.prog 259 (specClone 1) := clone_ok (by decide) rfl cfn259 clone259_nil clone259_non
theorem cxT_ok {pp : Option PrimFn} (hpp : ∀ spec, pp = some spec → CallOK1 Tryz.prog 218 spec) : CxOK Tryz.prog (cxT pp) := by
  refine ⟨fun _ _ h => look_ok tab_ok h, fun f spec h => ?_⟩
  have h : primT pp f = some spec := h
  unfold primT at h
  split at h
  · rename_i e; obtain rfl := Nat.eq_of_beq_eq_true e; exact hpp _ h
  split at h
  · rename_i e; obtain rfl := Nat.eq_of_beq_eq_true e; cases h; exact clone259
  split at h
  · rename_i e; obtain rfl := Nat.eq_of_beq_eq_true e; cases h; exact clone170
  split at h
  · rename_i e; obtain rfl := Nat.eq_of_beq_eq_true e; cases h; exact ins168
  split at h
  · rename_i e; obtain rfl := Nat.eq_of_beq_eq_true e; cases h; exact ins159
  split at h
  · rename_i e; obtain rfl := Nat.eq_of_beq_eq_true e; cases h; exact clone116
  split at h
  · rename_i e; obtain rfl := Nat.eq_of_beq_eq_true e; cases h; exact ins115
  split at h
  · rename_i e; obtain rfl := Nat.eq_of_beq_eq_true e; cases h; exact clone99
  split at h
  · rename_i e; obtain rfl := Nat.eq_of_beq_eq_true e; cases h; exact clone97
  · cases h
end Go.Va
end
section
open Go Go.Proofs Go.Lib
namespace Go.Va

section
variable {P : Program} {κ κ0 : Kap} {h h0 : Hp} {w w' w0 : World} {M M' M0 : Nat → Prop}

theorem Room.same {b off s cap : Nat} {clip : Bool} (hrow : ∀ (b : Nat) (vs : Array Value) (T : TypeId) (fr : Nat × Nat), w.heap[b]? = some (Obj.cells vs T fr) → ∃ vs' : Array Value, w'.heap[b]? = some (Obj.cells vs' T fr) ∧ vs'.size = vs.size)
    (hr : Room w b off s cap clip) : Room w' b off s cap clip := by
  obtain ⟨vs, T, h1, h2, h3⟩ := hr
  obtain ⟨vs', h4, h5⟩ := hrow b vs T _ h1
  exact ⟨vs', T, h4, by omega, fun hc => by have := h3 hc; omega⟩
mutual
theorem V.same (hk : Keeps w w' M M') (hrow : ∀ (b : Nat) (vs : Array Value) (T : TypeId) (fr : Nat × Nat), w.heap[b]? = some (Obj.cells vs T fr) → ∃ vs' : Array Value, w'.heap[b]? = some (Obj.cells vs' T fr) ∧ vs'.size = vs.size) : ∀ {a : AV} {v : Value}, V κ h w M a v → V κ h w' M' a v
  | _, _, .p hp => .p (hp.keeps hk)
  | _, _, .ref k ver off n s clip b cap h1 h2 h3 h4 => .ref k ver off n s clip b cap h1 h2 h3 (fun hl => ⟨(h4 hl).1, (h4 hl).2.same hrow⟩)
  | _, _, .ref0 k ver off s clip A h1 h2 => .ref0 k ver off s clip A h1 h2
  | _, _, .ptr k ver off b h1 h2 => .ptr k ver off b h1 h2
  | _, _, .map k ver b h1 h2 => .map k ver b h1 h2
  | _, _, .iter k ver b h1 h2 => .iter k ver b h1 h2
  | _, _, .agg cs vs hl ho => .agg cs vs (Vs.same hk hrow hl) ho
  | _, _, .tup cs vs hl => .tup cs vs (Vs.same hk hrow hl)
  | _, _, .func f x y x' y' h1 h2 => .func f x y x' y' (Vs.same hk hrow h1) (Vs.same hk hrow h2)
  | _, _, .opq v => .opq v
theorem Vs.same (hk : Keeps w w' M M') (hrow : ∀ (b : Nat) (vs : Array Value) (T : TypeId) (fr : Nat × Nat), w.heap[b]? = some (Obj.cells vs T fr) → ∃ vs' : Array Value, w'.heap[b]? = some (Obj.cells vs' T fr) ∧ vs'.size = vs.size) : ∀ {a : List AV} {v : List Value}, Vs κ h w M a v → Vs κ h w' M' a v
  | _, _, .nil => .nil
  | _, _, .cons h1 h2 => .cons (V.same hk hrow h1) (Vs.same hk hrow h2)
end

/-- One block that is no row is written. -/
structure IterStep (w w' : World) (r : Nat) : Prop where
  size : w'.heap.size = w.heap.size
  old : ∀ b, b ≠ r → w'.heap[b]? = w.heap[b]?
  os : w'.os = w.os
  tape : w'.tape = w.tape
  output : w'.output = w.output
theorem IterStep.of_set {w1 : World} {r : Nat} {o : Obj} (h : w1 = w ∨ w1 = w.drew) : IterStep w (ChangeMaps.setBlock w1 r o) r := by
  rcases h with rfl | rfl
  · refine ⟨by simp [ChangeMaps.setBlock], fun b hb => ?_, rfl, rfl, rfl⟩
    have : r ≠ b := fun e => hb e.symm
    simp [ChangeMaps.setBlock, this]
  · refine ⟨by simp [ChangeMaps.setBlock], fun b hb => ?_, rfl, rfl, rfl⟩
    have : r ≠ b := fun e => hb e.symm
    simp [ChangeMaps.setBlock, this]
    rfl
theorem IterStep.keeps {r : Nat} (i : IterStep w w' r) (hM : M r) : Keeps w w' M M := fun b _ hn => ⟨i.old b (fun e => hn (e ▸ hM)), hn⟩
theorem IterStep.rows {r : Nat} (i : IterStep w w' r) (hr : ∀ vs T fr, w.heap[r]? ≠ some (Obj.cells vs T fr)) (b : Nat) (vs : Array Value) (T : TypeId) (fr : Nat × Nat) (hb : w.heap[b]? = some (Obj.cells vs T fr)) :
    ∃ vs' : Array Value, w'.heap[b]? = some (Obj.cells vs' T fr) ∧ vs'.size = vs.size :=
  ⟨vs, by rw [i.old b (fun e => hr vs T fr (e ▸ hb))]; exact hb, rfl⟩
theorem IterStep.relH {r : Nat} (i : IterStep w w' r) (hm : M0 r) (hc : ∀ vs T fr, w.heap[r]? ≠ some (Obj.cells vs T fr)) (hr : RelH κ h w M0) : RelH κ h w' M0 := by
  have hk : Keeps w w' (Mx κ h M0) (Mx κ h M0) := i.keeps (.inl hm)
  refine ⟨hr.inj, hr.m0, fun b hb => by rw [i.size]; exact hr.m0lt b hb, fun k o ho => ?_⟩
  have hb : ∀ b, κ k = some b → w'.heap[b]? = w.heap[b]? := fun b hb => i.old b fun e => hr.m0 k b (by rw [ho]; rfl) hb (e ▸ hm)
  have := hr.obj k o ho
  cases o with
  | cells cs =>
    rcases this with ⟨b, vs, T, h1, h2, h3⟩ | ⟨h1, h2⟩
    · refine .inl ⟨b, vs, T, h1, (hb b h1).trans h2, fun j c hj => ?_⟩
      obtain ⟨g1, v, g2, g3⟩ := h3 j c hj
      exact ⟨g1, v, g2, g3.same hk (i.rows hc)⟩
    · exact .inr ⟨h1, h2⟩
  | amap es => obtain ⟨b, ces, clock, h1, h2, h3, h4⟩ := this; exact ⟨b, ces, clock, h1, (hb b h1).trans h2, h3.keeps hk, h4⟩
  | siter s pos => obtain ⟨b, h1, h2⟩ := this; exact ⟨b, h1, (hb b h1).trans h2⟩
theorem IterStep.srel {n r : Nat} {s : St} {a : Act} (i : IterStep w w' r) (hm : M0 r) (hc : ∀ vs T fr, w.heap[r]? ≠ some (Obj.cells vs T fr)) (hr : SRel n κ s a w M0) : SRel n κ s a w' M0 :=
  ⟨i.relH hm hc hr.hp, fun j => (hr.env j).same (i.keeps (.inl hm)) (i.rows hc), hr.size, hr.defers⟩
theorem IterStep.trans {r : Nat} (i : IterStep w w' r) (hr : w0.heap.size ≤ r) (t : Trans κ0 h0 w0 κ h w) : Trans κ0 h0 w0 κ h w' where
  size := by rw [i.size]; exact t.size
  frame := fun b hb hm => by rw [i.old b (by omega)]; exact t.frame b hb hm
  mt := t.mt
  own := t.own
  rows := fun b vs T fr hb => by
    obtain ⟨vs', h1, h2⟩ := t.rows b vs T fr hb
    have : b < w0.heap.size := (Array.getElem?_eq_some_iff.1 hb).1
    exact ⟨vs', by rw [i.old b (by omega)]; exact h1, h2⟩
  vers := t.vers
  same := t.same
  os := i.os.trans t.os
  tape := i.tape.trans t.tape
  output := i.output.trans t.output

/-! ## Parts of a walk -/
def FitOps (P : Program) (ops : Array Oper) (n : Nat) : Nat → List AOper → Prop
  | _, [] => True
  | i, ao :: l => (∃ o, ops[i]? = some o ∧ compOper P ops o = some ao ∧ dstOK n ao = true) ∧ FitOps P ops n (i + 1) l
theorem put_other {a : Act} {dst : Option Nat} {u : Value} {t : Nat} (h : dst ≠ some t) : (a.put dst u).tmps[t]? = a.tmps[t]? := by
  cases dst with
  | none => rfl
  | some d =>
    have : d ≠ t := fun e => h (by rw [e])
    simp [Act.put, this]
/-- One operation under its guard; only its own slot is written. -/
theorem step_wp' {n : Nat} {a : Act} {K : Act → World → Prop} {Q : Exit → Act → World → Prop} {cf : CallFn} (hcf : CallsOK P cf) {ops : Array Oper} {o : Oper} {ao : AOper} {d : Nat} {s s' : St} (hs : SRel n κ s a w M0) (hc : compOper P ops o = some ao) (hd : dstOK n ao = true) (hev : stepO cf d ao s = some s')
    (hK : ∀ κ' u w', SRel n κ' s' (a.put ao.dst u) w' M0 → Trans κ s.h w κ' s'.h w' → K (a.put ao.dst u) w') :
    if Region.wanted o (yielded ops a.tmps) then o.wp P a w K Q ∨ (o.asks P a w ∧ LetsOut Q) else K (a.put o.dst undef) w := by
  obtain ⟨h1, h2⟩ := compOper_spec hc
  unfold stepO at hev
  simp only [Option.bind_eq_some_iff] at hev
  obtain ⟨b, hb, hev⟩ := hev
  rw [wanted_rel hs.env hc hb]
  rw [h1] at hK
  cases b with
  | true =>
    simp only [if_true, Option.map_eq_some_iff] at hev ⊢
    obtain ⟨⟨v, h'⟩, hev, rfl⟩ := hev
    rw [h1] at hev hK
    refine .inl (op_wp hcf hs.hp hs.env h2 hev ?_)
    intro κ' w' u q1 q2 q3
    have hk := q2.keeps M0 hs.hp.m0lt
    refine hK κ' u w' (SRel.put q1 (hs.env.keeps q2 hk) hs.size hs.defers q3 (by rw [← h1]; exact dstOK_spec hd)) ?_
    cases o.dst <;> exact q2
  | false =>
    simp only [Bool.false_eq_true, if_false, Option.some.injEq] at hev ⊢
    subst hev
    rw [h1] at hK
    refine hK κ undef w (SRel.put hs.hp hs.env hs.size hs.defers V.undef (by rw [← h1]; exact dstOK_spec hd)) ?_
    cases o.dst <;> exact Trans.refl _ _ _
theorem ops_from {cf : CallFn} (hcf : CallsOK P cf) {ops : Array Oper} {d n : Nat} {Q : Exit → Act → World → Prop} : ∀ (l : List AOper) (i : Nat) (rest : List Nat) (κ : Kap) (s s' : St) (a : Act) (w : World), FitOps P ops n i l → SRel n κ s a w M0 → evOps cf d l s = some s' →
    (∀ κ' a' w', SRel n κ' s' a' w' M0 → Trans κ s.h w κ' s'.h w' → (∀ t, (∀ ao ∈ l, ao.dst ≠ some t) → a'.tmps[t]? = a.tmps[t]?) → wpOps P ops Q rest a' w') → wpOps P ops Q (List.range' i l.length ++ rest) a w
  | [], i, rest, κ, s, s', a, w, _, hs, hev, hQ => by
    simp [evOps] at hev; subst hev
    exact hQ κ a w hs (Trans.refl _ _ _) (fun _ _ => rfl)
  | ao :: l, i, rest, κ, s, s', a, w, hf, hs, hev, hQ => by
    obtain ⟨⟨o, g1, g2, g3⟩, hf⟩ := hf
    simp only [evOps, Option.bind_eq_some_iff] at hev
    obtain ⟨s1, hs1, hev⟩ := hev
    rw [List.length_cons, List.range'_succ, List.cons_append]
    simp only [wpOps, g1]
    refine step_wp' hcf hs g2 g3 hs1 (fun κ' u w' q1 q2 => ?_)
    exact ops_from hcf l (i + 1) rest κ' s1 s' _ w' hf q1 hev (fun κ'' a'' w'' q3 q4 q5 => hQ κ'' a'' w'' q3 (q2.trans q4) (fun t ht => by
      rw [q5 t (fun x hx => ht x (by simp [hx])), put_other (ht ao (by simp))]))
theorem fit_of {ops : Array Oper} {n : Nat} {l : List AOper} {ord : List Nat} (h : compReg P n ops false = some (l, ord)) : FitOps P ops n 0 l ∧ l.length = ops.size := by
  unfold compReg at h
  simp only [Option.bind_eq_some_iff] at h
  obtain ⟨l', hl, h⟩ := h
  split at h
  · rename_i hd
    simp at h
    obtain ⟨rfl, _⟩ := h
    obtain ⟨hlen, hg⟩ := mapM_get hl
    refine ⟨?_, by simpa using hlen.symm⟩
    have key : ∀ (r : List AOper) (i : Nat), l'.drop i = r → FitOps P ops n i r := by
      intro r
      induction r with
      | nil => intro i _; trivial
      | cons ao r ih =>
        intro i hi
        have hai : l'[i]? = some ao := by
          have := congrArg (·[0]?) hi
          simpa [List.getElem?_drop] using this
        have hil : i < ops.size := by
          have h1 : i < l'.length := (List.getElem?_eq_some_iff.1 hai).1
          simp at hlen; omega
        obtain ⟨y, g1, g2⟩ := hg i ops[i] (by simp)
        rw [hai] at g1; cases g1
        refine ⟨⟨ops[i], by simp, g2, List.all_eq_true.1 hd _ (List.mem_of_getElem? hai)⟩, ih (i + 1) ?_⟩
        rw [← List.drop_drop, hi]; rfl
    exact key l' 0 rfl
  · cases h
/-- An operation of the model's own, without a guard. -/
theorem raw_op {ops : Array Oper} {i : Nat} {rest : List Nat} {Q : Exit → Act → World → Prop} {a : Act} {o : Oper} {v : Value} (ho : ops[i]? = some o) (hg : o.guard = none) (hr : (execOp a.eval o).run P w = .ok (.value v) w') (hn : wpOps P ops Q rest (a.put o.dst v) w') :
    wpOps P ops Q (i :: rest) a w := by
  simp only [wpOps, ho]
  rw [if_pos (by simp [Region.wanted, hg])]
  refine .inl ?_
  unfold Oper.wp
  rw [hr]
  exact hn
theorem rounds_ind {c : Code} {Q : Exit → Act → World → Prop} {X : Type} (Inv : X → Act → World → Prop) (μ : X → Nat)
    (step : ∀ x a w, Inv x a w → c.wp P (fun e a' w' => (e = .normal ∧ ∃ x', μ x' < μ x ∧ Inv x' a' w') ∨ (e ≠ .normal ∧ Q e a' w')) a w) : ∀ (n : Nat) (x : X) (a : Act) (w : World), μ x < n → Inv x a w → Code.rounds P c Q n a w
  | 0, x, a, w, h, _ => by omega
  | n + 1, x, a, w, h, hi => by
    rw [rounds_succ]
    refine wp_mono (step x a w hi) ?_
    rintro e a' w' (⟨rfl, x', h1, h2⟩ | ⟨h1, h2⟩)
    · exact rounds_ind Inv μ step n x' a' w' (by omega) h2
    · cases e <;> first | exact absurd rfl h1 | exact h2
end
theorem mixesT : Tryz.prog.follows .mixedOrders = true := by kernel_rfl
theorem callsT (k : Nat) : CallsOK Tryz.prog (evCall (cxT none) k) := call_rel (cxT_ok (pp := none) (by simp)) (fun _ hcf n d => draws_ok mixesT hcf n d) k
/-- A region that the small language knows. -/
theorem region_run {n id : Nat} {M0 : Nat → Prop} {κ : Kap} {s s' : St} {a : Act} {w : World} {Q : Exit → Act → World → Prop} {ops : Array Oper} {l : List AOper} {ord : List Nat} (hc : compReg Tryz.prog n ops false = some (l, ord)) (hev : evOps (callD (cxT none)) 0 l s = some s') (hs : SRel n κ s a w M0)
    (hQ : ∀ κ' a' w', SRel n κ' s' a' w' M0 → Trans κ s.h w κ' s'.h w' → (∀ t, (∀ ao ∈ l, ao.dst ≠ some t) → a'.tmps[t]? = a.tmps[t]?) → Q .normal a' w') : (Code.region id ops false).wp Tryz.prog Q a w := by
  obtain ⟨k, hk⟩ := opsD_iff.1 hev
  obtain ⟨hf, hlen⟩ := fit_of hc
  refine wp_region ?_
  have e : List.range ops.size = List.range' 0 l.length ++ [] := by rw [hlen, List.append_nil, List.range_eq_range']
  rw [e]
  exact ops_from (callsT k) l 0 [] κ s s' a w hf hs hk (fun κ' a' w' q1 q2 q3 => hQ κ' a' w' q1 q2 q3)
end Go.Va
end
section
open Go Go.Proofs Go.Lib
namespace Go.Va

/-! ### Entries that are still to come -/
abbrev ZL := List (MapEntry × Term)
def restT (Z : ZL) (seen : Array Nat) : Poly := (Z.filter fun z => !seen.contains z.1.born).map (·.2)
theorem ent_zip {w : World} {M : Nat → Prop} : ∀ {ts : Poly} {ces : List MapEntry}, EntRel w M (ts.map entP) ces → ts.length = ces.length ∧ ∀ z ∈ ces.zip ts, VP w M (.agg (ints z.2.m.l)) z.1.key ∧ VP w M (.agg (cRat z.2.c)) z.1.val
  | [], _, h => by cases h; simp
  | t :: ts, _, h => by
    rw [List.map_cons, show entP t = (.agg (ints t.m.l), .agg (cRat t.c)) from rfl] at h
    cases h with
    | cons h1 h2 h3 =>
      obtain ⟨g1, g2⟩ := ent_zip h3
      refine ⟨by simp [g1], ?_⟩
      intro z hz
      rw [List.zip_cons_cons] at hz
      rcases List.mem_cons.1 hz with rfl | hz
      · exact ⟨h1, h2⟩
      · exact g2 z hz
theorem zip_fst {ces : List MapEntry} {ts : Poly} (h : ts.length = ces.length) : (ces.zip ts).map (·.1) = ces := by
  rw [List.map_fst_zip (by omega)]
theorem zip_snd {ces : List MapEntry} {ts : Poly} (h : ts.length = ces.length) : (ces.zip ts).map (·.2) = ts := by
  rw [List.map_snd_zip (by omega)]
theorem restT_none (Z : ZL) : restT Z #[] = Z.map (·.2) := by
  unfold restT
  congr 1
  rw [List.filter_eq_self]
  simp
theorem restT_step {Z : ZL} {seen : Array Nat} {z : MapEntry × Term} (hn : (Z.map (·.1.born)).Nodup) (hz : z ∈ Z) (hs : seen.contains z.1.born = false) : (restT Z seen).Perm (z.2 :: restT Z (seen.push z.1.born)) := by
  obtain ⟨A, B, rfl⟩ := List.append_of_mem hz
  simp only [List.map_append, List.map_cons, List.nodup_append, List.nodup_cons] at hn
  have ha : ∀ x ∈ A, x.1.born ≠ z.1.born := fun x hx => hn.2.2 _ (List.mem_map_of_mem (f := fun z : MapEntry × Term => z.1.born) hx) _ (List.mem_cons_self ..)
  have hb : ∀ x ∈ B, x.1.born ≠ z.1.born := fun x hx e => hn.2.1.1 (e ▸ List.mem_map_of_mem (f := fun z : MapEntry × Term => z.1.born) hx)
  have fa : A.filter (fun x => !(seen.push z.1.born).contains x.1.born) = A.filter (fun x => !seen.contains x.1.born) := by
    apply List.filter_congr
    intro x hx
    have := ha x hx
    simp [Array.contains_push, this]
  have fb : B.filter (fun x => !(seen.push z.1.born).contains x.1.born) = B.filter (fun x => !seen.contains x.1.born) := by
    apply List.filter_congr
    intro x hx
    have := hb x hx
    simp [Array.contains_push, this]
  unfold restT
  rw [List.filter_append, List.filter_append, List.filter_cons, List.filter_cons, fa, fb, hs]
  have hp : (seen.push z.1.born).contains z.1.born = true := by simp [Array.contains_push]
  rw [hp]
  simp only [Bool.not_false, if_true, Bool.not_true, Bool.false_eq_true, if_false, List.map_append, List.map_cons]
  exact List.perm_middle
theorem left_none {ces : Array MapEntry} {ts : Poly} {seen : Array Nat} (h0 : (leftOf ces seen).size = 0) : restT (ces.toList.zip ts) seen = [] := by
  unfold restT
  rw [List.map_eq_nil_iff, List.filter_eq_nil_iff]
  intro z hz
  have hm : z.1 ∈ ces.toList := (List.of_mem_zip hz).1
  have := all_seen ces seen h0 z.1 hm
  rw [this]; simp

/-! ### The walk -/
structure PolyX where
  seen : Array Nat
  cnt : Nat
def PolyInv (M : Nat → Prop) (bm r : Nat) (ces : Array MapEntry) (clock : Nat) (ts : Poly) (w0 : World) (x : PolyX) (a : Act) (w : World) : Prop :=
  ∃ κ s, SRel 26 κ s a w (fun b => M b ∨ b = r) ∧ Trans noK Hp.none w0 κ s.h w ∧ w.heap[r]? = some (.mapIter (some bm) clock x.seen clock) ∧ a.tmps[8]? = some (.pointer (some ⟨r, 0, none⟩)) ∧ (leftOf ces x.seen).size = x.cnt ∧
    ∃ (L : Poly) (v : Nat), s.env 3 = .ref ⟨0, 6⟩ v 0 L.length 12 false ∧ s.h.get ⟨0, 6⟩ = ⟨v, false, some (.cells (cT L))⟩ ∧ (L ++ restT (ces.toList.zip ts) x.seen).Perm ts
theorem mapIter_ne {w : World} {r bm clock c : Nat} {seen : Array Nat} (h : w.heap[r]? = some (.mapIter (some bm) clock seen c)) : ∀ vs T fr, w.heap[r]? ≠ some (Obj.cells vs T fr) := by
  intro vs T fr e; rw [h] at e; cases e
theorem getD_of {a : Act} {i : Nat} {v : Value} (h : a.tmps[i]? = some v) : a.eval (.tmp i) = v := by
  show a.tmps.getD i undef = v
  rw [Array.getD_eq_getD_getElem?, h]; rfl
theorem taken_of {κ : Kap} {h : Hp} {w w0 : World} {M M2 : Nat → Prop} (hM : ∀ b, M b → M2 b) (hr : RelH κ h w M2) (T : Trans noK Hp.none w0 κ h w) {k : Key} {v n s : Nat} {u : Value} {cs : List PV} (hv : V κ h w (Mx κ h M2) (.ref k v 0 n s false) u)
    (hg : h.get k = ⟨v, false, some (.cells (cs.map .p))⟩) (hn : cs.length = n * s) : Taken w0 w M u (.inr (n, s, false, cs)) := by
  have ho : (h.get k).obj = some (.cells (cs.map .p)) := by rw [hg]
  have hl : Lives h k v := ⟨by rw [hg], by rw [ho]; rfl⟩
  cases hv with
  | ref _ _ _ _ _ _ b cap h1 h2 h3 h4 =>
    obtain ⟨hk, vs0, T0, g1, g2, g3⟩ := h4 hl
    rcases hr.obj k _ ho with ⟨b', vs, T', e1, e2, e3⟩ | ⟨e1, -⟩
    · rw [hk] at e1; cases e1
      rw [g1] at e2; cases e2
      have hb : w0.heap.size ≤ b := by
        rcases T.own b ⟨k, by rw [ho]; rfl, hk⟩ with ⟨k', hh, -⟩ | h
        · simp [none_get] at hh
        · exact h
      refine .inr ⟨b, cap, vs0, T0, rfl, hb, g1, h2, by simp, by omega, fun _ => by have := g3 rfl; omega, fun j c hj => ?_⟩
      obtain ⟨c1, u, c2, c3⟩ := e3 j (.p c) (by simp [hj])
      refine ⟨c1, u, c2, ?_⟩
      cases c3 with
      | p hp =>
        refine hp.keeps (fun b' hb' hn' => ⟨rfl, ?_⟩)
        rintro (hx | rfl)
        · exact hn' (.inl (hM _ hx))
        · exact hn' (.inr ⟨k, by rw [ho]; rfl, by rw [hg], hk⟩)
    · rw [hk] at e1; cases e1
  | ref0 _ _ _ _ _ A h1 h2 =>
    refine .inl ⟨rfl, List.eq_nil_of_length_eq_zero (by simpa using hn), A, rfl⟩
theorem r_frame {κ κ' : Kap} {h h' : Hp} {w w' : World} {M2 : Nat → Prop} {r : Nat} (hr : RelH κ h w M2) (hm : M2 r) (t : Trans κ h w κ' h' w') : w'.heap[r]? = w.heap[r]? :=
  t.frame r (hr.m0lt r hm) (fun ⟨k, h1, _, h3⟩ => hr.m0 k r h1 h3 hm)
theorem keeps_on {κ : Kap} {h : Hp} {w0 w : World} {M : Nat → Prop} {r : Nat} (hr : w0.heap.size ≤ r) (T : Trans noK Hp.none w0 κ h w) : Keeps w0 w M (Mx κ h fun b => M b ∨ b = r) := by
  intro b hb hn
  refine ⟨(Grown.of_trans T).old b hb, ?_⟩
  rintro ((hx | rfl) | hx)
  · exact hn hx
  · omega
  · rcases T.mt b hx with h1 | h1
    · exact none_mt h1
    · omega
theorem und236 : ∃ k e, Tryz.prog.underlying 236 = some (.map k e) := by
  have h : (match Tryz.prog.underlying 236 with | some (.map _ _) => true | _ => false) = true := by kernel_rfl
  revert h
  cases Tryz.prog.underlying 236 with
  | none => intro h; cases h
  | some d => cases d <;> intro h <;> first | exact ⟨_, _, rfl⟩ | cases h
set_option maxRecDepth 100000 in
set_option maxHeartbeats 4000000 in
theorem poly_ok : CallOK1 Tryz.prog 218 specPoly := by
  intro d args h key r0 h' hspec κ0 w0 M0 vals hr hv
  unfold specPoly at hspec
  split at hspec
  · rename_i k ver
    cases hma : h.mapAt k ver with
    | none => rw [hma] at hspec; cases hspec
    | some es =>
      rw [hma] at hspec
      simp only at hspec
      by_cases H : ∃ ts : Poly, PolyArg es ts
      · rw [dif_pos H] at hspec
        have hts := H.choose_spec
        generalize H.choose = ts at *
        cases hspec
        generalize hvl : vals.toList = vl at hv
        cases hv with | cons hx hv => ?_
        cases hv
        rename_i mv
        have hvals : vals = #[mv] := by rw [← Array.toList_inj, hvl]
        subst hvals
        cases hx with
        | map _ _ bm q1 q2 =>
          obtain ⟨m1, m2⟩ := mapAt_some hma
          obtain ⟨b', ces, clock, m3, m4, m5, m6⟩ := hr.obj k _ m2
          rw [q2 ⟨m1, by rw [m2]; rfl⟩] at m3
          cases m3
          rw [hts.es] at m5
          obtain ⟨hlen, hent⟩ := ent_zip m5
          have hbm : bm < w0.heap.size := (Array.getElem?_eq_some_iff.1 m4).1
          refine ⟨enter_of cfn218 _ _, ?_⟩
          -- what is asked in the end
          suffices hfin : Calls Tryz.prog 218 #[.map (some bm)] w0 fun e w1 => ∃ v, e = .returned v ∧ Grown w0 w1 ∧ Taken w0 w1 (Mx κ0 h M0) v (.inr ((sortP ts).length, 12, false, (sortP ts).flatMap cTerm)) by
            refine Calls.mono hfin ?_
            rintro e w1 ⟨v, rfl, g1, g2⟩
            exact ⟨v, rfl, take_rel hr g1 g2⟩
          have hMlt := Mx.lt hr
          generalize Mx κ0 h M0 = M at *
          refine calls_of_wp Tryz.func218 rfl ?_
          -- the first two regions
          have hs0 : SRel 26 noK ⟨enter [.opq], Hp.none⟩ { tmps := #[Value.map (some bm)] ++ Array.replicate (26 - 1) undef, defers := [] } w0 M :=
            ⟨relH_none hMlt, enter_rel (.cons (.opq _) .nil) _, by simp, rfl⟩
          have ht0 : (#[Value.map (some bm)] ++ Array.replicate (26 - 1) undef)[0]? = some (Value.map (some bm)) := by simp
          refine wp_seq (region_run (l := [oV 2 kE]) (ord := []) (by kernel_rfl) (by simp; rfl) hs0 ?_)
          intro κ1 a1 w1 r1 t1 f1
          refine wp_seq (region_run (l := [o1 6 (.bsl 12 0 zTerm []), oM 3 6]) (ord := []) (by kernel_rfl) (by simp; rfl) r1 ?_)
          intro κ2 a2 w2 r2 t2 f2
          have T2 : Trans noK Hp.none w0 κ2 (Hp.none.set { d := 0, t := 6 } { ver := 1, ro := false, obj := some (AObj.cells []) }) w2 := t1.trans t2
          have hbm2 : w2.heap[bm]? = some (.map ces clock) := ((Grown.of_trans T2).old bm hbm).trans m4
          have hz0 : a2.tmps[0]? = some (Value.map (some bm)) := by
            rw [f2 0 (by simp), f1 0 (by simp)]; exact ht0
          have h7 : 7 < a2.tmps.size := by rw [r2.size]; decide
          have h8 : 8 < a2.tmps.size := by rw [r2.size]; decide
          -- the iterator
          refine wp_seq (wp_seq (wp_region ?_))
          refine raw_op (i := 0) (rest := [1]) (v := .map (some bm)) (w' := w2) rfl rfl (by simp [execOp, getD_of hz0]) ?_
          obtain ⟨ty, el, hu⟩ := und236
          have he7 : (a2.put (some 7) (Value.map (some bm))).eval (.tmp 7) = .map (some bm) := getD_of (by simp [Act.put, h7])
          refine raw_op (i := 1) (rest := []) (v := .pointer (some ⟨w2.heap.size, 0, none⟩)) (w' := w2.alloc (.mapIter (some bm) clock #[] clock)) rfl rfl (by
            unfold execOp
            simp [he7, run_range_map w2 236 ty el bm ces clock hu hbm2]) ?_
          obtain ⟨u1, u2, u3⟩ := aside r2.hp (.mapIter (some bm) clock #[] clock) (M' := fun b => M b ∨ b = w2.heap.size) (fun x => Iff.rfl)
          have hr3 : w0.heap.size ≤ w2.heap.size := T2.size
          have hit3 : (w2.alloc (.mapIter (some bm) clock #[] clock)).heap[w2.heap.size]? = some (.mapIter (some bm) clock #[] clock) := (Grew.alloc w2 _).new
          have r3 : SRel 26 κ2 _ _ (w2.alloc (.mapIter (some bm) clock #[] clock)) (fun b => M b ∨ b = w2.heap.size) := SRel.put (dst := some 8) (v := .opq) (u := .pointer (some ⟨w2.heap.size, 0, none⟩)) u1
            (SRel.put (a := a2) (dst := some 7) (v := .opq) (u := Value.map (some bm)) u1 (r2.env.keeps u2 u3) r2.size r2.defers (.opq _) (by intro d h; cases h; decide)).env (by simp [Act.put, r2.size]) (by simp [Act.put, r2.defers]) (.opq _) (by intro d h; cases h; decide)
          have T3 := T2.trans u2
          generalize w2.alloc (.mapIter (some bm) clock #[] clock) = w3 at *
          generalize w2.heap.size = r at *
          have hg8 : (((a2.put (some 7) (Value.map (some bm))).put (some 8) (.pointer (some ⟨r, 0, none⟩))).tmps)[8]? = some (.pointer (some ⟨r, 0, none⟩)) := by simp [Act.put, h8]
          have hinv : PolyInv M bm r ces clock ts w0 ⟨#[], (leftOf ces #[]).size⟩ _ w3 :=
            ⟨κ2, _, r3, T3, hit3, hg8, rfl, [], 1, by simp [St.put], by simp [St.put, cT], by rw [restT_none, zip_snd hlen]; exact List.Perm.refl _⟩
          refine wp_block (wp_loop_rounds ((leftOf ces #[]).size + 1) (rounds_ind (PolyInv M bm r ces clock ts w0) (fun x => x.cnt) ?_ _ _ _ _ (Nat.lt_succ_self _) hinv))
          clear hinv hg8 r3 T3 hit3 u1 u2 u3
          rintro ⟨seen, cnt⟩ a w ⟨κ, s, rs, T, hit, ha8, hcnt, L, v, e3, g6, hperm⟩
          simp only at hit hcnt hperm
          have hbmw : w.heap[bm]? = some (.map ces clock) := ((Grown.of_trans T).old bm hbm).trans m4
          have h9 : 9 < a.tmps.size := by rw [rs.size]; decide
          refine wp_seq (wp_region ?_)
          rcases run_next_at (P := Tryz.prog) w 0 r bm clock clock seen ces clock hit hbmw m6.1 (Nat.le_refl _) with ⟨h0, hrun⟩ | ⟨e, he, w1, hw1, hrun⟩
          · -- nothing is left
            refine raw_op (i := 0) (rest := [1]) (v := .tuple #[.bool false]) (w' := w) rfl rfl (by
              unfold execOp
              simp [getD_of ha8, hrun]) ?_
            have rs9 : SRel 26 κ _ _ w (fun b => M b ∨ b = r) := SRel.put (a := a) (dst := some 9) (v := .p (.tup [.bool false])) (u := .tuple #[.bool false]) rs.hp rs.env rs.size rs.defers (.p (.tup _ _ (.cons (.bool _) .nil))) (by intro d h; cases h; decide)
            refine ops_from (d := 0) (callsT 0) [oE 10 9 0] 1 [] κ _ _ _ w ⟨⟨_, rfl, by kernel_rfl, rfl⟩, trivial⟩ rs9 (by simp [St.put]; rfl) ?_
            intro κ' a' w' q1 q2 q3
            have hb : a'.eval (.tmp 10) = .bool false := bool_inv (opd_rel q1.env (show cOpd (.tmp 10) = some (.t 10) from rfl)) (by simp [Opd.ev])
            refine wp_seq (wp_cond hb (wp_exit (.inr ⟨by simp, ?_⟩)))
            have T' := T.trans q2
            have hL : L.Perm ts := by
              rw [left_none h0, List.append_nil] at hperm; exact hperm
            have hLl : L.length ≤ 12 := by rw [hL.length_eq]; exact hts.len
            have hLn : (monos L).Nodup := apart_perm hL hts.nd
            obtain ⟨h2, L2, k1, k2, k3, k4, k5⟩ := sort_spec (pp := none) (d := 1) ⟨0, 6⟩ v L hLn hLl s.h g6
            have hL2 : L2 = sortP ts := desc_unique k2 (sortP_spec hts.nd).1 (k3.trans (hL.trans (sortP_spec hts.nd).2.symm))
            have hlen2 : L2.length = L.length := k3.length_eq
            show Code.wp Tryz.prog _ _ a' w'
            refine wp_seq (region_run (l := [oM 23 3, oC 24 236 [(.t 23), (.c (.func 237 [] []))]]) (ord := []) (by kernel_rfl) (by simp [St.put, e3, k1]; rfl) q1 ?_)
            intro κ7 a7 w7 r7 t7 _
            refine wp_seq (region_run (l := [oM 25 3, oM 2 25]) (ord := []) (by kernel_rfl) (by simp [St.put, e3]; rfl) r7 ?_)
            intro κ8 a8 w8 r8 t8 _
            refine wp_ret ?_
            obtain ⟨u, g1, g2⟩ := results_rel r8.hp r8.env (fn := Tryz.f218) (rs := [.tmp 2]) (vs := [.ref ⟨0, 6⟩ v 0 L.length 12 false]) rfl (by simp [resL, resAV])
            have T8 := (T'.trans t7).trans t8
            refine ⟨r8.defers, u, g1, u, rfl, Grown.of_trans T8, ?_⟩
            have hlen3 : (sortP ts).length = L.length := by rw [← hL2]; exact hlen2
            rw [hlen3]
            refine taken_of (M2 := fun b => M b ∨ b = r) (fun b hb => .inl hb) r8.hp T8 g2 ?_ (by simp [hlen3])
            rw [← hL2]
            exact k4
          · -- an entry
            obtain ⟨hem, hes⟩ := mem_left he
            obtain ⟨z, hz, rfl⟩ : ∃ z ∈ ces.toList.zip ts, z.1 = e := by
              have : e ∈ (ces.toList.zip ts).map (·.1) := by rw [zip_fst hlen]; exact hem
              exact List.mem_map.1 this
            obtain ⟨vk, vv⟩ := hent z hz
            have I : IterStep w (ChangeMaps.setBlock w1 r (.mapIter (some bm) clock (seen.push z.1.born) clock)) r := IterStep.of_set hw1
            have hit' : (ChangeMaps.setBlock w1 r (.mapIter (some bm) clock (seen.push z.1.born) clock)).heap[r]? = some (.mapIter (some bm) clock (seen.push z.1.born) clock) := by
              have hrl : r < w1.heap.size := by
                have h1 : r < w.heap.size := (Array.getElem?_eq_some_iff.1 hit).1
                rcases hw1 with rfl | rfl
                · exact h1
                · exact h1
              simp [ChangeMaps.setBlock, hrl]
            have rs' := I.srel (M0 := fun b => M b ∨ b = r) (.inr rfl) (mapIter_ne hit) rs
            have T' := I.trans hr3 T
            generalize ChangeMaps.setBlock w1 r (.mapIter (some bm) clock (seen.push z.1.born) clock) = w' at *
            have hkp := keeps_on (M := M) hr3 T'
            refine raw_op (i := 0) (rest := [1]) (v := .tuple #[.bool true, z.1.key, z.1.val]) (w' := w') rfl rfl (by
              unfold execOp
              simp [getD_of ha8, hrun]) ?_
            have rs9 : SRel 26 κ _ _ w' (fun b => M b ∨ b = r) := SRel.put (a := a) (dst := some 9) (v := .p (.tup [.bool true, .agg (ints z.2.m.l), .agg (cRat z.2.c)])) (u := .tuple #[.bool true, z.1.key, z.1.val]) rs'.hp rs'.env rs'.size rs'.defers
              (.p (.tup _ _ (.cons (.bool _) (.cons (vk.keeps hkp) (.cons (vv.keeps hkp) .nil))))) (by intro d h; cases h; decide)
            refine ops_from (d := 0) (callsT 0) [oE 10 9 0] 1 [] κ _ _ _ w' ⟨⟨_, rfl, by kernel_rfl, rfl⟩, trivial⟩ rs9 (by simp [St.put]; rfl) ?_
            intro κ3 a3 w3 q1 q2 q3
            have hb : a3.eval (.tmp 10) = .bool true := bool_inv (opd_rel q1.env (show cOpd (.tmp 10) = some (.t 10) from rfl)) (by simp [Opd.ev])
            refine wp_seq (wp_cond hb (wp_skip ?_))
            have ha83 : a3.tmps[8]? = some (.pointer (some ⟨r, 0, none⟩)) := by
              rw [q3 8 (by simp), put_other (by simp)]; exact ha8
            have T3 := T'.trans q2
            have hit3 := (r_frame rs9.hp (.inr rfl) q2).trans hit'
            have hbm3 : w3.heap[bm]? = some (.map ces clock) := ((Grown.of_trans T3).old bm hbm).trans m4
            have hent3 := run_entry_at (P := Tryz.prog) w3 r bm clock seen ces clock z.1 hit3 hbm3 hem m6.2
            have hkp3 := keeps_on (M := M) hr3 T3
            refine wp_block (wp_seq (wp_region ?_))
            refine raw_op (i := 0) (rest := [1, 2, 3, 4, 5, 6]) (v := .tuple #[z.1.key, z.1.val]) (w' := w3) rfl rfl (by
              unfold execOp
              simp [getD_of ha83, hent3]) ?_
            have rs11 : SRel 26 κ3 _ _ w3 (fun b => M b ∨ b = r) := SRel.put (a := a3) (dst := some 11) (v := .p (.tup [.agg (ints z.2.m.l), .agg (cRat z.2.c)])) (u := .tuple #[z.1.key, z.1.val]) q1.hp q1.env q1.size q1.defers
              (.p (.tup _ _ (.cons (vk.keeps hkp3) (.cons (vv.keeps hkp3) .nil)))) (by intro d h; cases h; decide)
            refine ops_from (d := 0) (callsT 0) [oE 12 11 0, oE 13 11 1, o1 4 (.alloc zMon), o1 5 (.alloc zRat), oS 8 4 12, oS 4 5 13] 1 [] κ3 _ _ _ w3
              ⟨⟨_, rfl, by kernel_rfl, rfl⟩, ⟨_, rfl, by kernel_rfl, rfl⟩, ⟨_, rfl, by kernel_rfl, rfl⟩, ⟨_, rfl, by kernel_rfl, rfl⟩, ⟨_, rfl, by kernel_rfl, rfl⟩, ⟨_, rfl, by kernel_rfl, rfl⟩, trivial⟩ rs11 (by simp [St.put]; rfl) ?_
            intro κ4 a4 w4 r4 t4 f4
            show Code.wp Tryz.prog _ _ a4 w4
            have hzt : z.2 ∈ ts := by
              have : z.2 ∈ (ces.toList.zip ts).map (·.2) := List.mem_map_of_mem hz
              rwa [zip_snd hlen] at this
            have ksg := qsign (pp := none) z.2.c (hts.sm z.2 hzt)
            have hnz : ¬ sgn z.2.c = 0 := by
              have := hts.nz z.2 hzt
              unfold sgn; split <;> (try split) <;> omega
            simp only [cRat] at ksg
            refine wp_seq (region_run (l := [oA 14 4 5, oC 15 197 [.t 14], oK 16 .neq 15 0]) (ord := []) (by kernel_rfl) (by simp [St.put, cRat, ksg, hnz]; rfl) r4 ?_)
            intro κ5 a5 w5 r5 t5 f5
            have hb6 : a5.eval (.tmp 16) = .bool true := bool_inv (opd_rel r5.env (show cOpd (.tmp 16) = some (.t 16) from rfl)) (by simp [Opd.ev, hnz])
            have hseen : seen.contains z.1.born = false := by
              cases hc : seen.contains z.1.born with
              | false => rfl
              | true => exact absurd hc (by simpa using hes)
            have hstep := restT_step (Z := ces.toList.zip ts) (seen := seen) (by
              have e : (ces.toList.zip ts).map (·.1.born) = ((ces.toList.zip ts).map (·.1)).map (·.born) := by rw [List.map_map]; rfl
              rw [e, zip_fst hlen]
              exact m6.2) hz hseen
            have hLl : L.length + 1 ≤ 12 := by
              have h1 := hperm.length_eq
              have h2 := hstep.length_eq
              have h3 := hts.len
              simp only [List.length_append, List.length_cons] at h1 h2
              omega
            have hr := @roomy_ok (L.length + 1) 128 (by omega) (by decide)
            refine wp_cond hb6 (region_run (l := [oM 17 3, oA 18 4 5, oA 19 8 4, o1 20 (.build zTerm [(0, 4, (.t 18)), (4, 8, (.t 19))]), o1 21 (.bsl 12 1 zTerm [(0, 12, (.t 20))]), o1 22 (.app 12 128 (.t 17) (.t 21)), oM 3 22]) (ord := []) (by kernel_rfl) (by simp [St.put, e3, g6, hr, cRat]; rfl) r5 ?_)
            intro κ6 a6 w6 r6 t6 f6
            have ha86 : a6.tmps[8]? = some (.pointer (some ⟨r, 0, none⟩)) := by
              rw [f6 8 (by simp), f5 8 (by simp), f4 8 (by simp), put_other (by simp)]; exact ha83
            have hit6 := (((r_frame r5.hp (.inr rfl) t6).trans (r_frame r4.hp (.inr rfl) t5)).trans (r_frame rs11.hp (.inr rfl) t4)).trans hit3
            refine .inl ⟨rfl, ⟨seen.push z.1.born, (leftOf ces (seen.push z.1.born)).size⟩, ?_, κ6, _, r6, ((T3.trans t4).trans t5).trans t6, hit6, ha86, rfl, L ++ [z.2], v + 1, by simp [St.put], ?_, ?_⟩
            · have := left_shrinks ces seen z.1 he
              simp only; omega
            · simp [cT_app, cT_cons, cT, cTerm, cRat]
            · rw [List.append_assoc]
              exact (List.Perm.append_left L hstep.symm).trans hperm
        | _ => done
      · rw [dif_neg H] at hspec; cases hspec
  · cases hspec
end Go.Va
end
section
open Go Go.ChangeShapes Go.WideShapes Go.Proofs
namespace Go.Va
section
variable {H : Type} {enc : TypeId × Value → H} {P : Program} {w : World} {base : Nat} {spare : Nat → Bool} {held : Bool}
theorem c4 : Tryz.prog.cellsOf 4 = 1 := by kernel_rfl
end
theorem cxS : CxOK Tryz.prog (cxT ppS) := cxT_ok (fun spec h => by cases h; exact poly_ok)
end Go.Va
end
section
namespace Go.Proofs.YtgkmheobocnenaaGreat.editDiffsRow
open Go.ChangeShapes Go.WideShapes Go.ChangeAt Go.RowKit Go.Va
theorem own : ownKnob Tryz.prog.godebug = none := by kernel_rfl
theorem laidOut : laidOutB Tryz.prog = true := by kernel_rfl
theorem mixes : Tryz.prog.follows .mixedOrders = true := by kernel_rfl
theorem walk (x0 : List Raw33) (x1 : List Raw33) (h0 : ∀ r ∈ x0, R33OK r) (l0 : x0.length ≤ maxLen) (h1 : ∀ r ∈ x1, R33OK r) (l1 : x1.length ≤ maxLen) (W : World) (v0 v1 : Value) (a0 : VL W noM [.frz .any x0.length (x0.flatMap cRaw)] [v0]) (a1 : VL W noM [.frz .any x1.length (x1.flatMap cRaw)] [v1]) :
    Calls Tryz.prog 9 #[v0, v1] W fun e W' => e = .returned (.bool true) ∧ Below W.heap.size W W' := by
  have hf := editDiffs x0 x1 h0 (by unfold maxLen at l0; omega) h1 (by unfold maxLen at l1; omega)
  have hv : VL W noM [.frz .any x0.length (x0.flatMap cRaw), .frz .any x1.length (x1.flatMap cRaw)] #[v0, v1].toList := by
    cases a0 with | cons b0 _ =>
    cases a1 with | cons b1 _ =>
    exact .cons b0 (.cons b1 .nil)
  refine (fev_calls mixes cxS (funD_fev.1 hf) (fun b hb => hb.elim) hv).mono ?_
  rintro e W' ⟨v, rfl, hg, hb⟩
  cases hb
  exact ⟨rfl, ⟨hg.os, hg.tape, hg.output, hg.size, fun k hk => hg.old k hk⟩⟩
set_option maxRecDepth 100000 in
theorem lifted (os : Os) (started : os.Started) (H : Type) (enc : TypeId × Value → H) :
    ReturnsInHanded {} Tryz.checked os 9 .any (Rows.editDiffsSpec.pre6 enc Tryz.prog Tryz.f9 Rows.editDiffsRow.domain false) (Rows.editDiffsSpec.post enc Tryz.prog Tryz.f9 false true false false) := by
  refine returnsInHanded_of_change (C := Tryz.checked) own started (by kernel_rfl) Tryz.func9
    (ChangeSpec.witness6 (enc := enc) (C := Tryz.checked) false ⟨#[], #[.slice none 0 0, .slice none 0 0], []⟩ 8 (by kernel_rfl) (by kernel_rfl) (by kernel_rfl) (by kernel_rfl)) ?_
  intro W base args ds gs before hval0 hW hcnd _
  have hval : ∀ (j : Nat) t v, Tryz.f9.params[j]? = some t → args[j]? = some v → Value.okWide Tryz.prog W .any base t v := hval0
  have hW' := hW
  obtain ⟨p, q, hA0, hV, rfl, hfz, hnd⟩ := hW
  have hA : DataW.TrodAll enc Tryz.prog W 0 (fun _ => true) true Tryz.f9.params.toList args.toList ds p := hA0
  rw [Tryz.params9] at hA hval
  obtain ⟨v0, v1, d0, d1, p0, p1, rfl, rfl, rfl, h0, h1⟩ := trodAll_two hA
  obtain ⟨rfl, rfl⟩ := trodVars_none hV
  obtain ⟨s0, n0, c0, rfl⟩ := okWide_slice Tryz.underlying22 (hval 0 22 v0 rfl rfl)
  obtain ⟨s1, n1, c1, rfl⟩ := okWide_slice Tryz.underlying22 (hval 1 22 v1 rfl rfl)
  have k0 := h0
  have lt0 : ∀ x ∈ p0, x.block < W.heap.size := by obtain ⟨m, hm⟩ := k0; exact DataW.trod_lt m _ _ _ hm
  obtain ⟨f0, e0⟩ := h0
  have k1 := h1
  have lt1 : ∀ x ∈ p1, x.block < W.heap.size := by obtain ⟨m, hm⟩ := k1; exact DataW.trod_lt m _ _ _ hm
  obtain ⟨f1, e1⟩ := h1
  obtain ⟨x0, ⟨l0, g0⟩, a0, -⟩ := data22 f0 _ _ e0
  obtain ⟨x1, ⟨l1, g1⟩, a1, -⟩ := data22 f1 _ _ e1
  clear hA0 hval0
  refine (walk x0 x1 g0 l0 g1 l1 W _ _ a0 a1).mono fun e W' ⟨he, bel⟩ => ?_
  subst he
  exact ⟨_, rfl, _, _, _, [], _, [], hW', trodAll_mk1 (shut_bool Tryz.underlying4 _), trodAll_mk2 (Below.trod laidOut (by kernel_rfl) (of_decide_eq_true (by kernel_rfl)) k0 bel lt0) (Below.trod laidOut (by kernel_rfl) (of_decide_eq_true (by kernel_rfl)) k1 bel lt1), rfl, bel.frame _, fun h => by cases h⟩
end Go.Proofs.YtgkmheobocnenaaGreat.editDiffsRow
end
section
namespace Go.Proofs.YtgkmheobocnenaaGreat.editDiffsRow
theorem named : Tryz.checked.prog.funcNamed "eliminant/eliminantlaw33.EditDiffs" = some 9 := by kernel_rfl
theorem inst : Tryz.f9.isInstance Tryz.checked.prog Rows.editDiffsRow.origin Rows.editDiffsRow.targs := of_decide_eq_true (by kernel_rfl)
theorem wrap : Tryz.f9.isWrapper Tryz.checked.prog Rows.editDiffsRow.wrapper Rows.editDiffsRow.mainSum := by unfold Func.isWrapper; first | (rw [if_pos (by decide +kernel)]; kernel_rfl) | (rw [if_neg (by decide +kernel)]; exact ⟨rfl, rfl⟩)
theorem c_ip : (Rows.editDiffsRow.inPlace == Tryz.checked.prog.inPlace 9) = true := by kernel_rfl
theorem c_uf : (Rows.editDiffsRow.unfollowed == Tryz.checked.prog.unfollowed 9) = true := by kernel_rfl
theorem c_rc : (Rows.editDiffsRow.recurses == Tryz.checked.prog.recurses 9) = true := by kernel_rfl
theorem c_vn : (Rows.editDiffsRow.named == Tryz.checked.prog.varsNamed 9) = true := by kernel_rfl
theorem closed : joinedFacts Tryz.checked.prog 9 Tryz.f9 Rows.editDiffsSpec Rows.editDiffsRow = true := by
  unfold joinedFacts
  rw [c_ip, c_uf, c_rc, c_vn]
  kernel_rfl
end Go.Proofs.YtgkmheobocnenaaGreat.editDiffsRow
end
