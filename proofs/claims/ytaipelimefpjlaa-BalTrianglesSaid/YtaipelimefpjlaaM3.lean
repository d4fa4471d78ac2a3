/- Proof texts, put together. -/
import Derived.Below
import Derived.Laws.Externs
import Derived.Lib.BitFns
import Derived.WideShapes
import Derived.ChangeSlices
import Derived.Test.YtaipelimefpjlaaM2
section
set_option linter.all false
/- Drawing regions hold; functions hold. -/
namespace Go.Ev
variable {P : Program} {tab : Nat → Option TI} {gd : Nat → List C} {B : Nat → Nat} {vs : List Nat} {m m' m1 : Nm} {s s' : St} {a : Act} {w w' w1 : World} {v v' : V} {rd wr : List Root} {n : Nat} {f f' : List V}
variable {call : Nat → List V → List Box → Heap → Option Res}

theorem draw_ok (hT : TabOk P tab) (hC : CallOK P gd call) : DrawOK P tab gd call := by
  intro opsA s s1 B m a w Q hev hS hq
  unfold evRegion at hev
  simp only [if_true] at hev
  split at hev
  · rename_i hform
    rw [layAllocs_bind] at hev
    cases hlay : layAllocs tab (allocsOf opsA.toList) s some with
    | none => rw [hlay] at hev; cases hev
    | some sL =>
      rw [hlay, Option.bind_some, evDraw_bind] at hev
      cases hdr : evDraw tab gd call (rgOf opsA.toList) sL.H.length (holdH sL.H (makesOf opsA.toList).length) opsA.toList 0 [] { sL with H := holdH sL.H (makesOf opsA.toList).length } pair2 with
      | none => rw [hdr] at hev; cases hev
      | some r =>
        obtain ⟨lg, s2⟩ := r
        rw [hdr, Option.bind_some] at hev
        dsimp only at hev
        split at hev
        · rename_i hlog
          simp only [Bool.and_eq_true] at hlog
          cases hfill : fillMade tab s2.fr sL.H.length (makesOf opsA.toList) s2.H with
          | none => rw [hfill] at hev; cases hev
          | some H2 =>
            rw [hfill, Option.bind_some] at hev
            injection hev with hev
            have F := form_of hform
            obtain ⟨vs, h1, h2, h3, h4, h5, h6, h7, h8, h9⟩ := lay_run (allocsOf opsA.toList) s sL [] hlay hS
            obtain ⟨t, t1, t2, t3, t4⟩ := trace _ _ _ _ _ _ _ _ _ hdr
            simp only [Nat.zero_add] at t2 t3
            have t4' : lg = logOf t opsA.toList.length := by rw [t4]; rfl
            have hst0 : (t.st 0).H = holdH sL.H (makesOf opsA.toList).length := by rw [t1]
            have hfr0 : (t.st 0).fr = sL.fr := by rw [t1]
            have hL0 : (t.st 0).L = sL.L := by rw [t1]
            have hB : Base tab gd call opsA.toList sL.H.length t := {
              form := F
              ok := fun j o hj => by rw [hst0]; exact t3 j o hj
              log := by rw [← t4']; exact hlog.1
              alc := by rw [← t4']; exact hlog.2
              kill := fun j o e d hj ho hd y u hu => h8 d (alloc_mem1.2 ⟨j, o, e, hj, ho, hd⟩) y u (by rw [← hfr0]; exact hu)
              lay := fun j o e d hj ho hd => by
                obtain ⟨e', ti, q1, q2, q3⟩ := h6 d (alloc_mem1.2 ⟨j, o, e, hj, ho, hd⟩)
                obtain ⟨j', o', hj', ho', hd'⟩ := alloc_mem.1 q1
                have hjj : j = j' := Classical.byContradiction fun hne => distinct F hj hj' hne hd hd'
                subst hjj
                rw [hj] at hj'
                injection hj' with hj'
                subst hj'
                rw [ho] at ho'
                injection ho' with ho'
                subst ho'
                exact ⟨ti, q2, fun x hx => q3 x (by rw [← hL0]; exact hx)⟩ }
            have hS0 : SRel gd B vs (m.cut sL.H.length) (t.st 0) a w := by rw [t1]; exact h1.hold _
            have hst : ({ t.st 0 with fr := (t.st 0).fr } : St) = t.st 0 := rfl
            have hn1 : sL.H.length = s.H.length := by rw [h3]
            have hcut : ∀ id, id < s.H.length → (m.cut sL.H.length).hp id = m.hp id := fun id hid => by simp only [Nm.cut]; rw [if_pos (by omega)]
            have hT0 : Trans m s w (t.st 0) (m.cut sL.H.length) w := by
              refine ⟨fun m9 w9 hk => ⟨hk.same, hk.os, hk.tape, hk.output, hk.size, hk.own, hk.nobox, hk.rf, fun id hid c hc => ?_⟩, ?_, fun id b hb hst => ⟨?_, ?_⟩, fun id cs hi => ?_, ?_⟩
              · rw [hcut id (Nat.lt_of_lt_of_le hid hS.n0)]; exact hk.hp id hid c hc
              · rw [hst0, holdH_eq, h3]; simp
              · rw [hst0, holdH_eq, h3, List.getElem?_append_left (List.getElem?_eq_some_iff.1 hb).1]; exact hb
              · exact hcut id (List.getElem?_eq_some_iff.1 hb).1
              · rw [hst0, holdH_eq, h3] at hi
                by_cases hl : id < s.H.length
                · rw [List.getElem?_append_left hl] at hi; exact hi
                · rw [List.getElem?_append_right (by omega), List.getElem?_replicate] at hi
                  split at hi
                  · injection hi with hi; cases hi
                  · cases hi
              · rw [t1]; exact h4
            have I0 : Inv tab gd B opsA.toList sL.H.length t m s w (fun _ => false) 0 (t.st 0).fr vs (fun _ => 0) (m.cut sL.H.length) a w := {
              closed := fun _ _ _ h => by cases h
              kle := Nat.zero_le _
              eff := fun j o _ _ => by simp
              fs := ⟨rfl, fun _ _ => rfl, fun _ _ _ _ h => by cases h⟩
              rel := hS0
              vsv := fun b => by
                rw [h2 b]
                simp only [List.not_mem_nil, false_or]
                rw [alloc_mem1]
                simp
              grows := fun _ _ => Grows.refl _
              trans := hT0
              zle := Nat.le_refl _
              dead := fun j o hj hm => by
                rw [hst0, holdH_eq]
                unfold mid
                rw [List.getElem?_append_right (by omega), List.getElem?_replicate, if_pos (by have := ahead_lt F hj hm; omega)]
              pend := fun j o hj hm _ => by
                simp only [Nm.cut, mid]
                rw [if_neg (by omega)]
              made := fun _ _ _ _ h => by cases h
              apart := fun _ _ _ _ _ _ _ _ h => by cases h }
            refine any_run hT hC hB hn1 (fun L a' w' hall hN => ?_) opsA.size (Array.replicate opsA.size false) (fun _ => false) a w (by simp) (fun j => by
              rw [Array.getD_eq_getD_getElem?, Array.getElem?_replicate]; split <;> rfl) ?_ ⟨0, _, vs, fun _ => 0, _, I0⟩
            · obtain ⟨k, f, vs', gb, m', I⟩ := hN
              have hallL : ∀ (j : Nat) (o : Oper), opsA.toList[j]? = some o → L j = true := fun j o hj => hall j (by have := (List.getElem?_eq_some_iff.1 hj).1; simpa using this)
              obtain ⟨e1, e2, e3, e4⟩ := mem_eq hB I.kle (Nat.le_refl _) fun j o hj ho => by
                rw [← I.eff j o hj ho, hallL j o hj]
                simp
                have := (List.getElem?_eq_some_iff.1 hj).1
                simpa using this
              have hcf := canonFS hB opsA.toList.length (Nat.le_refl _)
              have hff : f = (t.st opsA.toList.length).fr := by
                apply List.ext_getElem?
                intro x
                by_cases hx : x < f.length
                · by_cases hex : ∃ (j : Nat) (o : Oper), opsA.toList[j]? = some o ∧ o.dst = some x
                  · obtain ⟨j, o, hj, hd⟩ := hex
                    rw [I.fs.f1 j o x hj (hallL j o hj) hd hx, hcf.f1 j o x hj (by simpa using (List.getElem?_eq_some_iff.1 hj).1) hd (by rw [hcf.len, ← I.fs.len]; exact hx)]
                  · rw [I.fs.f0 x fun j o hj _ hd => hex ⟨j, o, hj, hd⟩, hcf.f0 x fun j o hj _ hd => hex ⟨j, o, hj, hd⟩]
                · rw [List.getElem?_eq_none (by omega), List.getElem?_eq_none (by rw [hcf.len, ← I.fs.len]; omega)]
              have hss : ({ t.st k with fr := f } : St) = s2 := by
                rw [← t2, hff]
                generalize t.st opsA.toList.length = q at *
                cases q
                exact st_ext e1 e2 e3 e4
              have hvs : vs' = [] := by
                apply List.eq_nil_iff_forall_not_mem.2
                intro b hb
                obtain ⟨j, o, e, hj, _, _, hl⟩ := (I.vsv b).1 hb
                rw [hallL j o hj] at hl
                cases hl
              have hrel := I.rel
              rw [hss, hvs] at hrel
              have htr := I.trans
              rw [hss] at htr
              have hkH : (t.st k).H = s2.H := by have h99 := congrArg St.H hss; exact h99
              obtain ⟨m2, k1, k2⟩ := fillM_run (S := s2) F hn1 (fun g hg => by
                  obtain ⟨q1, _⟩ := hS.glob g hg
                  obtain ⟨xs, ty, fz, hx, _⟩ := q1
                  exact lt_of_get hx) (fun id cs hi c hc => by
                  obtain ⟨_, _, xs, ty, fz, hx, _⟩ := hS.heap.cells id 0 cs hi c hc
                  exact lt_of_get hx) (fun j j' o o' hj hj' hm hm' hne => I.apart j j' o o' hj hj' hm hm' (hallL j o hj) (hallL j' o' hj') hne)
                (fun i o d hi hm hd => by
                  rw [← hss]
                  simp only [List.getD_eq_getElem?_getD]
                  by_cases hdl : d < f.length
                  · rw [I.fs.f1 i o d hi (hallL i o hi) hd hdl]; exact .inl rfl
                  · rw [List.getElem?_eq_none (by omega)]; exact .inr rfl) opsA.toList.length 0 m' s2.H H2 (by simp) (by simpa [makesAhead] using hfill)
                ⟨hrel, htr, fun i o hi hm _ => by rw [← hkH]; exact I.dead i o hi hm, fun i o hi hm _ => I.made i o hi hm (hallL i o hi)⟩
              rw [← hev] at hq
              exact hq a' w' m2 k1 k2
            · have : ∀ n, unl (fun _ => false) n = n := by
                intro n
                induction n with
                | zero => rfl
                | succ n ih => simp [unl, ih]
              rw [this]
              exact Nat.le_refl _
        · cases hev
  · cases hev
end Go.Ev
end

section
set_option linter.all false
/- Functions hold: the evaluator is right. -/
namespace Go.Ev
variable {P : Program} {tab : Nat → Option TI} {gd : Nat → List C} {B : Nat → Nat} {vs : List Nat} {m m' m1 : Nm} {s s' : St} {a : Act} {w w' w1 : World} {v v' : V} {rd wr : List Root} {n : Nat} {f f' : List V}
variable {call : Nat → List V → List Box → Heap → Option Res}

def resF (tmps : Array Value) : ResultVar → Sem Value
  | .tmp t => pure (tmps.getD t undef)
  | .cell a t => do loadVar t (← asAddr (tmps.getD a undef))

theorem results_eq (fn : Func) (tmps : Array Value) : results fn tmps = (do let vs ← fn.results.mapM (resF tmps); pure (if h : vs.size = 1 then vs[0] else .tuple vs)) := by
  unfold results
  congr

theorem resV_bind {α : Type} (s : St) (r : ResultVar) (K : V → Option α) : resV tab gd s r K = (resV tab gd s r some).bind K := by
  unfold resV
  cases r with
  | tmp t => rfl
  | cell a t =>
    simp only
    split
    · rw [loadV_bind]
      conv => rhs; arg 1; rw [loadV_bind]
      rw [Option.bind_assoc]
      rfl
    · rfl
theorem resL_bind {α : Type} (s : St) : ∀ (rs : List ResultVar) (K : List V → Option α), resL tab gd s rs K = (resL tab gd s rs some).bind K
  | [], K => rfl
  | r :: rs, K => by
    simp only [resL]
    rw [resV_bind]
    conv => rhs; arg 1; rw [resV_bind]
    rw [Option.bind_assoc]
    congr; funext v
    rw [resL_bind s rs]
    conv => rhs; arg 1; rw [resL_bind s rs]
    rw [Option.bind_assoc]
    rfl

theorem resV_run (hT : TabOk P tab) (h : SRel gd B [] m s a w) {r : ResultVar} (hr : resV tab gd s r some = some v) : ∃ x, (resF a.tmps r).run P w = .ok x w ∧ VR m s.H.length v x := by
  cases r with
  | tmp t =>
    simp only [resV, Option.some.injEq] at hr
    subst hr
    exact ⟨_, rfl, frame_rel h.fr t⟩
  | cell ad t =>
    simp only [resV] at hr
    have hV := frame_rel h.fr ad
    split at hr
    · rename_i p hp
      rw [hp] at hV
      rw [loadV_bind] at hr
      cases hl : loadV tab gd s none t p pair2 with
      | none => rw [hl] at hr; cases hr
      | some q =>
        obtain ⟨v1, rd1⟩ := q
        rw [hl] at hr
        simp only [Option.bind_some, Option.some.injEq] at hr
        subst hr
        have hnn : p ≠ .nil := by rintro rfl; cases hl
        obtain ⟨ad', hx⟩ := not_nil hV hnn
        obtain ⟨y, hy, hv⟩ := load_run (P := P) hT h (cx := none) hl hV (fun _ _ _ => by simp) (fun c hc => by cases hc)
        rw [hx] at hy
        refine ⟨y, ?_, hv⟩
        simp only [resF]
        rw [hx]
        simpa [Instr.loadAt, Instr.sureAddr, asAddr] using hy
    · cases hr

theorem resL_run (hT : TabOk P tab) (h : SRel gd B [] m s a w) : ∀ (rs : List ResultVar) (us : List V), resL tab gd s rs some = some us → ∃ xs : List Value, (rs.mapM (resF a.tmps)).run P w = .ok xs w ∧ All2 (VR m s.H.length) us xs
  | [], us, hr => by
    simp only [resL, Option.some.injEq] at hr
    subst hr
    exact ⟨[], rfl, .nil⟩
  | r :: rs, us, hr => by
    simp only [resL] at hr
    rw [resV_bind] at hr
    cases h1 : resV tab gd s r some with
    | none => rw [h1] at hr; cases hr
    | some u =>
      rw [h1, Option.bind_some, resL_bind] at hr
      cases h2 : resL tab gd s rs some with
      | none => rw [h2] at hr; cases hr
      | some us1 =>
        rw [h2] at hr
        simp only [Option.bind_some, Option.some.injEq] at hr
        subst hr
        obtain ⟨x, q1, q2⟩ := resV_run (P := P) hT h h1
        obtain ⟨xs, q3, q4⟩ := resL_run hT h rs us1 h2
        exact ⟨x :: xs, by simp [List.mapM_cons, q1, q3], .cons q2 q4⟩

theorem plain_VR1 {x : Value} (h : VR m n v x) (hp : plain1 v = true) : VR1 m n v x := by
  cases v <;> first | exact h | cases hp

theorem leave_run (hT : TabOk P tab) (h : SRel gd B [] m s a w) {fn : Func} {res : Res} (hl : leave tab gd fn.results.toList s = some res) :
    ∃ x, (results fn a.tmps).run P w = .ok x w ∧ VR m s.H.length res.1 x ∧ (plain1 res.1 = true ∨ ∃ us, res.1 = .tup us ∧ us.all plain1 = true) ∧ res.2 = (s.R, s.H) := by
  unfold leave at hl
  rw [resL_bind] at hl
  cases h2 : resL tab gd s fn.results.toList some with
  | none => rw [h2] at hl; cases hl
  | some us =>
    rw [h2, Option.bind_some] at hl
    obtain ⟨xs, q1, q2⟩ := resL_run (P := P) hT h _ us h2
    have hrun : ∀ y : Value, (if h : xs.toArray.size = 1 then xs.toArray[0] else Value.tuple xs.toArray) = y → (results fn a.tmps).run P w = .ok y w := by
      intro y hy
      rw [results_eq]
      simp only [Array.mapM_eq_mapM_toList, Sem.run_bind, Sem.run_map, q1, Result.andThen_ok]
      rw [hy]
      rfl
    split at hl
    · rename_i u
      split at hl
      · rename_i hp
        injection hl with hl
        subst hl
        cases q2 with
        | cons k1 k2 =>
          cases k2
          rename_i x
          exact ⟨x, hrun x (by simp), k1, .inl hp, rfl⟩
      · cases hl
    · rename_i hne
      split at hl
      · rename_i hp
        injection hl with hl
        subst hl
        have hlen : xs.length ≠ 1 := by
          rw [← q2.length]
          intro e
          obtain ⟨u, hu⟩ := List.length_eq_one_iff.1 e
          exact hne u hu
        refine ⟨.tuple xs.toArray, hrun _ (by simp [hlen]), ⟨xs, rfl, ?_⟩, .inr ⟨us, rfl, hp⟩, rfl⟩
        refine All2.of_get q2.length fun i u x hu hx => ?_
        obtain ⟨x', hx', hr⟩ := q2.get i u hu
        rw [hx] at hx'
        injection hx' with hx'
        subst hx'
        exact plain_VR1 hr (List.all_eq_true.1 hp u (List.mem_of_getElem? hu))
      · cases hl

/-- A function's contract that stands in the evaluator's place. -/
def ExtOK (P : Program) (f e : Nat) : Prop :=
  ∀ (args : List V) (r : V) (xs : Array Value) (w : World) (m : Nm) (n : Nat), extV e args = some r → All2 (VR m n) args xs.toList →
    ((callFunc f xs).run P w = .ok (.enter f xs) w ∧ Calls P f xs w fun en w' => ∃ x, en = .returned x ∧ w' = w ∧ ∀ m n, VR m n r x) ∨ ∃ x, (callFunc f xs).run P w = .ok (.value x) w ∧ ∀ m n, VR m n r x

structure EnvOK (E : Env) : Prop where
  tab : TabOk E.P E.tab
  mixed : E.P.follows .mixedOrders = true
  names : ∀ (f : Nat) (fn : Func), E.P.funcs[f]? = some fn → (fn.name == "runtime.NumGoroutine") = false
  ext : ∀ f e, E.ext f = some e → ExtOK E.P f e

theorem extV_plain {e : Nat} {args : List V} {r : V} (h : extV e args = some r) : plain1 r = true ∨ ∃ us, r = .tup us ∧ us.all plain1 = true := by
  have key : ∀ (b : Bool) (u : V), (bif b then some u else none) = some r → u = r := by
    intro b u h
    cases b with
    | true => injection h
    | false => cases h
  unfold extV at h
  split at h
  · rw [← key _ _ h]; exact .inr ⟨_, rfl, rfl⟩
  · rw [← key _ _ h]; exact .inr ⟨_, rfl, rfl⟩
  · rw [← key _ _ h]; exact .inl rfl
  · cases h

theorem enter_run {fn : Func} {c : Code} {f : Nat} {xs : Array Value} (hf : P.funcs[f]? = some fn) (hb : fn.body = some c) (hn : (fn.name == "runtime.NumGoroutine") = false) : (callFunc f xs).run P w = .ok (.enter f xs) w := by
  have hn' : ¬ fn.name = "runtime.NumGoroutine" := by simpa using hn
  simp [callFunc, hf, hb, hn']

theorem ev_ok (E : Env) (hE : EnvOK E) : ∀ d, CallOK E.P E.gd (ev E d) := by
  intro d
  induction d with
  | zero => intro g args R H res h; cases h
  | succ d ih =>
    intro g args R H res hev B m w xs hEn hxs
    simp only [ev] at hev
    split at hev
    · rename_i e he
      cases hx : extV e args with
      | none => rw [hx] at hev; cases hev
      | some r =>
        rw [hx] at hev
        simp only [Option.map_some, Option.some.injEq] at hev
        subst hev
        have hleft : ∀ x, (∀ m n, VR m n r x) → Left E.gd B m R H w (r, R, H) x m w := fun x hv => {
          val := hv m _
          plain := extV_plain hx
          ref := hEn.ref
          heap := ⟨fun id kd cs hi c hc => by
              have := hEn.heap.cells id kd cs hi c hc
              have hlt := (List.getElem?_eq_some_iff.1 hi).1
              have e : bnd B H.length H.length id = B id := by unfold bnd; rw [if_pos hlt]
              rw [e]; exact this, hEn.heap.one, hEn.heap.own, hEn.heap.ro, hEn.heap.map, hEn.heap.mone⟩
          len := Nat.le_refl _
          kept := ⟨fun _ _ _ => rfl, rfl, rfl, rfl, Nat.le_refl _, fun _ _ => rfl, hEn.nobox, rfl, fun _ _ _ h => h⟩
          lt := hEn.lt
          dead := fun _ _ h _ => ⟨h, rfl⟩
          ro := fun _ _ h => h }
        rcases hE.ext g e he args r xs w m H.length hx hxs with ⟨h1, h2⟩ | ⟨x, h1, h2⟩
        · refine .inl ⟨h1, h2.mono fun en w' hen => ?_⟩
          obtain ⟨x, rfl, rfl, hv⟩ := hen
          exact ⟨x, m, rfl, hleft x hv⟩
        · exact .inr ⟨x, m, h1, hleft x h2⟩
    · split at hev
      · rename_i fn hf
        split at hev
        · rename_i c hb
          refine .inl ⟨enter_run hf hb (hE.names g fn hf), ?_⟩
          rw [evK_bind] at hev
          cases hk : evK E.tab E.gd (ev E d) (E.scr g) E.N c (entry args fn.ntmps R H) pairX with
          | none => rw [hk] at hev; cases hev
          | some r =>
            obtain ⟨x1, s1⟩ := r
            rw [hk, Option.bind_some] at hev
            have hS : SRel E.gd B [] m (entry args fn.ntmps R H) { tmps := xs ++ Array.replicate (fn.ntmps - xs.size) undef, defers := [] } w := {
              fr := by
                have hl := hxs.length
                simp only [entry, Array.toList_append, Array.toList_replicate]
                refine hxs.append ?_
                rw [hl, Array.length_toList]
                exact All2.replicate undef_rel _
              box := fun b t cs hb => by
                simp only [entry, List.getElem?_replicate] at hb
                split at hb <;> cases hb
              ref := hEn.ref
              heap := ⟨fun id kd cs hi c hc => by
                have := hEn.heap.cells id kd cs hi c hc
                have hlt := (List.getElem?_eq_some_iff.1 hi).1
                have e : bnd B H.length H.length id = B id := by unfold bnd; exact if_pos hlt
                show CpAt m.hp (bnd B H.length H.length id) w c kd cs
                rw [e]; exact this, hEn.heap.one, hEn.heap.own, hEn.heap.ro, hEn.heap.map, hEn.heap.mone⟩
              n0 := Nat.le_refl _
              B := hEn.B
              lt := hEn.lt
              glob := hEn.glob
              defers := rfl }
            refine calls_of_wp hf hb (evK_run hE.tab ih (draw_ok hE.tab ih) hE.mixed c _ m _ w x1 s1 _ hk hS fun a' w' m' k1 k2 => ?_)
            have hfin : leave E.tab E.gd fn.results.toList s1 = some res → a'.defers = [] ∧ ∃ v, (results fn a'.tmps).run E.P w' = .ok v w' ∧ ∃ x m', Ending.returned v = .returned x ∧ Left E.gd B m R H w res x m' w' := by
              intro hl
              obtain ⟨x, q1, q2, q3, q4⟩ := leave_run (P := E.P) hE.tab k1 hl
              obtain ⟨r1, r2, r3⟩ := res
              simp only [Prod.mk.injEq] at q4
              obtain ⟨rfl, rfl⟩ := q4
              have hn0 : s1.n0 = H.length := k2.n0
              have hk0 : Kept m H.length w m w := ⟨fun _ _ _ => rfl, rfl, rfl, rfl, Nat.le_refl _, fun _ _ => rfl, hEn.nobox, rfl, fun _ _ _ h => h⟩
              refine ⟨k1.defers, x, q1, x, m', rfl, ⟨q2, q3, k1.ref, ?_, k2.len, k2.kept m w hk0, k1.lt, k2.dead, k2.ro⟩⟩
              have := k1.heap
              rw [hn0] at this
              exact this
            cases x1 with
            | normal => exact hfin hev
            | ret => exact hfin hev
            | exit j => cases hev
        · cases hev
      · cases hev
end Go.Ev
end

section
set_option linter.all false
/- Pieces of code that are known: loops and what stands behind branches. -/
namespace Go.Ev
variable {tab : Nat → Option TI} {gd : Nat → List C} {call : Nat → List V → List Box → Heap → Option Res} {scr : Nat → Option (List Nat × List Nat)} {N : Nat}

/-- All but what is marked is forgotten. -/
def anyAt : List Bool → List V → Bool
  | [], [] => true
  | true :: m, _ :: xs => anyAt m xs
  | false :: m, .any :: xs => anyAt m xs
  | _, _ => false
def noneAt : List Bool → List (Option Box) → Bool
  | [], [] => true
  | true :: m, _ :: xs => noneAt m xs
  | false :: m, none :: xs => noneAt m xs
  | _, _ => false
def liveAt {β : Type} : List Bool → List β → List β
  | true :: m, x :: xs => x :: liveAt m xs
  | false :: m, _ :: xs => liveAt m xs
  | _, _ => []
def fillAt {β : Type} (d : β) : List Bool → List β → List β
  | true :: m, x :: xs => x :: fillAt d m xs
  | true :: m, [] => d :: fillAt d m []
  | false :: m, xs => d :: fillAt d m xs
  | [], _ => []

theorem any_fill : ∀ (m : List Bool) (xs : List V), anyAt m xs = true → fillAt .any m (liveAt m xs) = xs
  | [], [], _ => rfl
  | [], _ :: _, h => by cases h
  | true :: m, [], h => by cases h
  | false :: m, [], h => by cases h
  | true :: m, x :: xs, h => by simp only [anyAt] at h; simp only [liveAt, fillAt, any_fill m xs h]
  | false :: m, x :: xs, h => by
    cases x <;> first | (simp only [anyAt] at h; simp only [liveAt, fillAt, any_fill m xs h]) | cases h
theorem none_fill : ∀ (m : List Bool) (xs : List (Option Box)), noneAt m xs = true → fillAt none m (liveAt m xs) = xs
  | [], [], _ => rfl
  | [], _ :: _, h => by cases h
  | true :: m, [], h => by cases h
  | false :: m, [], h => by cases h
  | true :: m, x :: xs, h => by simp only [noneAt] at h; simp only [liveAt, fillAt, none_fill m xs h]
  | false :: m, x :: xs, h => by
    cases x <;> first | (simp only [noneAt] at h; simp only [liveAt, fillAt, none_fill m xs h]) | cases h

/-- A piece of code that is known at states of one form. -/
structure Cut where
  fr : List Bool
  bx : List Bool
  run : ∀ (α : Type), List V → List (Option Box) → List Box → Heap → Nat → (X → St → Option α) → Option α

def Cut.st (k : Cut) (vs : List V) (bs : List (Option Box)) (R : List Box) (H : Heap) (n0 : Nat) : St := { fr := fillAt .any k.fr vs, L := fillAt none k.bx bs, R, H, n0 }

def Cut.go (k : Cut) {α : Type} (s : St) (K : X → St → Option α) : Option α :=
  bif anyAt k.fr s.fr && noneAt k.bx s.L then k.run α (liveAt k.fr s.fr) (liveAt k.bx s.L) s.R s.H s.n0 K else none

theorem Cut.go_some {k : Cut} {α : Type} {s : St} {K : X → St → Option α} {y : α} (h : k.go s K = some y) : ∃ vs bs, s = k.st vs bs s.R s.H s.n0 ∧ k.run α vs bs s.R s.H s.n0 K = some y := by
  unfold Cut.go at h
  cases hb : (anyAt k.fr s.fr && noneAt k.bx s.L) with
  | false => rw [hb] at h; cases h
  | true =>
    rw [hb, cond_true] at h
    simp only [Bool.and_eq_true] at hb
    refine ⟨_, _, ?_, h⟩
    unfold Cut.st
    rw [any_fill _ _ hb.1, none_fill _ _ hb.2]

/-- The region that a piece of code begins with. -/
def lead : Code → Option Nat
  | .region id _ _ => some (3 * id)
  | .seq a _ => lead a
  | .block _ c => lead c
  | .scope c => lead c
  | .loop c => lead c
  | _ => none

def scrubL (scr : Nat → Option (List Nat × List Nat)) (c : Code) (s : St) : St := scrub ((lead c).bind scr) s

theorem keepAt_idem {β : Type} (ks : List Nat) (d : β) : ∀ (xs : List β) (i : Nat), keepAt ks d i (keepAt ks d i xs) = keepAt ks d i xs
  | [], i => rfl
  | x :: xs, i => by
    simp only [keepAt]
    rw [keepAt_idem ks d xs]
    congr 1
    split <;> rfl
theorem scrub_idem (x : Option (List Nat × List Nat)) (s : St) : scrub x (scrub x s) = scrub x s := by
  cases x with
  | none => rfl
  | some ab => obtain ⟨a, b⟩ := ab; simp only [scrub, keepAt_idem]

theorem evK_lead {α : Type} : ∀ (c : Code) (s : St) (K : X → St → Option α), evK tab gd call scr N c (scrubL scr c s) K = evK tab gd call scr N c s K := by
  intro c
  induction c with
  | region id ops draw => intro s K; simp only [evK, scrubL, lead, Option.bind_some, scrub_idem]
  | seq a b iha ihb => intro s K; simp only [evK]; exact iha s _
  | block id c ih => intro s K; simp only [evK]; exact ih s _
  | scope c ih => intro s K; simp only [evK]; exact ih s _
  | loop c ih =>
    intro s K
    rw [evK_loop, evK_loop]
    cases N with
    | zero => rfl
    | succ N => simp only [loopK]; exact ih s _
  | _ => intro s K; rfl

theorem loopK_lead {α : Type} (c : Code) (K : X → St → Option α) (k : Nat) (s : St) : loopK (evK tab gd call scr N c) K k (scrubL scr c s) = loopK (evK tab gd call scr N c) K k s := by
  cases k with
  | zero => rfl
  | succ k => simp only [loopK]; exact evK_lead c s _

/-- The evaluator with cuts: a loop must be one. -/
def evC {α : Type} (tab : Nat → Option TI) (gd : Nat → List C) (call : Nat → List V → List Box → Heap → Option Res) (scr : Nat → Option (List Nat × List Nat)) (cut : List Nat → Option Cut) : List Nat → Code → St → (X → St → Option α) → Option α
  | _, .skip, s, K => K .normal s
  | _, .label _, s, K => K .normal s
  | _, .region id ops draw, s, K => evRegion tab gd call ops.toList draw (scrub (scr (3 * id)) s) fun s => K .normal s
  | p, .seq a b, s, K => evC tab gd call scr cut (0 :: p) a s fun x s => match x with
    | .normal => (match cut (1 :: p) with
      | some k => k.go (scrubL scr b s) K
      | none => evC tab gd call scr cut (1 :: p) b s K)
    | .exit j => K (.exit j) s
    | .ret => K .ret s
  | p, .cond c a b, s, K => match c with
    | .tmp t => (match s.fr.getD t und with
      | .one (.bool v) => bif v then evC tab gd call scr cut (0 :: p) a (s.put (some t) (.one (.bool true))) K else evC tab gd call scr cut (1 :: p) b (s.put (some t) (.one (.bool false))) K
      | _ => none)
    | _ => none
  | p, .block id c, s, K => evC tab gd call scr cut (0 :: p) c s fun x s => match x with | .normal => K .normal s | .exit j => if j = id then K .normal s else K (.exit j) s | .ret => K .ret s
  | p, .loop c, s, K => match cut (2 :: p) with
    | some k => k.go (scrubL scr c s) K
    | none => loopK (fun s K => evC tab gd call scr cut (0 :: p) c s K) K 64 s
  | p, .scope c, s, K => evC tab gd call scr cut (0 :: p) c s K
  | _, .exit id, s, K => K (.exit id) (scrub (scr (3 * id + 1)) s)
  | _, .ret, s, K => K .ret (scrub (scr 2) s)
  | _, _, _, _ => none

/-- The piece of code at a place. -/
def codeAt (root : Code) : List Nat → Code
  | [] => root
  | i :: p => match i, codeAt root p with
    | 0, .seq a _ => a
    | 1, .seq _ b => b
    | 0, .cond _ a _ => a
    | 1, .cond _ _ b => b
    | 0, .block _ c => c
    | 0, .scope c => c
    | 0, .loop c => c
    | 2, .loop c => .loop c
    | _, _ => .skip

/-- A cut says what the evaluator says. -/
def CutOK (tab : Nat → Option TI) (gd : Nat → List C) (call : Nat → List V → List Box → Heap → Option Res) (scr : Nat → Option (List Nat × List Nat)) (N : Nat) (k : Cut) (c : Code) : Prop :=
  ∀ (α : Type) (vs : List V) (bs : List (Option Box)) (R : List Box) (H : Heap) (n0 : Nat) (K : X → St → Option α) (y : α), k.run α vs bs R H n0 K = some y → evK tab gd call scr N c (k.st vs bs R H n0) K = some y

theorem CutOK.go {k : Cut} {c : Code} (h : CutOK tab gd call scr N k c) {α : Type} {s : St} {K : X → St → Option α} {y : α} (hg : k.go s K = some y) : evK tab gd call scr N c s K = some y := by
  obtain ⟨vs, bs, h1, h2⟩ := Cut.go_some hg
  rw [h1]
  exact h α vs bs _ _ _ K y h2

theorem evK_mono {α : Type} {c : Code} {s : St} {K K' : X → St → Option α} (hK : ∀ x s y, K x s = some y → K' x s = some y) {y : α} (h : evK tab gd call scr N c s K = some y) : evK tab gd call scr N c s K' = some y := by
  rw [evK_bind] at h ⊢
  cases he : evK tab gd call scr N c s pairX with
  | none => rw [he] at h; cases h
  | some r => rw [he] at h; exact hK _ _ _ h

def CutsOK (tab : Nat → Option TI) (gd : Nat → List C) (call : Nat → List V → List Box → Heap → Option Res) (scr : Nat → Option (List Nat × List Nat)) (N : Nat) (cut : List Nat → Option Cut) (root : Code) : Prop :=
  ∀ p k, cut p = some k → CutOK tab gd call scr N k (codeAt root p)

theorem loopK_more {α : Type} {E : St → (X → St → Option α) → Option α} (hE : ∀ (s : St) (K K' : X → St → Option α) (y : α), (∀ x s y, K x s = some y → K' x s = some y) → E s K = some y → E s K' = some y) {K : X → St → Option α} :
    ∀ (k d : Nat) (s : St) (y : α), loopK E K k s = some y → loopK E K (k + d) s = some y
  | 0, d, s, y, h => by cases h
  | k + 1, d, s, y, h => by
    rw [show k + 1 + d = k + d + 1 from by omega]
    simp only [loopK] at h ⊢
    refine hE s _ _ y (fun x s y hx => ?_) h
    cases x with
    | normal => exact loopK_more hE k d s y hx
    | _ => exact hx

theorem loopK_le {α : Type} {E E' : St → (X → St → Option α) → Option α} (hE : ∀ (s : St) (K K' : X → St → Option α) (y : α), (∀ x s y, K x s = some y → K' x s = some y) → E s K = some y → E' s K' = some y)
    {K K' : X → St → Option α} (hK : ∀ x s y, K x s = some y → K' x s = some y) : ∀ (k : Nat) (s : St) (y : α), loopK E K k s = some y → loopK E' K' k s = some y
  | 0, s, y, h => by cases h
  | k + 1, s, y, h => by
    simp only [loopK] at h ⊢
    refine hE s _ _ y (fun x s y hx => ?_) h
    cases x with
    | normal => exact loopK_le hE hK k s y hx
    | _ => exact hK _ _ _ hx

theorem evC_le (hN : 64 ≤ N) {cut : List Nat → Option Cut} {root : Code} (hc : CutsOK tab gd call scr N cut root) {α : Type} : ∀ (c : Code) (p : List Nat) (s : St) (K K' : X → St → Option α) (y : α), codeAt root p = c →
    (∀ x s y, K x s = some y → K' x s = some y) → evC tab gd call scr cut p c s K = some y → evK tab gd call scr N c s K' = some y := by
  intro c
  induction c with
  | region id ops draw =>
    intro p s K K' y hp hK h
    simp only [evC] at h
    simp only [evK]
    rw [evRegion_bind] at h ⊢
    cases he : evRegion tab gd call ops.toList draw (scrub (scr (3 * id)) s) some with
    | none => rw [he] at h; cases h
    | some s1 => rw [he] at h; exact hK _ _ _ h
  | seq a b iha ihb =>
    intro p s K K' y hp hK h
    simp only [evC] at h
    simp only [evK]
    refine iha (0 :: p) s _ _ y (by simp [codeAt, hp]) (fun x s y hx => ?_) h
    cases x with
    | normal =>
      simp only at hx ⊢
      cases hcut : cut (1 :: p) with
      | none => rw [hcut] at hx; exact ihb (1 :: p) s K K' y (by simp [codeAt, hp]) hK hx
      | some k =>
        rw [hcut] at hx
        have h1 := (hc _ _ hcut).go hx
        rw [show codeAt root (1 :: p) = b from by simp [codeAt, hp], evK_lead] at h1
        exact evK_mono hK h1
    | exit j => exact hK _ _ _ hx
    | ret => exact hK _ _ _ hx
  | cond c a b iha ihb =>
    intro p s K K' y hp hK h
    simp only [evC] at h
    simp only [evK]
    cases c with
    | tmp t =>
      simp only at h ⊢
      generalize s.fr.getD t und = v at h ⊢
      cases v with
      | one d => cases d with
        | bool v => cases v with
          | true => simp only [cond_true] at h ⊢; exact iha (0 :: p) _ K K' y (by simp [codeAt, hp]) hK h
          | false => simp only [cond_false] at h ⊢; exact ihb (1 :: p) _ K K' y (by simp [codeAt, hp]) hK h
        | _ => cases h
      | _ => cases h
    | _ => cases h
  | block id c ih =>
    intro p s K K' y hp hK h
    simp only [evC] at h
    simp only [evK]
    refine ih (0 :: p) s _ _ y (by simp [codeAt, hp]) (fun x s y hx => ?_) h
    cases x with
    | normal => exact hK _ _ _ hx
    | ret => exact hK _ _ _ hx
    | exit j =>
      simp only at hx ⊢
      split at hx
      · rename_i e; rw [if_pos e]; exact hK _ _ _ hx
      · rename_i e; rw [if_neg e]; exact hK _ _ _ hx
  | loop c ih =>
    intro p s K K' y hp hK h
    simp only [evC] at h
    cases hcut : cut (2 :: p) with
    | none =>
      rw [hcut] at h
      simp only at h
      rw [evK_loop]
      obtain ⟨d, rfl⟩ := Nat.exists_eq_add_of_le hN
      refine loopK_more (E := fun s K => evK tab gd call scr (64 + d) c s K) (fun s K K' y hK' hx => evK_mono hK' hx) 64 d s y (loopK_le (E' := evK tab gd call scr (64 + d) c) (fun s K K' y hK' hx => ?_) hK 64 s y h)
      exact ih (0 :: p) s K K' y (by simp [codeAt, hp]) hK' hx
    | some k =>
      rw [hcut] at h
      have h1 := (hc _ _ hcut).go h
      rw [show codeAt root (2 :: p) = .loop c from by simp [codeAt, hp]] at h1
      have h2 := evK_mono hK h1
      rw [show scrubL scr c s = scrubL scr (.loop c) s from rfl, evK_lead] at h2
      exact h2
  | scope c ih =>
    intro p s K K' y hp hK h
    simp only [evC] at h
    simp only [evK]
    exact ih (0 :: p) s K K' y (by simp [codeAt, hp]) hK h
  | exit id => intro p s K K' y hp hK h; exact hK _ _ _ h
  | ret => intro p s K K' y hp hK h; exact hK _ _ _ h
  | skip => intro p s K K' y hp hK h; exact hK _ _ _ h
  | label l => intro p s K K' y hp hK h; exact hK _ _ _ h
  | _ => intro p s K K' y hp hK h; cases h

/-- A join: the cut's text is one step of the evaluator with the other cuts. -/
theorem join_ok (hN : 64 ≤ N) {cut : List Nat → Option Cut} {root : Code} (hc : CutsOK tab gd call scr N cut root) {k : Cut} {p : List Nat}
    (h : ∀ (α : Type) (vs : List V) (bs : List (Option Box)) (R : List Box) (H : Heap) (n0 : Nat) (K : X → St → Option α) (y : α), k.run α vs bs R H n0 K = some y → evC tab gd call scr cut p (codeAt root p) (k.st vs bs R H n0) K = some y) :
    CutOK tab gd call scr N k (codeAt root p) :=
  fun α vs bs R H n0 K y hr => evC_le hN hc _ p _ K K y rfl (fun _ _ _ h => h) (h α vs bs R H n0 K y hr)

/-- A loop: a round is one step of the evaluator. -/
theorem loop_ok (hN : 64 ≤ N) {cut : List Nat → Option Cut} {root : Code} (hc : CutsOK tab gd call scr N cut root) {p : List Nat} {c : Code} (hl : codeAt root p = .loop c) (k : Nat → Cut)
    (h0 : ∀ (α : Type) vs bs R H n0 (K : X → St → Option α), (k 0).run α vs bs R H n0 K = none)
    (hst : ∀ n, (k n).fr = (k 0).fr ∧ (k n).bx = (k 0).bx)
    (h : ∀ (n : Nat) (α : Type) (vs : List V) (bs : List (Option Box)) (R : List Box) (H : Heap) (n0 : Nat) (K : X → St → Option α) (y : α), (k (n + 1)).run α vs bs R H n0 K = some y →
      evC tab gd call scr cut (0 :: p) c ((k 0).st vs bs R H n0) (fun x s => match x with | .normal => (k n).go (scrubL scr c s) K | .exit j => K (.exit j) s | .ret => K .ret s) = some y) :
    CutOK tab gd call scr N (k N) (codeAt root (2 :: p)) := by
  have hc0 : codeAt root (0 :: p) = c := by simp [codeAt, hl]
  have hc2 : codeAt root (2 :: p) = .loop c := by simp [codeAt, hl]
  have key : ∀ (n : Nat) (α : Type) (vs : List V) (bs : List (Option Box)) (R : List Box) (H : Heap) (n0 : Nat) (K : X → St → Option α) (y : α), (k n).run α vs bs R H n0 K = some y →
      loopK (evK tab gd call scr N c) K n ((k 0).st vs bs R H n0) = some y := by
    intro n
    induction n with
    | zero => intro α vs bs R H n0 K y hr; rw [h0] at hr; cases hr
    | succ n ih =>
      intro α vs bs R H n0 K y hr
      simp only [loopK]
      refine evC_le hN hc c (0 :: p) _ _ _ y hc0 (fun x s y hx => ?_) (h n α vs bs R H n0 K y hr)
      cases x with
      | normal =>
        simp only at hx ⊢
        obtain ⟨vs', bs', h1, h2⟩ := Cut.go_some hx
        have h3 := ih α vs' bs' _ _ _ K y h2
        have h4 : (k 0).st vs' bs' (scrubL scr c s).R (scrubL scr c s).H (scrubL scr c s).n0 = scrubL scr c s := by
          rw [h1]
          unfold Cut.st
          rw [(hst n).1, (hst n).2]
        rw [h4, loopK_lead] at h3
        exact h3
      | exit j => exact hx
      | ret => exact hx
  intro α vs bs R H n0 K y hr
  rw [hc2, evK_loop]
  have := key N α vs bs R H n0 K y hr
  have h4 : (k N).st vs bs R H n0 = (k 0).st vs bs R H n0 := by
    unfold Cut.st
    rw [(hst N).1, (hst N).2]
  rw [h4]
  exact this

/-- A function, with cuts. -/
def evF (E : Env) (call : Nat → List V → List Box → Heap → Option Res) (f : Nat) (cut : List Nat → Option Cut) (args : List V) (R : List Box) (H : Heap) : Option Res :=
  match E.P.funcs[f]? with
  | some fn => (match fn.body with
    | some c => evC E.tab E.gd call (E.scr f) cut [] c (entry args fn.ntmps R H) fun x s => match x with
      | .normal | .ret => leave E.tab E.gd fn.results.toList s
      | .exit _ => none
    | none => none)
  | none => none

theorem evF_le {E : Env} (hN : 64 ≤ E.N) {f d : Nat} (hx : E.ext f = none) {fn : Func} {c : Code} (hf : E.P.funcs[f]? = some fn) (hb : fn.body = some c) {cut : List Nat → Option Cut} (hc : CutsOK E.tab E.gd (ev E d) (E.scr f) E.N cut c)
    {args : List V} {R : List Box} {H : Heap} {res : Res} (h : evF E (ev E d) f cut args R H = some res) : ev E (d + 1) f args R H = some res := by
  unfold evF at h
  rw [hf] at h
  simp only [hb] at h
  simp only [ev, hx, hf, hb]
  exact evC_le hN hc c [] _ _ _ res rfl (fun x s y h => h) h
end Go.Ev
end

section
set_option linter.all false
/- Words of the printed functions. -/
namespace Go.Ev
section
variable {α : Type}
def rI (k : IntKind) (v : V) (F : Int → Option α) : Option α := match v with | .one c => asI k c F | _ => none
def rB (v : V) (F : Bool → Option α) : Option α := match v with | .one c => asB c F | _ => none
def rC (v : V) (F : C → Option α) : Option α := match v with | .one c => F c | _ => none
def rA (v : V) (F : List C → Option α) : Option α := match v with | .agg cs => F cs | _ => none
def rT (v : V) (F : List V → Option α) : Option α := match v with | .tup vs => F vs | _ => none
def tL (vs : List V) (F : V → List V → Option α) : Option α := match vs with | v :: vs => F v vs | [] => none
def tN (vs : List V) (x : Option α) : Option α := match vs with | [] => x | _ :: _ => none
def cI (k : IntKind) (cs : List C) (F : Int → List C → Option α) : Option α := match cs with | c :: cs => asI k c fun n => F n cs | [] => none
def cB (cs : List C) (F : Bool → List C → Option α) : Option α := match cs with | c :: cs => asB c fun b => F b cs | [] => none
def cO (cs : List C) (F : C → List C → Option α) : Option α := match cs with | c :: cs => F c cs | [] => none
def cN (cs : List C) (x : Option α) : Option α := match cs with | [] => x | _ :: _ => none
def bL (bs : List Box) (F : List C → List Box → Option α) : Option α := match bs with | (_, cs) :: bs => F cs bs | [] => none
def bN (bs : List Box) (x : Option α) : Option α := match bs with | [] => x | _ :: _ => none
def optK {β : Type} (x : Option β) (F : β → Option α) : Option α := match x with | some b => F b | none => none
def lenK (c : C) (F : Int → Option α) : Option α := match lenC c with | some n => F n | _ => none
def eltK (c : C) (sz : Nat) (i : Int) (F : Nat → Nat → Option α) : Option α :=
  match c with
  | .sl id off len sz' => if sz = sz' then bif decide (0 ≤ i) && decide (i < len) then F id (off + i.toNat * sz) else none else none
  | _ => none
def rdE (H : Heap) (id i n : Nat) (F : List C → Option α) : Option α := F (((memAt H id).drop i).take n)
def stE (H : Heap) (id i : Nat) (xs : List C) (F : Heap → Option α) : Option α :=
  match H.getD id .dead with | .mem 2 cs => F (H.set id (.mem 2 (putCells cs i xs))) | _ => none
def stG (H : Heap) (n0 : Nat) (id i : Nat) (xs : List C) (F : Heap → Option α) : Option α :=
  match H.getD id .dead with | .mem 2 cs => (bif xs.all flatC || decide (n0 ≤ id) then F (H.set id (.mem 2 (putCells cs i xs))) else none) | _ => none
def mapK (H : Heap) (id : Nat) (F : List (Int × Bool) → Option α) : Option α := match H.getD id .dead with | .map es => F es | _ => none
end
def mkB (n m : Int) (by_ : Nat) : Bool := decide (0 ≤ n) && decide (n ≤ m) && decide (m ≤ 2 ^ 40) && decide (m * by_ ≤ 2 ^ 40) && true
def maxN (x y : Int) : Int := if y > x then y else x
def minN (x y : Int) : Int := if y < x then y else x
def stF (mf ml : List Bool) (vs : List V) (bs : List (Option Box)) (R : List Box) (H : Heap) (n0 : Nat) : St := { fr := fillAt .any mf vs, L := fillAt none ml bs, R, H, n0 }
end Go.Ev
end

section
set_option linter.all false
/- Tables as trees; what a table says of types, asked by the kernel. -/
namespace Go.Ev

inductive T (α : Type) where
  | leaf
  | node (k : Nat) (v : α) (l r : T α)
def T.get {α : Type} : T α → Nat → Option α
  | .leaf, _ => none
  | .node k v l r, t => bif Nat.beq t k then some v else bif Nat.blt t k then l.get t else r.get t
def T.all {α : Type} (p : Nat → α → Bool) : T α → Bool
  | .leaf => true
  | .node k v l r => p k v && l.all p && r.all p
theorem T.all_get {α : Type} {p : Nat → α → Bool} : ∀ {x : T α}, x.all p = true → ∀ {t : Nat} {v : α}, x.get t = some v → p t v = true
  | .leaf, _, t, v, h => by cases h
  | .node k u l r, ha, t, v, h => by
    simp only [T.all, Bool.and_eq_true] at ha
    simp only [T.get] at h
    cases hb : Nat.beq t k with
    | true =>
      rw [hb, cond_true] at h
      injection h with h
      subst h
      have := Nat.eq_of_beq_eq_true hb
      subst this
      exact ha.1.1
    | false =>
      rw [hb, cond_false] at h
      cases hc : Nat.blt t k with
      | true => rw [hc, cond_true] at h; exact T.all_get ha.1.2 h
      | false => rw [hc, cond_false] at h; exact T.all_get ha.2 h

def T.toList {α : Type} : T α → List (Nat × α)
  | .leaf => []
  | .node k v l r => (k, v) :: (l.toList ++ r.toList)
theorem T.get_mem {α : Type} : ∀ {x : T α} {t : Nat} {v : α}, x.get t = some v → (t, v) ∈ x.toList
  | .leaf, t, v, h => by cases h
  | .node k u l r, t, v, h => by
    simp only [T.get] at h
    simp only [T.toList, List.mem_cons, List.mem_append]
    cases hb : Nat.beq t k with
    | true =>
      rw [hb, cond_true] at h
      injection h with h
      exact .inl (by rw [Nat.eq_of_beq_eq_true hb, h])
    | false =>
      rw [hb, cond_false] at h
      cases hc : Nat.blt t k with
      | true => rw [hc, cond_true] at h; exact .inr (.inl (T.get_mem h))
      | false => rw [hc, cond_false] at h; exact .inr (.inr (T.get_mem h))

def cellB : C → Value → Bool
  | .int k a, .int k' b => decide (k = k') && a == b
  | .bool a, .bool b => a == b
  | .nsl, .slice none 0 0 => true
  | .und, x => x.oneCell'
  | _, _ => false
theorem cellB_ok {c : C} {x : Value} (h : cellB c x = true) : CR (fun _ => []) 0 c x := by
  unfold cellB at h
  split at h
  · simp only [Bool.and_eq_true, decide_eq_true_eq, beq_iff_eq] at h
    obtain ⟨rfl, rfl⟩ := h
    rfl
  · simp only [beq_iff_eq] at h; subst h; rfl
  · rfl
  · exact h
  · cases h
def cellsB : List C → List Value → Bool
  | [], [] => true
  | c :: cs, x :: xs => cellB c x && cellsB cs xs
  | _, _ => false
theorem cellsB_ok : ∀ {cs : List C} {xs : List Value}, cellsB cs xs = true → All2 (CR (fun _ => []) 0) cs xs
  | [], [], _ => .nil
  | [], _ :: _, h => by cases h
  | _ :: _, [], h => by cases h
  | c :: cs, x :: xs, h => by
    simp only [cellsB, Bool.and_eq_true] at h
    exact .cons (cellB_ok h.1) (cellsB_ok h.2)

def isTup : TD → Bool
  | .tup _ => true
  | _ => false
def isIntT (P : Program) (t : Nat) : Bool := match P.underlying t with | some (.int _) => true | _ => false
def pairsB : List (Nat × Nat) → List Field → Bool
  | [], [] => true
  | (o, t) :: fs, f :: gs => Nat.beq f.offset o && Nat.beq f.type t && pairsB fs gs
  | _, _ => false
theorem pairsB_ok : ∀ {fs : List (Nat × Nat)} {gs : List Field}, pairsB fs gs = true → gs.map (fun f => (f.offset, f.type)) = fs
  | [], [], _ => rfl
  | [], _ :: _, h => by cases h
  | _ :: _, [], h => by cases h
  | (o, t) :: fs, f :: gs, h => by
    simp only [pairsB, Bool.and_eq_true] at h
    simp only [List.map_cons, pairsB_ok h.2, Nat.eq_of_beq_eq_true h.1.1, Nat.eq_of_beq_eq_true h.1.2]
def offsB : Nat → List Field → Bool
  | _, [] => true
  | i, f :: fs => Nat.beq f.offset i && offsB (i + 1) fs
theorem offsB_ok : ∀ {fs : List Field} {i : Nat}, offsB i fs = true → fs.map (·.offset) = List.range' i fs.length
  | [], _, _ => rfl
  | f :: fs, i, h => by
    simp only [offsB, Bool.and_eq_true] at h
    simp only [List.map_cons, List.length_cons, List.range'_succ, Nat.eq_of_beq_eq_true h.1, offsB_ok h.2]

def underB (P : Program) (t : Nat) (ti : TI) : Bool :=
  match ti.d with
  | .int k => (match P.underlying t with | some (.int k') => decide (k = k') | _ => false)
  | .bool => (match P.underlying t with | some .bool => true | _ => false)
  | .ptr => (match P.underlying t with | some (.pointer _) => true | _ => false)
  | .slice e => (match P.underlying t with | some (.slice e') => Nat.beq e e' | _ => false)
  | .struct fs => (match P.underlying t with
    | some (.struct flds) => pairsB fs flds.toList && flds.toList.all (fun f => Nat.blt 0 (P.cellsOf f.type)) &&
        (bif ti.eq then (!P.eqGuardType P.depth t) && (!P.stoodInHeld t) && flds.toList.all (fun f => f.name != "_" && isIntT P f.type) && offsB 0 flds.toList && Nat.beq ti.zero.length flds.size else true)
    | _ => false)
  | .arr n e => (match P.underlying t with | some (.array n' e') => Nat.beq n n' && Nat.beq e e' | _ => false)
  | .fn => (match P.underlying t with | some (.func _ _ _) => true | _ => false)
  | .map k e => (match P.underlying t with | some (.map k' e') => Nat.beq k k' && Nat.beq e e' | _ => false)
  | .tup _ => ti.zero.isEmpty

theorem underB_ok {P : Program} {t : Nat} {ti : TI} (h : underB P t ti = true) : UnderOk P t ti := by
  unfold underB at h
  unfold UnderOk
  cases hd : ti.d with
  | int k =>
    rw [hd] at h
    simp only at h
    split at h
    · rename_i k' hu; simp only [decide_eq_true_eq] at h; subst h; exact hu
    · cases h
  | bool =>
    rw [hd] at h
    simp only at h
    split at h
    · rename_i hu; exact hu
    · cases h
  | ptr =>
    rw [hd] at h
    simp only at h
    split at h
    · rename_i e hu; exact ⟨e, hu⟩
    · cases h
  | slice e =>
    rw [hd] at h
    simp only at h
    split at h
    · rename_i e' hu; have := Nat.eq_of_beq_eq_true h; subst this; exact hu
    · cases h
  | struct fs =>
    rw [hd] at h
    simp only at h
    split at h
    · rename_i flds hu
      simp only [Bool.and_eq_true] at h
      obtain ⟨⟨h1, h2⟩, h3⟩ := h
      refine ⟨flds, hu, pairsB_ok h1, fun f hf => (Nat.blt_eq ▸ List.all_eq_true.1 h2 f hf), fun he => ?_⟩
      rw [he, cond_true] at h3
      simp only [Bool.and_eq_true, Bool.not_eq_true'] at h3
      obtain ⟨⟨⟨⟨q1, q2⟩, q3⟩, q4⟩, q5⟩ := h3
      refine ⟨q1, q2, fun f hf => ?_, ?_, Nat.eq_of_beq_eq_true q5⟩
      · have := List.all_eq_true.1 q3 f hf
        simp only [Bool.and_eq_true, bne_iff_ne] at this
        refine ⟨this.1, ?_⟩
        have h9 := this.2
        unfold isIntT at h9
        split at h9
        · rename_i k hk; exact ⟨k, hk⟩
        · cases h9
      · rw [offsB_ok q4, List.range_eq_range']; simp
    · cases h
  | arr n e =>
    rw [hd] at h
    simp only at h
    split at h
    · rename_i n' e' hu
      simp only [Bool.and_eq_true] at h
      rw [Nat.eq_of_beq_eq_true h.1, Nat.eq_of_beq_eq_true h.2]
      exact hu
    · cases h
  | fn =>
    rw [hd] at h
    simp only at h
    split at h
    · rename_i a b c hu; exact ⟨a, b, c, hu⟩
    · cases h
  | map k e =>
    rw [hd] at h
    simp only at h
    split at h
    · rename_i n' e' hu
      simp only [Bool.and_eq_true] at h
      rw [Nat.eq_of_beq_eq_true h.1, Nat.eq_of_beq_eq_true h.2]
      exact hu
    · cases h
  | tup ts =>
    rw [hd] at h
    simpa using h

def tyB (P : Program) (t : Nat) (ti : TI) : Bool :=
  underB P t ti && (bif isTup ti.d then true else match P.info? t with
    | some i => Nat.beq i.size ti.zero.length && Nat.beq i.bytes ti.bytes && (match i.zero with | some z => cellsB ti.zero z.cells.toList && (ti.d.agg || z.oneCell') | none => false)
    | none => false) && (bif ti.eq then (match ti.d with | .struct _ => true | _ => false) else true)

theorem tyB_ok {P : Program} {t : Nat} {ti : TI} (h : tyB P t ti = true) : TyOk P t ti := by
  unfold tyB at h
  simp only [Bool.and_eq_true] at h
  obtain ⟨⟨h1, h2⟩, h3⟩ := h
  have key : (∀ ts, ti.d ≠ .tup ts) → ∃ i z, P.info? t = some i ∧ i.size = ti.zero.length ∧ i.bytes = ti.bytes ∧ i.zero = some z ∧ cellsB ti.zero z.cells.toList = true ∧ (ti.d.agg = false → z.oneCell' = true) := by
    intro hd
    have : isTup ti.d = false := by
      unfold isTup
      split
      · rename_i ts e; exact absurd e (hd ts)
      · rfl
    rw [this, cond_false] at h2
    split at h2
    · rename_i i hi
      simp only [Bool.and_eq_true] at h2
      obtain ⟨⟨q1, q2⟩, q3⟩ := h2
      split at q3
      · rename_i z hz
        simp only [Bool.and_eq_true, Bool.or_eq_true] at q3
        exact ⟨i, z, hi, Nat.eq_of_beq_eq_true q1, Nat.eq_of_beq_eq_true q2, hz, q3.1, fun ha => q3.2.resolve_left (by rw [ha]; simp)⟩
      · cases q3
    · cases h2
  refine ⟨fun hd => ?_, underB_ok h1, fun he => ?_, fun ha hd i z hi hz => ?_⟩
  · obtain ⟨i, z, q1, q2, q3, q4, q5, q6⟩ := key hd
    exact ⟨i, z, z.cells.toList, q1, q2, q3, q4, by simp, cellsB_ok q5⟩
  · rw [he, cond_true] at h3
    split at h3
    · rename_i fs hfs; exact ⟨fs, hfs⟩
    · cases h3
  · obtain ⟨i', z', q1, q2, q3, q4, q5, q6⟩ := key hd
    rw [hi] at q1
    injection q1 with q1
    subst q1
    rw [hz] at q4
    injection q4 with q4
    subst q4
    exact q6 ha

theorem tab_ok {P : Program} {x : T TI} (h : x.all (tyB P) = true) : TabOk P x.get := fun _ _ ht => tyB_ok (T.all_get h ht)
/-! Tables of cuts. -/
def pathB : List Nat → List Nat → Bool
  | [], [] => true
  | x :: xs, y :: ys => Nat.beq x y && pathB xs ys
  | _, _ => false
theorem pathB_ok : ∀ {xs ys : List Nat}, pathB xs ys = true → xs = ys
  | [], [], _ => rfl
  | [], _ :: _, h => by cases h
  | _ :: _, [], h => by cases h
  | x :: xs, y :: ys, h => by
    simp only [pathB, Bool.and_eq_true] at h
    rw [Nat.eq_of_beq_eq_true h.1, pathB_ok h.2]
def cutL : List (List Nat × Cut) → List Nat → Option Cut
  | [], _ => none
  | (q, k) :: l, p => bif pathB p q then some k else cutL l p
section
variable {tab : Nat → Option TI} {gd : Nat → List C} {call : Nat → List V → List Box → Heap → Option Res} {scr : Nat → Option (List Nat × List Nat)} {N : Nat} {root : Code}
theorem cutL_nil : CutsOK tab gd call scr N (cutL []) root := fun p k h => by cases h
theorem cutL_cons {q : List Nat} {k : Cut} {l : List (List Nat × Cut)} (h : CutOK tab gd call scr N k (codeAt root q)) (hl : CutsOK tab gd call scr N (cutL l) root) : CutsOK tab gd call scr N (cutL ((q, k) :: l)) root := by
  intro p k' hp
  simp only [cutL] at hp
  cases hb : pathB p q with
  | true =>
    rw [hb, cond_true] at hp
    injection hp with hp
    subst hp
    rw [pathB_ok hb]
    exact h
  | false => rw [hb, cond_false] at hp; exact hl p k' hp
end
end Go.Ev
end

section
set_option linter.all false
/- A law's call, out of the evaluator's answer. -/
namespace Go.Ev
open Go.RowKit
variable {P : Program} {w : World}

/-- A slice of whole numbers that comes in. -/
structure Sl where
  k : IntKind
  a : Option Addr
  len : Nat
  cap : Nat
  zs : List Int
inductive Arg where
  | int (k : IntKind) (n : Int)
  | bool (b : Bool)
  | sl (s : Sl)
def Sl.val (s : Sl) : Value := .slice s.a s.len s.cap
def Arg.val : Arg → Value
  | .int k n => .int k n
  | .bool b => .bool b
  | .sl s => s.val
def Sl.cell (s : Sl) (id : Nat) : C := match s.a with | none => .nsl | some _ => .sl id 0 s.len 1
def Sl.blk (s : Sl) : Blk := .mem 0 ((s.zs.take s.len).map (C.int s.k))
def Sl.cps (s : Sl) : List Cp := match s.a with | none => [] | some x => [⟨x.block, if s.cap = 0 then 0 else x.off, s.len, s.cap⟩]
/-- What the row says of a slice. -/
def Sl.ok (w : World) (s : Sl) : Prop :=
  (s.a = none ∧ s.len = 0 ∧ s.cap = 0 ∧ s.zs = []) ∨
  ∃ x, s.a = some x ∧ x.spot = none ∧ s.len ≤ s.cap ∧ s.zs.length = s.cap ∧ (∀ i, i < s.zs.length → w.cell? (x.add i) = some (.int s.k (s.zs.getD i 0))) ∧ ∃ xs t fz, w.heap[x.block]? = some (.cells xs t fz)

def slsOf : List Arg → List Sl
  | [] => []
  | .sl s :: as => s :: slsOf as
  | _ :: as => slsOf as
def vsOf : List Arg → Nat → List V
  | [], _ => []
  | .int k n :: as, i => .one (.int k n) :: vsOf as i
  | .bool b :: as, i => .one (.bool b) :: vsOf as i
  | .sl s :: as, i => .one (s.cell i) :: vsOf as (i + 1)
def hOf (as : List Arg) : Heap := (slsOf as).map Sl.blk
def nmOf (ss : List Sl) : Nm := { lb := fun _ => 0, rf := fun _ => 0, hp := fun id => match ss[id]? with | some s => s.cps | none => [], own := fun _ => .none }

theorem Sl.cp {s : Sl} (h : s.ok w) {c : Cp} (hc : c ∈ s.cps) (hp : Nat → List Cp) (n : Nat) : CpAt hp n w c 0 ((s.zs.take s.len).map (C.int s.k)) := by
  rcases h with ⟨ha, _⟩ | ⟨x, ha, hs, hl, hz, hcell, xs, t, fz, hx⟩
  · simp [Sl.cps, ha] at hc
  · simp only [Sl.cps, ha, List.mem_singleton] at hc
    subst hc
    have hcl : ∀ i, i < s.cap → xs[x.off + i]? = some (.int s.k (s.zs.getD i 0)) := fun i hi => by
      have h1 := hcell i (by omega)
      have : x.add i = ⟨x.block, x.off + i, none⟩ := by
        unfold Addr.add
        split
        · rename_i e; subst e; cases x; simp only at hs; subst hs; rfl
        · rfl
      rw [this] at h1
      unfold World.cell? at h1
      simp only [hx] at h1
      simpa using h1
    refine ⟨by simp; omega, hl, xs, t, fz, hx, ?_, fun j b hj hb => ?_, fun e => absurd rfl e⟩
    · show (if s.cap = 0 then 0 else x.off) + s.cap ≤ xs.size
      by_cases e : s.cap = 0
      · rw [if_pos e]; omega
      · rw [if_neg e]
        have := hcl (s.cap - 1) (by omega)
        have := (Array.getElem?_eq_some_iff.1 this).1
        omega
    · have hj' : j < s.len := hj
      refine ⟨.int s.k (s.zs.getD j 0), ?_, ?_⟩
      · show xs[(if s.cap = 0 then 0 else x.off) + j]? = _
        rw [if_neg (by omega)]
        exact hcl j (by omega)
      · simp only [List.getElem?_map, List.getElem?_take, hj', if_true] at hb
        cases hg : s.zs[j]? with
        | none => rw [hg] at hb; cases hb
        | some z =>
          rw [hg] at hb
          simp only [Option.map_some, Option.some.injEq] at hb
          subst hb
          show Value.int s.k (s.zs.getD j 0) = .int s.k z
          rw [List.getD_eq_getElem?_getD, hg]
          rfl

theorem args_in {ss : List Sl} (hok : ∀ s ∈ ss, Sl.ok w s) : ∀ (as : List Arg) (i : Nat), (∀ j, (slsOf as)[j]? = ss[i + j]?) → All2 (VR (nmOf ss) ss.length) (vsOf as i) (as.map Arg.val)
  | [], _, _ => .nil
  | .int k n :: as, i, h => .cons rfl (args_in hok as i h)
  | .bool b :: as, i, h => .cons rfl (args_in hok as i h)
  | .sl s :: as, i, h => by
    have h0 := h 0
    simp only [slsOf, List.getElem?_cons_zero, Nat.add_zero] at h0
    refine .cons ?_ (args_in hok as (i + 1) fun j => ?_)
    · have hlt := (List.getElem?_eq_some_iff.1 h0.symm).1
      have hs := hok s (List.mem_of_getElem? h0.symm)
      show CR (nmOf ss).hp ss.length (s.cell i) s.val
      rcases hs with ⟨ha, h1, h2, _⟩ | ⟨x, ha, hsp, hl, hz, _⟩
      · simp only [Sl.cell, ha, Sl.val, h1, h2]; rfl
      · simp only [Sl.cell, ha, Sl.val]
        refine ⟨hlt, by omega, ⟨x.block, if s.cap = 0 then 0 else x.off, s.len, s.cap⟩, ?_, s.cap, x.off, ?_, ?_, ?_, ?_, hl⟩
        · simp only [nmOf, ← h0, Sl.cps, ha, List.mem_singleton]
        · cases x; simp only at hsp; subst hsp; rfl
        · by_cases e : s.cap = 0
          · exact .inr e
          · left; rw [if_neg e]; rfl
        · show 0 + s.len * 1 ≤ s.len; omega
        · show 0 + s.cap * 1 ≤ s.cap; omega
    · have := h (j + 1)
      simp only [slsOf, List.getElem?_cons_succ] at this
      rw [this]
      congr 1
      omega

theorem law_walk {E : Env} (hE : EnvOK E) (hgd : ∀ g, E.gd g = []) {f d : Nat} {fn : Func} (hf : E.P.funcs[f]? = some fn) (hb : fn.body.isSome = true) {ars : List Arg} (hok : ∀ s ∈ slsOf ars, Sl.ok w s) {R' : List Box} {H' : Heap}
    (hev : ev E d f (vsOf ars 0) [] (hOf ars) = some (.one (.bool true), R', H')) {xs : Array Value} (hxs : xs = (ars.map Arg.val).toArray) :
    Calls E.P f xs w fun e w' => e = .returned (.bool true) ∧ Below w.heap.size w w' := by
  subst hxs
  have hlen : (hOf ars).length = (slsOf ars).length := by simp [hOf]
  have hget : ∀ (id : Nat) (b : Blk), (hOf ars)[id]? = some b → ∃ s, (slsOf ars)[id]? = some s ∧ b = s.blk := by
    intro id b h
    simp only [hOf, List.getElem?_map] at h
    cases hg : (slsOf ars)[id]? with
    | none => rw [hg] at h; cases h
    | some s => rw [hg] at h; simp only [Option.map_some, Option.some.injEq] at h; exact ⟨s, rfl, h.symm⟩
  have hEn : Entry E.gd (fun _ => 0) (nmOf (slsOf ars)) [] (hOf ars) w := {
    ref := fun j t cs h => by simp at h
    heap := {
      cells := fun id kd cs h c hc => by
        obtain ⟨s, h1, h2⟩ := hget id _ h
        simp only [Sl.blk, Blk.mem.injEq] at h2
        obtain ⟨rfl, rfl⟩ := h2
        simp only [nmOf, h1] at hc
        exact Sl.cp (hok s (List.mem_of_getElem? h1)) hc _ _
      one := fun id cs h => by obtain ⟨s, h1, h2⟩ := hget id _ h; simp [Sl.blk] at h2
      own := fun id kd cs h hk => by
        obtain ⟨s, h1, h2⟩ := hget id _ h
        simp only [Sl.blk, Blk.mem.injEq] at h2
        exact absurd h2.1 hk
      ro := fun _ _ _ _ _ => rfl
      map := fun id es h => by obtain ⟨s, h1, h2⟩ := hget id _ h; simp [Sl.blk] at h2
      mone := fun id es h => by obtain ⟨s, h1, h2⟩ := hget id _ h; simp [Sl.blk] at h2 }
    B := fun _ _ => Nat.zero_le _
    lt := fun g h => absurd rfl h
    glob := fun g h => absurd (hgd g) h
    nobox := fun g b h => by cases h }
  have hargs := args_in hok ars 0 (fun j => by simp)
  rw [← hlen] at hargs
  rcases ev_ok E hE d f _ [] _ _ hev (fun _ => 0) (nmOf (slsOf ars)) w (ars.map Arg.val).toArray hEn (by simpa using hargs) with ⟨_, h⟩ | ⟨x, m', h, _⟩
  · refine h.mono fun e w' he => ?_
    obtain ⟨x, m', rfl, hL⟩ := he
    refine ⟨?_, hL.kept.os, hL.kept.tape, hL.kept.output, hL.kept.size, fun k hk => hL.kept.same k hk rfl⟩
    have hv : x = .bool true := hL.val
    rw [hv]
  · obtain ⟨c, hc⟩ := Option.isSome_iff_exists.1 hb
    rw [enter_run hf hc (hE.names f fn hf)] at h
    injection h with h
    cases h

/-! The functions of math/bits that stand as contracts. -/
theorem ext_add {f : Nat} {fn : Func} (hf : P.funcs[f]? = some fn) (hrun : ∀ args w, (callFunc f args).run P w = ((add64Entry args).run P w).andThen fun v w' => .ok (.value v) w') : ExtOK P f 0 := by
  intro args r xs w m n h ha
  unfold extV at h
  split at h
  · rename_i x y c he0
    cases hb : (decide (0 ≤ x) && decide (0 ≤ y) && decide (0 ≤ c) && decide (c ≤ 1)) with
    | false => rw [hb] at h; cases h
    | true =>
      rw [hb, cond_true] at h
      injection h with h
      subst h
      simp only [Bool.and_eq_true, decide_eq_true_eq] at hb
      have e : xs = #[.int .u64 x, .int .u64 y, .int .u64 c] := by
        apply Array.toList_inj.1
        generalize xs.toList = l at ha ⊢
        cases ha with | cons h1 ha => cases ha with | cons h2 ha => cases ha with | cons h3 ha =>
          cases ha
          rw [show _ = Value.int .u64 x from h1, show _ = Value.int .u64 y from h2, show _ = Value.int .u64 c from h3]
      right
      rw [e]
      refine ⟨_, by rw [hrun, run_add64 x y c hb.1.1.1 hb.1.1.2 hb.1.2 hb.2]; rfl, fun m n => ⟨[_, _], rfl, .cons rfl (.cons rfl .nil)⟩⟩
  · rename_i he0; cases he0
  · rename_i he0; cases he0
  · cases h

def sub64E : Array Value → Sem Value := fun args => do
  let (x, y, b) ← Extern.MathBitsCarry.three "Sub64" args
  pure (Extern.MathBitsCarry.pair ((x + Extern.MathBitsCarry.m64 - y - b) % Extern.MathBitsCarry.m64) (if x < y + b then 1 else 0))
theorem run_sub (x y c : Int) (hx : 0 ≤ x) (hy : 0 ≤ y) (hy2 : y < two64) (hc0 : 0 ≤ c) (hc : c ≤ 1) (w : World) :
    (sub64E #[.int .u64 x, .int .u64 y, .int .u64 c]).run P w = .ok (.tuple #[.int .u64 ((x - y - c) % two64), .int .u64 (bif decide (x < y + c) then 1 else 0)]) w := by
  have key : ∀ k : Nat, k ≤ 1 → (sub64E #[.int .u64 x, .int .u64 y, .int .u64 (k : Int)]).run P w =
      .ok (Extern.MathBitsCarry.pair ((x.toNat + Extern.MathBitsCarry.m64 - y.toNat - k) % Extern.MathBitsCarry.m64) (if x.toNat < y.toNat + k then 1 else 0)) w := by
    intro k hk
    have : k = 0 ∨ k = 1 := by omega
    rcases this with rfl | rfl <;> rfl
  obtain ⟨k, rfl⟩ := Int.eq_ofNat_of_zero_le hc0
  rw [key k (by omega)]
  obtain ⟨X, rfl⟩ := Int.eq_ofNat_of_zero_le hx
  obtain ⟨Y, rfl⟩ := Int.eq_ofNat_of_zero_le hy
  unfold two64 at *
  simp only [Extern.MathBitsCarry.pair, Extern.MathBitsCarry.m64, Int.toNat_natCast]
  have e1 : (((X + 2 ^ 64 - Y - k) % 2 ^ 64 : Nat) : Int) = ((X : Int) - Y - k) % 18446744073709551616 := by omega
  have e2 : ((if X < Y + k then 1 else 0 : Nat) : Int) = (bif decide ((X : Int) < Y + k) then 1 else 0) := by
    by_cases h : X < Y + k
    · rw [if_pos h, decide_eq_true (by omega)]; rfl
    · rw [if_neg h, decide_eq_false (by omega)]; rfl
  simp only [Int.ofNat_eq_natCast, e1, e2]
theorem ext_sub {f : Nat} {fn : Func} (hf : P.funcs[f]? = some fn) (hrun : ∀ args w, (callFunc f args).run P w = ((sub64E args).run P w).andThen fun v w' => .ok (.value v) w') : ExtOK P f 1 := by
  intro args r xs w m n h ha
  unfold extV at h
  split at h
  · rename_i he0; cases he0
  · rename_i x y c he0
    cases hb : (decide (0 ≤ x) && decide (0 ≤ y) && decide (y < two64) && decide (0 ≤ c) && decide (c ≤ 1)) with
    | false => rw [hb] at h; cases h
    | true =>
      rw [hb, cond_true] at h
      injection h with h
      subst h
      simp only [Bool.and_eq_true, decide_eq_true_eq] at hb
      have e : xs = #[.int .u64 x, .int .u64 y, .int .u64 c] := by
        apply Array.toList_inj.1
        generalize xs.toList = l at ha ⊢
        cases ha with | cons h1 ha => cases ha with | cons h2 ha => cases ha with | cons h3 ha =>
          cases ha
          rw [show _ = Value.int .u64 x from h1, show _ = Value.int .u64 y from h2, show _ = Value.int .u64 c from h3]
      right
      rw [e]
      refine ⟨_, by rw [hrun, run_sub x y c hb.1.1.1.1 hb.1.1.1.2 hb.1.1.2 hb.1.2 hb.2]; rfl, fun m n => ⟨[_, _], rfl, .cons rfl (.cons rfl .nil)⟩⟩
  · rename_i he0; cases he0
  · cases h

theorem bitLen_log : ∀ (f x : Nat), x < 2 ^ f → Lib.bitLenAux f x = if x = 0 then 0 else x.log2 + 1
  | 0, x, h => by simp at h; subst h; rfl
  | f + 1, x, h => by
    simp only [Lib.bitLenAux]
    by_cases e : x = 0
    · rw [if_pos e, if_pos e]
    · rw [if_neg e, if_neg e, bitLen_log f (x / 2) (by rw [Nat.pow_succ] at h; omega), Nat.log2_def x]
      by_cases e2 : 2 ≤ x
      · rw [if_neg (by omega), if_pos e2]; omega
      · rw [if_pos (by omega), if_neg e2]
theorem ext_len {f : Nat} (hen : ∀ xs w, (callFunc f xs).run P w = .ok (.enter f xs) w)
    (hc : ∀ (x : Int) (w : World), 0 ≤ x → x ≤ 18446744073709551615 → Calls P f #[.int .u64 x] w fun e w' => e = .returned (.int .i64 (Lib.bitLen x.toNat)) ∧ w' = w) : ExtOK P f 3 := by
  intro args r xs w m n h ha
  unfold extV at h
  split at h
  · rename_i he0; cases he0
  · rename_i he0; cases he0
  · rename_i x he0
    cases hb : (decide (0 ≤ x) && decide (x < two64)) with
    | false => rw [hb] at h; cases h
    | true =>
      rw [hb, cond_true] at h
      injection h with h
      subst h
      simp only [Bool.and_eq_true, decide_eq_true_eq] at hb
      have hlt : x < 18446744073709551616 := hb.2
      have e : xs = #[.int .u64 x] := by
        apply Array.toList_inj.1
        generalize xs.toList = l at ha ⊢
        cases ha with | cons h1 ha =>
          cases ha
          rw [show _ = Value.int .u64 x from h1]
      left
      refine ⟨hen xs w, ?_⟩
      rw [e]
      refine (hc x w hb.1 (by omega)).mono fun en w' he => ?_
      refine ⟨_, he.1, he.2, fun m n => ?_⟩
      show Value.int .i64 _ = Value.int .i64 _
      congr 1
      unfold Lib.bitLen
      rw [bitLen_log 64 _ (by omega)]
      by_cases h0 : x = 0
      · subst h0; rfl
      · rw [if_neg (by omega), show (x == 0) = false from by simpa using h0]; rfl
  · cases h
end Go.Ev
end

section
set_option linter.all false
/- What a row says of slices that come in. -/
namespace Go.Ev
open Go
theorem okWide_spot {P : Program} {w : World} {r : Reach} {base : Nat} {t e : TypeId} {a : Addr} {len cap : Nat} (ht : P.underlying t = some (.slice e)) (h : Value.okWide P w r base t (.slice (some a) len cap)) :
    a.spot = none ∧ ∃ xs ty fz, w.heap[a.block]? = some (.cells xs ty fz) := by
  simp only [Value.okWide, ht, Cell.okWide, Cell.ok] at h
  obtain ⟨_, _, _, hs, row, cells, hsh, _⟩ := h
  refine ⟨hs, ?_⟩
  unfold World.shape? at hsh
  split at hsh
  · rename_i xs ty fz hx; exact ⟨xs, ty, fz, hx⟩
  · cases hsh

/-- What the row's reading of a slice of whole numbers comes to. -/
theorem Sl.read {P : Program} {W : World} {r : Reach} {base : Nat} {t e : TypeId} {k : IntKind} {a : Option Addr} {len cap : Nat} {zs : List Int} (ht : P.underlying t = some (.slice e)) (h : Value.okWide P W r base t (.slice a len cap))
    (hr : (a = none ∧ len = 0 ∧ cap = 0 ∧ zs = []) ∨ ∃ x, a = some x ∧ len ≤ cap ∧ cap ≤ maxLen ∧ zs.length = cap ∧ (∀ i, i < zs.length → W.cell? (x.add i) = some (.int k (zs.getD i 0))) ∧ ∀ n ∈ zs, (Lit.int k n).wf = true) :
    Sl.ok W ⟨k, a, len, cap, zs⟩ := by
  rcases hr with hr | ⟨x, rfl, h1, h2, h3, h4, _⟩
  · exact .inl hr
  · obtain ⟨q1, q2⟩ := okWide_spot ht h
    exact .inr ⟨x, rfl, q1, h1, h3, h4, q2⟩
theorem Sl.wf {k : IntKind} {a : Option Addr} {len cap : Nat} {zs : List Int} {W : World}
    (hr : (a = none ∧ len = 0 ∧ cap = 0 ∧ zs = []) ∨ ∃ x, a = some x ∧ len ≤ cap ∧ cap ≤ maxLen ∧ zs.length = cap ∧ (∀ i, i < zs.length → W.cell? (x.add i) = some (.int k (zs.getD i 0))) ∧ ∀ n ∈ zs, (Lit.int k n).wf = true) :
    (∀ n ∈ zs.take len, (Lit.int k n).wf = true) ∧ (zs.take len).length = len := by
  rcases hr with ⟨_, rfl, _, rfl⟩ | ⟨x, _, h1, _, h3, _, h5⟩
  · simp
  · exact ⟨fun n hn => h5 n (List.mem_of_mem_take hn), by simp; omega⟩
/-- A slice's cell over the block of its list. -/
def IsCell (_ : IntKind) (c : C) (id : Nat) (l : List Int) : Prop := (c = .nsl ∧ l = []) ∨ c = .sl id 0 l.length 1
theorem Sl.isCell {W : World} {s : Sl} {id : Nat} (h : s.ok W) (hl : (s.zs.take s.len).length = s.len) : IsCell s.k (s.cell id) id (s.zs.take s.len) := by
  rcases h with ⟨ha, _, _, hz⟩ | ⟨x, ha, _⟩
  · left; simp [Sl.cell, ha, hz]
  · right; simp only [Sl.cell, ha, hl]
end Go.Ev
end

section
set_option linter.all false
/- Bits of whole numbers, as the evaluator has them and as natural numbers. -/
namespace Go.Ev

theorem wrap_u64 (x : Int) : IntKind.wrap .u64 x = x % 18446744073709551616 := by
  unfold IntKind.wrap
  simp [IntKind.bits, IntKind.signed]
theorem wrap_i64 (x : Int) (h0 : -9223372036854775808 ≤ x) (h1 : x < 9223372036854775808) : IntKind.wrap .i64 x = x := by
  unfold IntKind.wrap
  simp [IntKind.bits, IntKind.signed]
  omega
theorem wrap_u64_id (x : Int) (h0 : 0 ≤ x) (h1 : x < 18446744073709551616) : IntKind.wrap .u64 x = x := by rw [wrap_u64]; omega
theorem wrap_u8 (x : Int) (h0 : 0 ≤ x) (h1 : x < 256) : IntKind.wrap .u8 x = x := by
  unfold IntKind.wrap
  simp [IntKind.bits, IntKind.signed]
  omega
theorem wrap_u32 (x : Int) : IntKind.wrap .u32 x = x % 4294967296 := by
  unfold IntKind.wrap
  simp [IntKind.bits, IntKind.signed]

theorem ofInt_nat (n a : Nat) : BitVec.ofInt n (a : Int) = BitVec.ofNat n a := by
  apply BitVec.eq_of_toNat_eq
  simp

theorem and_u64 (a b : Nat) (ha : a < 2 ^ 64) (hb : b < 2 ^ 64) : bitI .and .u64 (a : Int) (b : Int) = ((a &&& b : Nat) : Int) := by
  have hlt : a &&& b < 2 ^ 64 := Nat.and_lt_two_pow a hb
  show IntKind.wrap .u64 (((BitVec.ofInt 64 (a : Int) &&& BitVec.ofInt 64 (b : Int)).toNat : Nat) : Int) = _
  rw [ofInt_nat, ofInt_nat, BitVec.toNat_and, BitVec.toNat_ofNat, BitVec.toNat_ofNat, Nat.mod_eq_of_lt ha, Nat.mod_eq_of_lt hb]
  exact wrap_u64_id _ (by omega) (by omega)
theorem or_u64 (a b : Nat) (ha : a < 2 ^ 64) (hb : b < 2 ^ 64) : bitI .or .u64 (a : Int) (b : Int) = ((a ||| b : Nat) : Int) := by
  have hlt : a ||| b < 2 ^ 64 := Nat.or_lt_two_pow ha hb
  show IntKind.wrap .u64 (((BitVec.ofInt 64 (a : Int) ||| BitVec.ofInt 64 (b : Int)).toNat : Nat) : Int) = _
  rw [ofInt_nat, ofInt_nat, BitVec.toNat_or, BitVec.toNat_ofNat, BitVec.toNat_ofNat, Nat.mod_eq_of_lt ha, Nat.mod_eq_of_lt hb]
  exact wrap_u64_id _ (by omega) (by omega)
theorem xor_u64 (a b : Nat) (ha : a < 2 ^ 64) (hb : b < 2 ^ 64) : bitI .xor .u64 (a : Int) (b : Int) = ((a ^^^ b : Nat) : Int) := by
  have hlt : a ^^^ b < 2 ^ 64 := Nat.xor_lt_two_pow ha hb
  show IntKind.wrap .u64 (((BitVec.ofInt 64 (a : Int) ^^^ BitVec.ofInt 64 (b : Int)).toNat : Nat) : Int) = _
  rw [ofInt_nat, ofInt_nat, BitVec.toNat_xor, BitVec.toNat_ofNat, BitVec.toNat_ofNat, Nat.mod_eq_of_lt ha, Nat.mod_eq_of_lt hb]
  exact wrap_u64_id _ (by omega) (by omega)
theorem or_u8 (a b : Nat) (ha : a < 2 ^ 8) (hb : b < 2 ^ 8) : bitI .or .u8 (a : Int) (b : Int) = ((a ||| b : Nat) : Int) := by
  have hlt : a ||| b < 2 ^ 8 := Nat.or_lt_two_pow ha hb
  show IntKind.wrap .u8 (((BitVec.ofInt 8 (a : Int) ||| BitVec.ofInt 8 (b : Int)).toNat : Nat) : Int) = _
  rw [ofInt_nat, ofInt_nat, BitVec.toNat_or, BitVec.toNat_ofNat, BitVec.toNat_ofNat, Nat.mod_eq_of_lt ha, Nat.mod_eq_of_lt hb]
  exact wrap_u8 _ (by omega) (by omega)
theorem and_u8 (a b : Nat) (ha : a < 2 ^ 8) (hb : b < 2 ^ 8) : bitI .and .u8 (a : Int) (b : Int) = ((a &&& b : Nat) : Int) := by
  have hlt : a &&& b < 2 ^ 8 := Nat.and_lt_two_pow a hb
  show IntKind.wrap .u8 (((BitVec.ofInt 8 (a : Int) &&& BitVec.ofInt 8 (b : Int)).toNat : Nat) : Int) = _
  rw [ofInt_nat, ofInt_nat, BitVec.toNat_and, BitVec.toNat_ofNat, BitVec.toNat_ofNat, Nat.mod_eq_of_lt ha, Nat.mod_eq_of_lt hb]
  exact wrap_u8 _ (by omega) (by omega)

theorem shr_nat (k : IntKind) (a n : Nat) (h : n ≤ k.bits) : shrI k (a : Int) (n : Int) = ((a / 2 ^ n : Nat) : Int) := by
  unfold shrI
  rw [Int.toNat_natCast, Nat.min_eq_left h, Int.fdiv_eq_ediv_of_nonneg _ (by exact Int.le_of_lt (Int.pow_pos (by decide)))]
  simp
theorem shl_u64 (a n : Nat) (h : n ≤ 64) : shlI .u64 (a : Int) (n : Int) = ((a * 2 ^ n % 18446744073709551616 : Nat) : Int) := by
  unfold shlI
  rw [Int.toNat_natCast, show min n IntKind.u64.bits = n from Nat.min_eq_left h, wrap_u64]
  simp

/-! The words of printed functions, at what they are made for. -/
section
variable {α : Type}
theorem rI_int (k : IntKind) (n : Int) (F : Int → Option α) : rI k (.one (.int k n)) F = F n := by simp [rI, asI]
theorem rB_bool (b : Bool) (F : Bool → Option α) : rB (.one (.bool b)) F = F b := id rfl
theorem rC_one (c : C) (F : C → Option α) : rC (.one c) F = F c := id rfl
theorem rA_agg (cs : List C) (F : List C → Option α) : rA (.agg cs) F = F cs := id rfl
theorem rT_tup (vs : List V) (F : List V → Option α) : rT (.tup vs) F = F vs := id rfl
theorem tL_cons (v : V) (vs : List V) (F : V → List V → Option α) : tL (v :: vs) F = F v vs := id rfl
theorem tN_nil (x : Option α) : tN [] x = x := id rfl
theorem cI_cons (k : IntKind) (n : Int) (cs : List C) (F : Int → List C → Option α) : cI k (.int k n :: cs) F = F n cs := by simp [cI, asI]
theorem cB_cons (b : Bool) (cs : List C) (F : Bool → List C → Option α) : cB (.bool b :: cs) F = F b cs := id rfl
theorem cO_cons (c : C) (cs : List C) (F : C → List C → Option α) : cO (c :: cs) F = F c cs := id rfl
theorem cN_nil (x : Option α) : cN [] x = x := id rfl
theorem bL_cons (t : Nat) (cs : List C) (bs : List Box) (F : List C → List Box → Option α) : bL ((t, cs) :: bs) F = F cs bs := id rfl
theorem bN_nil (x : Option α) : bN [] x = x := id rfl
theorem optK_some {β : Type} (b : β) (F : β → Option α) : optK (some b) F = F b := id rfl
theorem lenK_sl (id off len sz : Nat) (F : Int → Option α) : lenK (.sl id off len sz) F = F len := _root_.id rfl
theorem lenK_nsl (F : Int → Option α) : lenK .nsl F = F 0 := id rfl
theorem eltK_sl (id off len sz : Nat) (i : Nat) (h : i < len) (F : Nat → Nat → Option α) : eltK (.sl id off len sz) sz (i : Int) F = F id (off + i * sz) := by
  have h1 : (decide (0 ≤ (i : Int)) && decide ((i : Int) < len)) = true := by simp; omega
  simp only [eltK, if_true, h1, cond_true, Int.toNat_natCast]
theorem ob_some {β : Type} (x : β) (F : β → Option α) : Option.bind (some x) F = F x := id rfl
theorem c_t (x y : α) : (bif true then x else y) = x := id rfl
theorem c_f (x y : α) : (bif false then x else y) = y := id rfl
theorem b_nt : (!true) = false := id rfl
theorem b_nf : (!false) = true := id rfl
theorem b_fo (b : Bool) : (false || b) = b := id rfl
theorem b_to (b : Bool) : (true || b) = true := id rfl
theorem b_fa (b : Bool) : (false && b) = false := id rfl
theorem b_ta (b : Bool) : (true && b) = b := id rfl
theorem cond_dec (p : Prop) [Decidable p] (x y : α) : (bif decide p then x else y) = if p then x else y := by by_cases h : p <;> simp [h]
end

/-! Patterns. -/
def bNeg (b : Nat) : Bool := decide (9223372036854775808 ≤ b)
def bExp (b : Nat) : Nat := b / 4503599627370496 % 2048
def bFrac (b : Nat) : Nat := b % 4503599627370496
def bKind (b : Nat) : Nat := if bExp b = 0 then (if bFrac b = 0 then 1 else 2) else if bExp b < 2047 then 3 else if bFrac b = 0 then 4 else 5
def bAbs (b : Nat) : Nat := b % 9223372036854775808
def bFlip (b : Nat) : Nat := if 9223372036854775808 ≤ b then b - 9223372036854775808 else b + 9223372036854775808
def bMake (neg : Bool) (e f : Nat) : Nat := e * 4503599627370496 + f + if neg then 9223372036854775808 else 0
/-- A number as a whole number times a power of two. -/
def bMan (b : Nat) : Nat := if bKind b = 2 then bFrac b else if bKind b = 3 then bFrac b + 4503599627370496 else 0
def bPow (b : Nat) : Int := if bKind b = 2 then -1074 else if bKind b = 3 then (bExp b : Int) - 1075 else 0

theorem and_exp (b : Nat) (hb : b < 18446744073709551616) : bitI .and .u64 (shrI .u64 (b : Int) 52) 2047 = (bExp b : Int) := by
  have h1 := shr_nat .u64 b 52 (by decide)
  have h2 := and_u64 (b / 2 ^ 52) 2047 (by omega) (by omega)
  have h3 : (b / 2 ^ 52) &&& 2047 = b / 2 ^ 52 % 2048 := Nat.and_two_pow_sub_one_eq_mod _ 11
  rw [show ((52 : Nat) : Int) = 52 from rfl] at h1
  rw [h1]
  rw [show ((2047 : Nat) : Int) = 2047 from rfl] at h2
  rw [h2, h3]
  rfl
theorem and_frac (b : Nat) (hb : b < 18446744073709551616) : bitI .and .u64 (b : Int) 4503599627370495 = (bFrac b : Int) := by
  have h2 := and_u64 b 4503599627370495 (by omega) (by omega)
  have h3 : b &&& 4503599627370495 = b % 4503599627370496 := Nat.and_two_pow_sub_one_eq_mod _ 52
  rw [show ((4503599627370495 : Nat) : Int) = 4503599627370495 from rfl] at h2
  rw [h2, h3]
  rfl
theorem shr_neg (b : Nat) (hb : b < 18446744073709551616) : ((shrI .u64 (b : Int) 63) == 1) = bNeg b := by
  have h1 := shr_nat .u64 b 63 (by decide)
  rw [show ((63 : Nat) : Int) = 63 from rfl] at h1
  rw [h1]
  unfold bNeg
  by_cases h : 9223372036854775808 ≤ b
  · rw [decide_eq_true h, show b / 2 ^ 63 = 1 from by omega]; rfl
  · rw [decide_eq_false h, show b / 2 ^ 63 = 0 from by omega]; rfl
theorem abs_u64 (b : Nat) (hb : b < 18446744073709551616) : bitI .andNot .u64 (b : Int) 9223372036854775808 = (bAbs b : Int) := by
  have e : bitI .andNot .u64 (b : Int) 9223372036854775808 = IntKind.u64.wrap ((BitVec.ofNat 64 b &&& ~~~ BitVec.ofNat 64 9223372036854775808).toNat : Int) := by
    show IntKind.wrap .u64 (((BitVec.ofInt 64 (b : Int) &&& ~~~ BitVec.ofInt 64 9223372036854775808).toNat : Nat) : Int) = _
    rw [ofInt_nat, show (9223372036854775808 : Int) = ((9223372036854775808 : Nat) : Int) from rfl, ofInt_nat]
  have h2 : ~~~ BitVec.ofNat 64 9223372036854775808 = BitVec.ofNat 64 9223372036854775807 := by decide
  have h3 : b &&& 9223372036854775807 = b % 9223372036854775808 := Nat.and_two_pow_sub_one_eq_mod _ 63
  rw [e, h2, BitVec.toNat_and, BitVec.toNat_ofNat, BitVec.toNat_ofNat, Nat.mod_eq_of_lt (show b < 2 ^ 64 from hb), Nat.mod_eq_of_lt (show 9223372036854775807 < 2 ^ 64 by omega), h3]
  unfold bAbs
  exact wrap_u64_id _ (by omega) (by omega)
theorem flip_u64 (b : Nat) (hb : b < 18446744073709551616) : bitI .xor .u64 (b : Int) 9223372036854775808 = (bFlip b : Int) := by
  have h2 := xor_u64 b 9223372036854775808 hb (by omega)
  rw [show ((9223372036854775808 : Nat) : Int) = 9223372036854775808 from rfl] at h2
  rw [h2]
  congr 1
  have hx : b ^^^ 9223372036854775808 = (b % 9223372036854775808) + 9223372036854775808 * (b / 9223372036854775808 ^^^ 1) := by
    have e1 : b = 9223372036854775808 * (b / 9223372036854775808) + b % 9223372036854775808 := (Nat.div_add_mod b _).symm
    have e2 : (b % 9223372036854775808) < 2 ^ 63 := Nat.mod_lt _ (by decide)
    apply Nat.eq_of_testBit_eq
    intro i
    rw [Nat.testBit_xor]
    rw [show (b % 9223372036854775808) + 9223372036854775808 * (b / 9223372036854775808 ^^^ 1) = 2 ^ 63 * (b / 9223372036854775808 ^^^ 1) + b % 9223372036854775808 from by omega, Nat.testBit_two_pow_mul_add _ e2]
    conv => lhs; rw [e1]
    rw [show 9223372036854775808 * (b / 9223372036854775808) = 2 ^ 63 * (b / 9223372036854775808) from rfl, Nat.testBit_two_pow_mul_add _ e2, show (9223372036854775808 : Nat) = 2 ^ 63 * 1 + 0 from rfl, Nat.testBit_two_pow_mul_add _ (by decide)]
    by_cases h : i < 63
    · simp [h]
    · simp [h, Nat.testBit_xor]
  rw [hx]
  unfold bFlip
  by_cases h : 9223372036854775808 ≤ b
  · rw [if_pos h, show b / 9223372036854775808 = 1 from by omega]; simp; omega
  · rw [if_neg h, show b / 9223372036854775808 = 0 from by omega]; simp; omega

/-- Or of numbers that share no bits. -/
theorem or_add (a b k : Nat) (hb : b < 2 ^ k) : 2 ^ k * a ||| b = 2 ^ k * a + b := (Nat.two_pow_add_eq_or_of_lt hb a).symm
theorem kind_le (b : Nat) : 1 ≤ bKind b ∧ bKind b ≤ 5 := by unfold bKind; split <;> split <;> (try split) <;> omega
end Go.Ev
end

section
set_option linter.all false
/- Numbers of two words. -/
namespace Go.Ev

def wv (hi lo : Nat) : Nat := hi * 18446744073709551616 + lo
def wh (W : Nat) : Nat := W / 18446744073709551616 % 18446744073709551616
def wl (W : Nat) : Nat := W % 18446744073709551616
theorem wh_lt (W : Nat) : wh W < 18446744073709551616 := Nat.mod_lt _ (by decide)
theorem wl_lt (W : Nat) : wl W < 18446744073709551616 := Nat.mod_lt _ (by decide)
theorem wv_wh_wl (W : Nat) (h : W < 340282366920938463463374607431768211456) : wv (wh W) (wl W) = W := by unfold wv wh wl; omega
theorem wh_wv (hi lo : Nat) (h : hi < 18446744073709551616) (hl : lo < 18446744073709551616) : wh (wv hi lo) = hi := by unfold wv wh; omega
theorem wl_wv (hi lo : Nat) (hl : lo < 18446744073709551616) : wl (wv hi lo) = lo := by unfold wv wl; omega
theorem wv_lt (hi lo : Nat) (h : hi < 18446744073709551616) (hl : lo < 18446744073709551616) : wv hi lo < 340282366920938463463374607431768211456 := by unfold wv; omega

theorem mix (p q x y : Nat) (hp : 0 < p) (hq : 0 < q) (hy : y < p) : (x * p + y) % (p * q) = p * (x % q) + y := by
  have h1 : x * p + y = p * (x % q) + y + (p * q) * (x / q) := by
    have := Nat.div_add_mod x q
    calc x * p + y = p * (q * (x / q) + x % q) + y := by rw [this, Nat.mul_comm]
      _ = _ := by rw [Nat.mul_add, Nat.mul_assoc]; omega
  rw [h1, Nat.add_mul_mod_self_left]
  apply Nat.mod_eq_of_lt
  have h2 : x % q < q := Nat.mod_lt _ hq
  calc p * (x % q) + y < p * (x % q) + p := by omega
    _ = p * (x % q + 1) := by rw [Nat.mul_add, Nat.mul_one]
    _ ≤ p * q := Nat.mul_le_mul_left _ h2

theorem pq64 (n : Nat) (h : n < 64) : 2 ^ n * 2 ^ (64 - n) = 18446744073709551616 := by
  rw [← Nat.pow_add, show n + (64 - n) = 64 from by omega]
theorem div_lt (lo n : Nat) (h : n < 64) (hl : lo < 18446744073709551616) : lo / 2 ^ (64 - n) < 2 ^ n := by
  rw [Nat.div_lt_iff_lt_mul (Nat.two_pow_pos _), pq64 n h]; exact hl

/-- To the left. -/
theorem left_hi (hi lo n : Nat) (hn : n < 64) (hl : lo < 18446744073709551616) : wh (wv hi lo * 2 ^ n) = (hi * 2 ^ n % 18446744073709551616) ||| (lo / 2 ^ (64 - n)) := by
  have hpq := pq64 n hn
  have hy := div_lt lo n hn hl
  have e1 : wv hi lo * 2 ^ n / 18446744073709551616 = hi * 2 ^ n + lo / 2 ^ (64 - n) := by
    unfold wv
    rw [Nat.add_mul, show hi * 18446744073709551616 * 2 ^ n + lo * 2 ^ n = lo * 2 ^ n + 18446744073709551616 * (hi * 2 ^ n) from by rw [Nat.mul_comm hi, Nat.mul_assoc]; omega, Nat.add_mul_div_left _ _ (by decide)]
    conv => lhs; lhs; rw [← hpq, Nat.mul_comm lo]
    rw [Nat.mul_div_mul_left _ _ (Nat.two_pow_pos n)]; omega
  unfold wh
  rw [e1]
  conv => lhs; rhs; rw [← hpq]
  rw [mix (2 ^ n) (2 ^ (64 - n)) hi _ (Nat.two_pow_pos _) (Nat.two_pow_pos _) hy]
  have e2 : hi * 2 ^ n % 18446744073709551616 = 2 ^ n * (hi % 2 ^ (64 - n)) := by
    have := mix (2 ^ n) (2 ^ (64 - n)) hi 0 (Nat.two_pow_pos _) (Nat.two_pow_pos _) (Nat.two_pow_pos _)
    rw [hpq] at this; simpa using this
  rw [e2, or_add _ _ n hy]
theorem left_lo (hi lo n : Nat) : wl (wv hi lo * 2 ^ n) = lo * 2 ^ n % 18446744073709551616 := by
  unfold wv wl
  rw [Nat.add_mul, show hi * 18446744073709551616 * 2 ^ n + lo * 2 ^ n = lo * 2 ^ n + 18446744073709551616 * (hi * 2 ^ n) from by rw [Nat.mul_comm hi, Nat.mul_assoc]; omega, Nat.add_mul_mod_self_left]
theorem left_big (hi lo n : Nat) (hn : 64 ≤ n) : wh (wv hi lo * 2 ^ n) = lo * 2 ^ (n - 64) % 18446744073709551616 ∧ wl (wv hi lo * 2 ^ n) = 0 := by
  obtain ⟨k, rfl⟩ : ∃ k, n = 64 + k := ⟨n - 64, by omega⟩
  have e : wv hi lo * 2 ^ (64 + k) = 18446744073709551616 * (wv hi lo * 2 ^ k) := by rw [Nat.pow_add, show (2 : Nat) ^ 64 = 18446744073709551616 from rfl, ← Nat.mul_assoc, Nat.mul_comm _ 18446744073709551616, Nat.mul_assoc]
  rw [e, Nat.add_sub_cancel_left]
  constructor
  · unfold wh
    rw [Nat.mul_div_cancel_left _ (by decide)]
    exact left_lo hi lo k
  · unfold wl; exact Nat.mul_mod_right _ _
theorem left_all (hi lo n : Nat) (hn : 128 ≤ n) : wh (wv hi lo * 2 ^ n) = 0 ∧ wl (wv hi lo * 2 ^ n) = 0 := by
  have h := left_big hi lo n (by omega)
  refine ⟨?_, h.2⟩
  rw [h.1]
  obtain ⟨k, hk⟩ : ∃ k, n - 64 = 64 + k := ⟨n - 128, by omega⟩
  rw [hk, Nat.pow_add, show (2 : Nat) ^ 64 = 18446744073709551616 from rfl, ← Nat.mul_assoc, Nat.mul_comm lo, Nat.mul_assoc, Nat.mul_mod_right]

/-- To the right. -/
theorem right_hi (hi lo n : Nat) (h : hi < 18446744073709551616) (hl : lo < 18446744073709551616) : wh (wv hi lo / 2 ^ n) = hi / 2 ^ n := by
  unfold wh wv
  rw [Nat.div_div_eq_div_mul, Nat.mul_comm (2 ^ n), ← Nat.div_div_eq_div_mul, show (hi * 18446744073709551616 + lo) / 18446744073709551616 = hi from by omega]
  apply Nat.mod_eq_of_lt
  exact Nat.lt_of_le_of_lt (Nat.div_le_self _ _) h
theorem right_lo (hi lo n : Nat) (hn : n < 64) (h0 : 0 < n) (hl : lo < 18446744073709551616) : wl (wv hi lo / 2 ^ n) = (hi * 2 ^ (64 - n) % 18446744073709551616) ||| (lo / 2 ^ n) := by
  have hpq := pq64 n hn
  have hy : lo / 2 ^ n < 2 ^ (64 - n) := by
    have := div_lt lo (64 - n) (by omega) hl
    rwa [show 64 - (64 - n) = n from by omega] at this
  have e1 : wv hi lo / 2 ^ n = hi * 2 ^ (64 - n) + lo / 2 ^ n := by
    unfold wv
    rw [← hpq, show hi * (2 ^ n * 2 ^ (64 - n)) + lo = lo + 2 ^ n * (hi * 2 ^ (64 - n)) from by rw [← Nat.mul_assoc, Nat.mul_comm hi, Nat.mul_assoc]; omega, Nat.add_mul_div_left _ _ (Nat.two_pow_pos _)]; omega
  unfold wl
  rw [e1]
  have e3 : (18446744073709551616 : Nat) = 2 ^ (64 - n) * 2 ^ n := by rw [Nat.mul_comm]; exact hpq.symm
  have m1 := mix (2 ^ (64 - n)) (2 ^ n) hi _ (Nat.two_pow_pos _) (Nat.two_pow_pos _) hy
  have e2 := mix (2 ^ (64 - n)) (2 ^ n) hi 0 (Nat.two_pow_pos _) (Nat.two_pow_pos _) (Nat.two_pow_pos _)
  rw [← e3] at m1 e2
  simp only [Nat.add_zero] at e2
  rw [m1, e2, or_add _ _ (64 - n) hy]
theorem right_big (hi lo n : Nat) (hn : 64 ≤ n) (h : hi < 18446744073709551616) (hl : lo < 18446744073709551616) : wl (wv hi lo / 2 ^ n) = hi / 2 ^ (n - 64) ∧ wh (wv hi lo / 2 ^ n) = 0 := by
  obtain ⟨k, rfl⟩ : ∃ k, n = 64 + k := ⟨n - 64, by omega⟩
  have e : wv hi lo / 2 ^ (64 + k) = hi / 2 ^ k := by
    rw [Nat.pow_add, ← Nat.div_div_eq_div_mul, show (2 : Nat) ^ 64 = 18446744073709551616 from rfl]
    unfold wv
    rw [show (hi * 18446744073709551616 + lo) / 18446744073709551616 = hi from by omega]
  have hlt : hi / 2 ^ k < 18446744073709551616 := Nat.lt_of_le_of_lt (Nat.div_le_self _ _) h
  rw [e, Nat.add_sub_cancel_left]
  generalize hi / 2 ^ k = z at hlt
  unfold wl wh
  omega
theorem right_all (hi lo n : Nat) (hn : 128 ≤ n) (h : hi < 18446744073709551616) (hl : lo < 18446744073709551616) : wv hi lo / 2 ^ n = 0 := by
  apply Nat.div_eq_of_lt
  exact Nat.lt_of_lt_of_le (wv_lt hi lo h hl) (Nat.le_trans (show 340282366920938463463374607431768211456 ≤ 2 ^ 128 by decide) (Nat.pow_le_pow_right (by decide) hn))
theorem back_iff (W n : Nat) : (W / 2 ^ n * 2 ^ n = W) ↔ W % 2 ^ n = 0 := by
  have := Nat.div_add_mod W (2 ^ n)
  rw [Nat.mul_comm] at this
  omega
theorem wv_inj (a b c d : Nat) (hb : b < 18446744073709551616) (hd : d < 18446744073709551616) : wv a b = wv c d ↔ a = c ∧ b = d := by unfold wv; omega
/-- How many bits. -/
def wlen (W : Nat) : Nat := if W = 0 then 0 else W.log2 + 1
theorem wlen_hi (hi lo : Nat) (hz : hi ≠ 0) (hl : lo < 18446744073709551616) : wlen (wv hi lo) = hi.log2 + 65 := by
  have h0 : wv hi lo ≠ 0 := by unfold wv; omega
  unfold wlen
  rw [if_neg h0]
  have h1 : (wv hi lo).log2 = hi.log2 + 64 := by
    rw [Nat.log2_eq_iff h0]
    have h2 := (Nat.log2_eq_iff (k := hi.log2) hz).1 rfl
    have e1 : 2 ^ (hi.log2 + 64) = 2 ^ hi.log2 * 18446744073709551616 := Nat.pow_add 2 _ 64
    have e2 : 2 ^ (hi.log2 + 64 + 1) = 2 ^ (hi.log2 + 1) * 18446744073709551616 := by rw [show hi.log2 + 64 + 1 = (hi.log2 + 1) + 64 from by omega]; exact Nat.pow_add 2 _ 64
    rw [e1, e2]
    unfold wv
    omega
  omega
theorem wlen_pos (W : Nat) (h : W ≠ 0) : 2 ^ (wlen W - 1) ≤ W ∧ W < 2 ^ wlen W ∧ 0 < wlen W := by
  unfold wlen
  rw [if_neg h, Nat.add_sub_cancel]
  have h2 := (Nat.log2_eq_iff (k := W.log2) h).1 rfl
  exact ⟨h2.1, h2.2, by omega⟩
theorem wlen_le (W n : Nat) (h : W < 2 ^ n) : wlen W ≤ n := by
  by_cases h0 : W = 0
  · subst h0; exact Nat.zero_le _
  · have h2 := wlen_pos W h0
    have : 2 ^ (wlen W - 1) < 2 ^ n := Nat.lt_of_le_of_lt h2.1 h
    have := (Nat.pow_lt_pow_iff_right (by decide)).1 this
    omega
end Go.Ev
end

section
set_option linter.all false
/- Rounding, as a function of whole numbers. -/
namespace Go.Ev

def clampE (x : Int) : Int := maxN (-100000) (minN x 100000)
theorem clampE_le (x : Int) : -100000 ≤ clampE x ∧ clampE x ≤ 100000 := by unfold clampE maxN minN; split <;> split at * <;> omega
theorem clampE_id (x : Int) (h : -100000 ≤ x) (h1 : x ≤ 100000) : clampE x = x := by unfold clampE maxN minN; split <;> split at * <;> omega

/-- The last step: what a whole number of 53 bits at most becomes. -/
def rEnd (neg : Bool) (x : Int) (m f : Nat) : Nat × Nat :=
  if m < 4503599627370496 then (bMake neg 0 m, f)
  else if x + 1075 ≥ 2047 then (bMake neg 2047 0, f ||| 4 ||| 1)
  else (bMake neg (x + 1075).toNat (bFrac m), f)
def rFl (lost tiny : Bool) : Nat := if lost then (if tiny then 3 else 1) else 0
def rMid (neg : Bool) (x : Int) (m : Nat) (lost tiny : Bool) : Nat × Nat :=
  if m = 9007199254740992 then rEnd neg (x + 1) 4503599627370496 (rFl lost tiny) else rEnd neg x m (rFl lost tiny)
/-- What falls out, and what stays. -/
def rHalf (W n : Nat) : Bool := decide (W / 2 ^ (n - 1) % 2 = 1)
def rFell (W n : Nat) : Bool := decide (W % 2 ^ (n - 1) ≠ 0)
def rUp (W n : Nat) (more : Bool) : Nat := if rHalf W n && (rFell W n || more || decide (W / 2 ^ n % 2 = 1)) then W / 2 ^ n + 1 else W / 2 ^ n
def rDrop (W : Nat) (e : Int) : Int := if e + ((wlen W : Int) - 53) < -1074 then -1074 - e else (wlen W : Int) - 53
def roundN (neg : Bool) (W : Nat) (exp : Int) (more : Bool) : Nat × Nat :=
  if W = 0 then (bMake neg 0 0, if more then 3 else 0)
  else
    let e := clampE exp
    let drop := rDrop W e
    let tiny := decide (e + wlen W < -1021)
    if drop > 0 then rMid neg (e + drop) (rUp W drop.toNat more) (rHalf W drop.toNat || rFell W drop.toNat || more) tiny
    else rMid neg (e + drop) (W * 2 ^ (-drop).toNat) more tiny

theorem rDrop_ge (W : Nat) (e : Int) : -1074 ≤ e + rDrop W e ∧ (wlen W : Int) - 53 ≤ rDrop W e := by unfold rDrop; split <;> omega
/-- What stays has 53 bits at most. -/
theorem stay_lt (W n : Nat) (h : wlen W ≤ n + 53) (h0 : W ≠ 0) : W / 2 ^ n < 9007199254740992 := by
  rw [Nat.div_lt_iff_lt_mul (Nat.two_pow_pos _)]
  have h1 := (wlen_pos W h0).2.1
  have h2 : 2 ^ wlen W ≤ 2 ^ (n + 53) := Nat.pow_le_pow_right (by decide) h
  rw [Nat.pow_add, Nat.mul_comm] at h2
  exact Nat.lt_of_lt_of_le h1 h2
theorem stay_lt' (W n : Nat) (h : wlen W + n ≤ 53) (h0 : W ≠ 0) : W * 2 ^ n < 9007199254740992 := by
  have h1 := (wlen_pos W h0).2.1
  have h2 : 2 ^ (wlen W + n) ≤ 2 ^ 53 := Nat.pow_le_pow_right (by decide) h
  rw [Nat.pow_add] at h2
  exact Nat.lt_of_lt_of_le (Nat.mul_lt_mul_of_pos_right h1 (Nat.two_pow_pos _)) h2
end Go.Ev
end

section
set_option linter.all false
/- Sums and scalings of patterns, as functions of whole numbers. -/
namespace Go.Ev

theorem kd (x k : Nat) : ((bKind x : Int) == (k : Int)) = decide (bKind x = k) := by apply Bool.eq_iff_iff.2; simp only [beq_iff_eq, decide_eq_true_eq]; omega
theorem kd5 (x : Nat) : ((bKind x : Int) == 5) = decide (bKind x = 5) := kd x 5
theorem kd4 (x : Nat) : ((bKind x : Int) == 4) = decide (bKind x = 4) := kd x 4
theorem kd3 (x : Nat) : ((bKind x : Int) == 3) = decide (bKind x = 3) := kd x 3
theorem kd2 (x : Nat) : ((bKind x : Int) == 2) = decide (bKind x = 2) := kd x 2
theorem kd1 (x : Nat) : ((bKind x : Int) == 1) = decide (bKind x = 1) := kd x 1
theorem memAt_end (H : Heap) (k : Nat) (cs : List C) : memAt (H ++ [Blk.mem k cs]) (List.length H) = cs := by
  unfold memAt; rw [List.getD_eq_getElem?_getD, List.getElem?_append_right (Nat.le_refl _), Nat.sub_self]; rfl

theorem wv_left64 (m : Nat) : wv 0 m * 2 ^ 64 = m * 18446744073709551616 := by
  rw [show (2 : Nat) ^ 64 = 18446744073709551616 from rfl]
  unfold wv; omega
def bQuiet : Nat := 9221120237041090560
def bSig (b : Nat) : Bool := decide (bKind b = 5) && decide (b / 2251799813685248 % 2 = 0)
def clampS (n : Int) : Int := maxN (-10000) (minN n 10000)
theorem clampS_le (x : Int) : -10000 ≤ clampS x ∧ clampS x ≤ 10000 := by unfold clampS maxN minN; split <;> split at * <;> omega
def scaleN (a : Nat) (n : Int) : Nat × Nat :=
  if bKind a = 5 then (bQuiet, if bSig a then 16 else 0)
  else if bKind a = 4 then (a, 0)
  else if bKind a = 1 then (a, 0)
  else roundN (bNeg a) (bMan a) (bPow a + clampS n) false
theorem bMan_lt (b : Nat) : bMan b < 9007199254740992 := by
  have hf : bFrac b < 4503599627370496 := Nat.mod_lt _ (by decide)
  unfold bMan; split <;> (try split) <;> omega
theorem bExp_lt (b : Nat) : bExp b < 2048 := Nat.mod_lt _ (by decide)
theorem bPow_le (b : Nat) : -1074 ≤ bPow b ∧ bPow b ≤ 972 := by
  have he := bExp_lt b
  unfold bPow bKind
  by_cases h1 : bExp b = 0
  · by_cases h2 : bFrac b = 0 <;> simp [h1, h2]
  · by_cases h3 : bExp b < 2047
    · simp [h1, h3]; omega
    · by_cases h2 : bFrac b = 0 <;> simp [h1, h2, h3]
theorem bPow_mono (a b : Nat) (ha : bKind a = 2 ∨ bKind a = 3) (hb : bKind b = 2 ∨ bKind b = 3) (h : bExp b ≤ bExp a) : bPow b ≤ bPow a := by
  have e1 : bKind a = 2 → bExp a = 0 := by unfold bKind; intro h; by_cases h1 : bExp a = 0; exact h1; simp [h1] at h; split at h <;> (try split at h) <;> omega
  have e2 : bKind b = 2 → bExp b = 0 := by unfold bKind; intro h; by_cases h1 : bExp b = 0; exact h1; simp [h1] at h; split at h <;> (try split at h) <;> omega
  have e3 : bKind a = 3 → bExp a ≠ 0 := by unfold bKind; intro h h1; simp [h1] at h; split at h <;> omega
  unfold bPow
  rcases ha with ha | ha <;> rcases hb with hb | hb <;> simp [ha, hb] <;> (try have := e1 ha) <;> (try have := e2 hb) <;> (try have := e3 ha) <;> (try omega)
theorem bExp_abs (b : Nat) : bExp b = bAbs b / 4503599627370496 := by unfold bExp bAbs; omega
theorem bExp_mono (a b : Nat) (h : bAbs b ≤ bAbs a) : bExp b ≤ bExp a := by rw [bExp_abs, bExp_abs]; exact Nat.div_le_div_right h
def addS (neg : Bool) (e : Int) (P Q : Nat) (low : Bool) : Nat × Nat :=
  if (340282366920938463463374607431768211456 + P - Q) % 340282366920938463463374607431768211456 = 0 ∧ low = false then (0, 0) else roundN neg ((340282366920938463463374607431768211456 + P - Q) % 340282366920938463463374607431768211456) (e - 64) low
def addD (neg same : Bool) (e : Int) (P Q : Nat) (low : Bool) : Nat × Nat :=
  if same then roundN neg (P + Q) (e - 64) low else addS neg e P (if low then Q + 1 else Q) low
/-- The greater one first. -/
def addC (a b : Nat) : Nat × Nat :=
  addD (bNeg a) (bNeg a == bNeg b) (bPow a) (bMan a * 18446744073709551616) (bMan b * 18446744073709551616 / 2 ^ (bPow a - bPow b).toNat) (decide (bMan b * 18446744073709551616 % 2 ^ (bPow a - bPow b).toNat ≠ 0))
def addN (a b : Nat) : Nat × Nat :=
  if bKind a = 5 ∨ bKind b = 5 then (bQuiet, if bSig a || bSig b then 16 else 0)
  else if bKind a = 4 ∧ bKind b = 4 ∧ a ≠ b then (bQuiet, 16)
  else if bKind a = 4 then (a, 0)
  else if bKind b = 4 then (b, 0)
  else if bKind a = 1 ∧ bKind b = 1 then (a &&& b, 0)
  else if bKind a = 1 then (b, 0)
  else if bKind b = 1 then (a, 0)
  else if bAbs a < bAbs b then addC b a else addC a b

theorem bMake_lt (neg : Bool) (e f : Nat) (he : e < 2048) (hf : f < 4503599627370496) : bMake neg e f < 18446744073709551616 := by unfold bMake; cases neg <;> simp <;> omega
theorem bFrac_lt (b : Nat) : bFrac b < 4503599627370496 := Nat.mod_lt _ (by decide)
theorem rEnd_lt (neg : Bool) (x : Int) (m f : Nat) (hf : f < 256) : (rEnd neg x m f).1 < 18446744073709551616 ∧ (rEnd neg x m f).2 < 256 := by
  unfold rEnd
  by_cases h1 : m < 4503599627370496
  · rw [if_pos h1]; exact ⟨bMake_lt _ _ _ (by decide) h1, hf⟩
  · rw [if_neg h1]
    by_cases h2 : x + 1075 ≥ 2047
    · rw [if_pos h2]; exact ⟨bMake_lt _ _ _ (by decide) (by decide), Nat.or_lt_two_pow (n := 8) (Nat.or_lt_two_pow (n := 8) hf (by decide)) (by decide)⟩
    · rw [if_neg h2]; exact ⟨bMake_lt _ _ _ (by omega) (bFrac_lt _), hf⟩
theorem rFl_lt (a b : Bool) : rFl a b < 256 := by cases a <;> cases b <;> decide
theorem rMid_lt (neg : Bool) (x : Int) (m : Nat) (a b : Bool) : (rMid neg x m a b).1 < 18446744073709551616 ∧ (rMid neg x m a b).2 < 256 := by
  unfold rMid; split <;> exact rEnd_lt _ _ _ _ (rFl_lt _ _)
theorem z256 : (0 : Nat) < 256 := by decide
theorem ite256 (c : Bool) : (if c = true then 3 else 0 : Nat) < 256 := by cases c <;> decide
theorem ite256' (c : Bool) : (if c = true then 16 else 0 : Nat) < 256 := by cases c <;> decide
theorem quiet_lt : bQuiet < 18446744073709551616 := by unfold bQuiet; omega
theorem roundN_lt (neg : Bool) (W : Nat) (e : Int) (more : Bool) : (roundN neg W e more).1 < 18446744073709551616 ∧ (roundN neg W e more).2 < 256 := by
  unfold roundN
  split
  · exact ⟨bMake_lt _ _ _ (by decide) (by decide), ite256 more⟩
  · simp only; split <;> exact rMid_lt _ _ _ _ _
theorem scaleN_lt (a : Nat) (n : Int) (ha : a < 18446744073709551616) : (scaleN a n).1 < 18446744073709551616 ∧ (scaleN a n).2 < 256 := by
  unfold scaleN
  split
  · exact ⟨quiet_lt, ite256' _⟩
  · split
    · exact ⟨ha, z256⟩
    · split
      · exact ⟨ha, z256⟩
      · exact roundN_lt _ _ _ _
theorem addS_lt (neg : Bool) (e : Int) (P Q : Nat) (low : Bool) : (addS neg e P Q low).1 < 18446744073709551616 ∧ (addS neg e P Q low).2 < 256 := by
  unfold addS
  split
  · exact ⟨by decide, by decide⟩
  · exact roundN_lt _ _ _ _
theorem addC_lt (a b : Nat) : (addC a b).1 < 18446744073709551616 ∧ (addC a b).2 < 256 := by
  unfold addC addD
  split
  · exact roundN_lt _ _ _ _
  · exact addS_lt _ _ _ _ _
theorem addN_fl (a b : Nat) : (addN a b).2 < 256 := by
  unfold addN
  split
  · exact ite256' _
  · repeat' split
    all_goals first | exact z256 | exact (addC_lt _ _).2 | decide
theorem addN_lt (a b : Nat) (ha : a < 18446744073709551616) (hb : b < 18446744073709551616) : (addN a b).1 < 18446744073709551616 := by
  unfold addN
  split
  · exact quiet_lt
  · repeat' split
    all_goals first | exact quiet_lt | exact ha | exact hb | exact (addC_lt _ _).1 | exact Nat.and_lt_two_pow (n := 64) a hb
end Go.Ev
end

section
set_option linter.all false
/- Matrices in the heap, as functions of two places. -/
namespace Go.Ev

def u64L (L : List Nat) : List C := L.map fun b : Nat => C.int .u64 (b : Int)
def MX (r c : Nat) (f : Nat → Nat → Nat) : List Nat := (List.range (r * c)).map fun p => f (p / c) (p % c)
def upm (f : Nat → Nat → Nat) (i j b : Nat) : Nat → Nat → Nat := fun x y => if x = i ∧ y = j then b else f x y
/-- A block of the heap is a matrix. -/
def HM (H : Heap) (id r c : Nat) (f : Nat → Nat → Nat) : Prop := H[id]? = some (.mem 2 (u64L (MX r c f)))
def u64M (r c : Nat) (f : Nat → Nat → Nat) : Prop := ∀ i j, i < r → j < c → f i j < 18446744073709551616

theorem MX_length (r c : Nat) (f) : (MX r c f).length = r * c := by simp [MX]
theorem u64L_length (L : List Nat) : (u64L L).length = L.length := by simp [u64L]
theorem at_lt (r c i j : Nat) (hi : i < r) (hj : j < c) : i * c + j < r * c := by
  have : (i + 1) * c ≤ r * c := Nat.mul_le_mul_right c hi
  rw [Nat.add_mul, Nat.one_mul] at this
  omega
theorem MX_get (r c : Nat) (f) (i j : Nat) (hi : i < r) (hj : j < c) : (MX r c f)[i * c + j]? = some (f i j) := by
  have h := at_lt r c i j hi hj
  have hc : 0 < c := by omega
  unfold MX
  rw [List.getElem?_map, List.getElem?_range h, Option.map_some, Nat.add_comm, Nat.add_mul_div_right _ _ hc, Nat.div_eq_of_lt hj, Nat.add_mul_mod_self_right, Nat.mod_eq_of_lt hj, Nat.zero_add]
theorem MX_congr (r c : Nat) (f g) (h : ∀ i j, i < r → j < c → f i j = g i j) : MX r c f = MX r c g := by
  unfold MX
  apply List.map_congr_left
  intro p hp
  have hp := List.mem_range.1 hp
  have hc : 0 < c := by rcases Nat.eq_zero_or_pos c with h0 | h0; subst h0; simp at hp; exact h0
  exact h _ _ (by rw [Nat.div_lt_iff_lt_mul hc]; exact hp) (Nat.mod_lt _ hc)
theorem take_one_at {α : Type} {l : List α} {p : Nat} {x : α} (h : l[p]? = some x) : List.take 1 (List.drop p l) = [x] := by
  obtain ⟨h1, h2⟩ := List.getElem?_eq_some_iff.1 h
  rw [List.drop_eq_getElem_cons h1, h2]; rfl
theorem putCells_one (cs : List C) (p : Nat) (x : C) (h : p < cs.length) : putCells cs p [x] = cs.set p x := by
  rw [List.set_eq_take_append_cons_drop, if_pos h]
  simp [putCells]
theorem rdM {α : Type} {H : Heap} {id r c : Nat} {f} (h : HM H id r c f) (i j : Nat) (hi : i < r) (hj : j < c) (F : List C → Option α) : rdE H id (0 + (i * c + j) * 1) 1 F = F [.int .u64 (f i j : Int)] := by
  unfold rdE
  rw [memAt_get h]
  rw [Nat.zero_add, Nat.mul_one, take_one_at (x := .int .u64 (f i j : Int)) (by unfold u64L; rw [List.getElem?_map, MX_get r c f i j hi hj]; rfl)]
theorem upm_same (f i j b) : upm f i j b i j = b := by unfold upm; rw [if_pos ⟨rfl, rfl⟩]
theorem putM (r c : Nat) (f) (i j b : Nat) (hi : i < r) (hj : j < c) : putCells (u64L (MX r c f)) (0 + (i * c + j) * 1) [.int .u64 (b : Int)] = u64L (MX r c (upm f i j b)) := by
  have h := at_lt r c i j hi hj
  have hc : 0 < c := by omega
  rw [Nat.zero_add, Nat.mul_one, putCells_one _ _ _ (by rw [u64L_length, MX_length]; exact h)]
  apply List.ext_getElem?
  intro p
  rw [List.getElem?_set]
  unfold u64L MX
  by_cases hp : p < r * c
  · rw [List.getElem?_map, List.getElem?_map, List.getElem?_map, List.getElem?_map, List.getElem?_range hp]
    simp only [Option.map_some, List.length_map, List.length_range]
    by_cases he : i * c + j = p
    · subst he
      rw [if_pos rfl, if_pos h, Nat.add_comm, Nat.add_mul_div_right _ _ hc, Nat.div_eq_of_lt hj, Nat.add_mul_mod_self_right, Nat.mod_eq_of_lt hj, Nat.zero_add, upm_same]
    · rw [if_neg he]
      have hne : ¬ (p / c = i ∧ p % c = j) := by
        rintro ⟨rfl, rfl⟩
        apply he
        rw [Nat.mul_comm]; exact Nat.div_add_mod p c
      simp only [upm, if_neg hne]
  · rw [if_neg (by omega)]
    rw [List.getElem?_eq_none (by simp; omega), List.getElem?_eq_none (by simp; omega)]
theorem stM {α : Type} {H : Heap} {id r c : Nat} {f} (h : HM H id r c f) (i j b : Nat) (hi : i < r) (hj : j < c) (F : Heap → Option α) : stE H id (0 + (i * c + j) * 1) [.int .u64 (b : Int)] F = F (H.set id (.mem 2 (u64L (MX r c (upm f i j b))))) := by
  unfold stE
  rw [List.getD_eq_getElem?_getD, h]
  simp only [Option.getD_some, putM r c f i j b hi hj]
theorem HM_set {H : Heap} {id r c : Nat} {f g} (h : HM H id r c f) : HM (H.set id (.mem 2 (u64L (MX r c g)))) id r c g := by
  unfold HM at *
  rw [List.getElem?_set, if_pos rfl, if_pos (List.getElem?_eq_some_iff.1 h).1]
theorem HM_other {H : Heap} {id id' r c : Nat} {f b} (h : HM H id r c f) (hne : id' ≠ id) : HM (H.set id' b) id r c f := by
  unfold HM at *
  rw [List.getElem?_set, if_neg hne]; exact h
theorem HM_app {H G : Heap} {id r c : Nat} {f} (h : HM H id r c f) : HM (H ++ G) id r c f := by
  unfold HM at *
  rw [List.getElem?_append_left (List.getElem?_eq_some_iff.1 h).1]; exact h
theorem HM_new {H : Heap} {r c : Nat} {f} : HM (H ++ [.mem 2 (u64L (MX r c f))]) (List.length H) r c f := by
  unfold HM
  rw [List.getElem?_append_right (Nat.le_refl _), Nat.sub_self]; rfl
theorem set_new (H : Heap) (a b : Blk) : (H ++ [a]).set (List.length H) b = H ++ [b] := by
  rw [List.set_append_right _ _ (Nat.le_refl _), Nat.sub_self]; rfl
theorem repC_rep (x : C) (n : Nat) : repC [x] n = List.replicate n x := by
  induction n with
  | zero => rfl
  | succ n ih => rw [repC, ih]; rfl
theorem repC_zero (r c : Nat) : repC [.int .u64 0] (r * c) = u64L (MX r c fun _ _ => 0) := by
  rw [repC_rep]
  unfold u64L MX
  apply List.ext_getElem?
  intro p
  rw [List.map_map, List.getElem?_map, List.getElem?_replicate]
  by_cases hp : p < r * c
  · rw [if_pos hp, List.getElem?_range hp]; rfl
  · rw [if_neg hp, List.getElem?_eq_none (by simp; omega)]; rfl
def finRow (f : Nat → Nat → Nat) (c i : Nat) (j : Nat) : Prop := ∀ y, j ≤ y → y < c → bExp (f i y) < 2047
noncomputable instance (f c i j) : Decidable (finRow f c i j) := Classical.propDecidable _
def finAll (f : Nat → Nat → Nat) (r c i : Nat) : Prop := ∀ x, i ≤ x → x < r → finRow f c x 0
noncomputable instance (f r c i) : Decidable (finAll f r c i) := Classical.propDecidable _
end Go.Ev
end

section
set_option linter.all false
/- Lists of numbers in the heap; two places changed. -/
namespace Go.Ev

def i64V (n : Nat) (p : Nat → Int) : List C := (List.range n).map fun i => C.int .i64 (p i)
def HV (H : Heap) (id n : Nat) (p : Nat → Int) : Prop := H[id]? = some (.mem 2 (i64V n p))
def uv (p : Nat → Int) (i : Nat) (b : Int) : Nat → Int := fun x => if x = i then b else p x
theorem i64V_length (n : Nat) (p) : (i64V n p).length = n := by simp [i64V]
theorem i64V_get (n : Nat) (p) (i : Nat) (hi : i < n) : (i64V n p)[i]? = some (.int .i64 (p i)) := by
  unfold i64V
  rw [List.getElem?_map, List.getElem?_range hi, Option.map_some]
theorem i64V_congr (n : Nat) (p q : Nat → Int) (h : ∀ i, i < n → p i = q i) : i64V n p = i64V n q := by
  unfold i64V
  apply List.map_congr_left
  intro i hi
  rw [h i (List.mem_range.1 hi)]
theorem rdV {α : Type} {H : Heap} {id n : Nat} {p} (h : HV H id n p) (i : Nat) (hi : i < n) (F : List C → Option α) : rdE H id (0 + i * 1) 1 F = F [.int .i64 (p i)] := by
  unfold rdE
  rw [memAt_get h, Nat.zero_add, Nat.mul_one, take_one_at (i64V_get n p i hi)]
theorem stV {α : Type} {H : Heap} {id n : Nat} {p} (h : HV H id n p) (i : Nat) (b : Int) (hi : i < n) (F : Heap → Option α) : stE H id (0 + i * 1) [.int .i64 b] F = F (H.set id (.mem 2 (i64V n (uv p i b)))) := by
  unfold stE
  rw [List.getD_eq_getElem?_getD, h]
  simp only [Option.getD_some]
  rw [Nat.zero_add, Nat.mul_one, putCells_one _ _ _ (by rw [i64V_length]; exact hi)]
  congr 4
  apply List.ext_getElem?
  intro q
  rw [List.getElem?_set]
  by_cases hq : q < n
  · rw [i64V_get n p q hq, i64V_get n _ q hq]
    by_cases he : i = q
    · subst he; rw [if_pos rfl, if_pos (by rw [i64V_length]; exact hi)]; simp [uv]
    · rw [if_neg he]; simp only [uv]; rw [if_neg (fun h : q = i => he h.symm)]
  · rw [if_neg (by omega), List.getElem?_eq_none (by rw [i64V_length]; omega), List.getElem?_eq_none (by rw [i64V_length]; omega)]
theorem HV_set {H : Heap} {id n : Nat} {p q} (h : HV H id n p) : HV (H.set id (.mem 2 (i64V n q))) id n q := by
  unfold HV at *
  rw [List.getElem?_set, if_pos rfl, if_pos (List.getElem?_eq_some_iff.1 h).1]
theorem HV_other {H : Heap} {id id' n : Nat} {p b} (h : HV H id n p) (hne : id' ≠ id) : HV (H.set id' b) id n p := by
  unfold HV at *
  rw [List.getElem?_set, if_neg hne]; exact h
theorem HV_app {H G : Heap} {id n : Nat} {p} (h : HV H id n p) : HV (H ++ G) id n p := by
  unfold HV at *
  rw [List.getElem?_append_left (List.getElem?_eq_some_iff.1 h).1]; exact h
theorem set_same {H : Heap} {id : Nat} {b : Blk} (h : H[id]? = some b) : H.set id b = H := by
  apply List.ext_getElem?
  intro q
  rw [List.getElem?_set]
  by_cases he : id = q
  · subst he; rw [if_pos rfl, if_pos (List.getElem?_eq_some_iff.1 h).1, h]
  · rw [if_neg he]

theorem tk_set (H : Heap) (id : Nat) (b : Blk) : List.take (List.length H) (List.set H id b) = List.set H id b := List.take_of_length_le (by simp)
theorem ifsame {α : Type} (c : Prop) [Decidable c] (x : α) : (if c then x else x) = x := by split <;> rfl

def sw (i k x : Nat) : Nat := if x = i then k else if x = k then i else x
theorem sw_lt (i k x n : Nat) (hi : i < n) (hk : k < n) (hx : x < n) : sw i k x < n := by unfold sw; split; exact hk; split; exact hi; exact hx
theorem sw_sw (i k x : Nat) : sw i k (sw i k x) = x := by
  unfold sw
  by_cases h1 : x = i <;> by_cases h2 : x = k <;> by_cases h3 : i = k <;> simp [h1, h2, h3] <;> omega
theorem sw_same (i x : Nat) : sw i i x = x := by unfold sw; by_cases h1 : x = i <;> simp [h1]

/-- Zeros alone among some, but for the diagonal. -/
def loneP (f : Nat → Nat → Nat) (i lo hi : Nat) (col : Bool) : Prop := ∀ k, lo ≤ k → k < hi → k ≠ i → bKind (if col then f k i else f i k) = 1
noncomputable instance (f i lo hi col) : Decidable (loneP f i lo hi col) := Classical.propDecidable _
theorem loneP_step (f i lo hi col) (h : lo < hi) : loneP f i lo hi col ↔ ((lo = i ∨ bKind (if col then f lo i else f i lo) = 1) ∧ loneP f i (lo + 1) hi col) := by
  constructor
  · intro hl
    refine ⟨?_, fun k h1 h2 h3 => hl k (by omega) h2 h3⟩
    by_cases he : lo = i
    · exact .inl he
    · exact .inr (hl lo (Nat.le_refl _) h he)
  · rintro ⟨h1, h2⟩ k h3 h4 h5
    by_cases he : k = lo
    · subst he; rcases h1 with h1 | h1
      · exact absurd h1 h5
      · exact h1
    · exact h2 k (by omega) h4 h5

theorem cellsM {H : Heap} {id n : Nat} {f} (h : HM H id n n f) : cellsOfC H 1 (.sl id 0 (n * n) 1) = some (u64L (MX n n f)) := by
  have hl : (u64L (MX n n f)).length = n * n := by rw [u64L_length, MX_length]
  simp only [cellsOfC, memAt_get h]
  rw [if_pos ⟨trivial, by omega⟩, List.drop_zero, Nat.mul_one, List.take_of_length_le (by omega)]
theorem u64L_flat (L : List Nat) : (u64L L).all flatC = true := by
  rw [List.all_eq_true]
  intro x hx
  obtain ⟨b, _, rfl⟩ := List.mem_map.1 hx
  rfl
theorem copyM {α : Type} {H : Heap} {id n : Nat} {f g} (h : HM H id n n f) (n0 : Nat) (K : Int → Heap → Option α) : copyC H n0 1 (.sl id 0 (n * n) 1) (u64L (MX n n g)) K = K ((n * n : Nat) : Int) (H.set id (.mem 2 (u64L (MX n n g)))) := by
  have hl : (u64L (MX n n g)).length = n * n := by rw [u64L_length, MX_length]
  have hl2 : (u64L (MX n n f)).length = n * n := by rw [u64L_length, MX_length]
  simp only [copyC]
  rw [List.getD_eq_getElem?_getD, h]
  simp only [Option.getD_some]
  rw [if_pos ⟨trivial, by omega, by rw [u64L_flat]; rfl⟩]
  rw [hl, Nat.div_one, Nat.min_self, Nat.mul_one, List.take_of_length_le (by omega)]
  congr 4
  unfold putCells
  rw [List.take_zero, List.nil_append, List.drop_of_length_le (by omega), List.append_nil]

/-- What a scaling makes of a matrix. -/
def lvM (f : Nat → Nat → Nat) (i : Nat) (p : Int) (m : Nat) (g : Nat → Nat → Nat) : Nat → Nat → Nat := fun a b =>
  if b = i ∧ m ≤ a ∧ a ≠ i then (scaleN (f a i) p).1 else if a = i ∧ m ≤ b ∧ b ≠ i then (scaleN (f i b) (-p)).1 else g a b
def lvF (f : Nat → Nat → Nat) (n i : Nat) (p : Int) (m : Nat) : Prop := ∀ k, m ≤ k → k < n → k ≠ i → (scaleN (f k i) p).2 = 0 ∧ (scaleN (f i k) (-p)).2 = 0
theorem or_zero {a b : Nat} (h : a ||| b = 0) : a = 0 ∧ b = 0 := Nat.or_eq_zero_iff.1 h

def Keep (H H' : Heap) (a b : Nat) : Prop := H.length ≤ H'.length ∧ ∀ j, j < H.length → j ≠ a → j ≠ b → H'[j]? = H[j]?
theorem Keep.refl (H : Heap) (a b : Nat) : Keep H H a b := ⟨Nat.le_refl _, fun _ _ _ _ => rfl⟩
theorem Keep.trans {H H' H'' : Heap} {a b : Nat} (h : Keep H H' a b) (h' : Keep H' H'' a b) : Keep H H'' a b :=
  ⟨Nat.le_trans h.1 h'.1, fun j h1 h2 h3 => (h'.2 j (Nat.lt_of_lt_of_le h1 h.1) h2 h3).trans (h.2 j h1 h2 h3)⟩
theorem Keep.set {H H' : Heap} {a b : Nat} (h : Keep H H' a b) (x : Blk) : Keep H (H'.set a x) a b :=
  ⟨by rw [List.length_set]; exact h.1, fun j h1 h2 h3 => by rw [List.getElem?_set, if_neg (fun e => h2 e.symm)]; exact h.2 j h1 h2 h3⟩
theorem Keep.set' {H H' : Heap} {a b : Nat} (h : Keep H H' a b) (x : Blk) : Keep H (H'.set b x) a b :=
  ⟨by rw [List.length_set]; exact h.1, fun j h1 h2 h3 => by rw [List.getElem?_set, if_neg (fun e => h3 e.symm)]; exact h.2 j h1 h2 h3⟩
theorem Keep.app {H H' : Heap} {a b : Nat} (h : Keep H H' a b) (G : Heap) : Keep H (H' ++ G) a b :=
  ⟨by rw [List.length_append]; have := h.1; omega, fun j h1 h2 h3 => by rw [List.getElem?_append_left (Nat.lt_of_lt_of_le h1 h.1)]; exact h.2 j h1 h2 h3⟩
def LvR (f : Nat → Nat → Nat) (w : Nat → Int) (n i : Nat) (g : Nat → Nat → Nat) (w' : Nat → Int) : Prop :=
  (g = f ∧ w' = w) ∨ ∃ p : Int, -200 ≤ w i + p ∧ w i + p ≤ 200 ∧ lvF f n i p 0 ∧ g = lvM f i p 0 f ∧ w' = uv w i (w i + p)
theorem HV_bound {H : Heap} {id n : Nat} {p} (h : HV H id n p) : id < H.length := (List.getElem?_eq_some_iff.1 h).1
theorem HM_bd {H : Heap} {id r c : Nat} {p} (h : HM H id r c p) : id < H.length := (List.getElem?_eq_some_iff.1 h).1
theorem mid_le (lo q hi : Int) (h : lo ≤ hi) : lo ≤ maxN lo (minN q hi) ∧ maxN lo (minN q hi) ≤ hi := by unfold maxN minN; split <;> split at * <;> omega
end Go.Ev
end

section
set_option linter.all false
/- How a matrix is balanced: what stays true. -/
namespace Go.Ev

def Old (H0 H : Heap) : Prop := H0.length ≤ H.length ∧ ∀ j, j < H0.length → H[j]? = H0[j]?
theorem Old.set {H0 H : Heap} (h : Old H0 H) {id : Nat} (hid : H0.length ≤ id) (b : Blk) : Old H0 (H.set id b) :=
  ⟨by rw [List.length_set]; exact h.1, fun j hj => by rw [List.getElem?_set, if_neg (by omega)]; exact h.2 j hj⟩
theorem Old.keep {H0 H H' : Heap} (h : Old H0 H) {a b : Nat} (ha : H0.length ≤ a) (hb : H0.length ≤ b) (k : Keep H H' a b) : Old H0 H' :=
  ⟨Nat.le_trans h.1 k.1, fun j hj => by rw [k.2 j (Nat.lt_of_lt_of_le hj h.1) (by omega) (by omega)]; exact h.2 j hj⟩
theorem Old.app (H0 G : Heap) : Old H0 (H0 ++ G) := ⟨by simp, fun j hj => by rw [List.getElem?_append_left hj]⟩

structure Prm (σ : Nat → Nat) (n : Nat) : Prop where
  lt : ∀ x, x < n → σ x < n
  inj : ∀ x y, x < n → y < n → σ x = σ y → x = y
theorem Prm.sw {σ : Nat → Nat} {n : Nat} (h : Prm σ n) (i k : Nat) (hi : i < n) (hk : k < n) : Prm (fun x => σ (sw i k x)) n := by
  refine ⟨fun x hx => h.lt _ (sw_lt i k x n hi hk hx), fun x y hx hy he => ?_⟩
  have := h.inj _ _ (sw_lt i k x n hi hk hx) (sw_lt i k y n hi hk hy) he
  have h2 := congrArg (Go.Ev.sw i k) this
  rwa [sw_sw, sw_sw] at h2

/-- Rows and columns put apart. -/
structure Zr (g : Nat → Nat → Nat) (n lo hi : Nat) : Prop where
  le : lo ≤ hi
  bd : hi ≤ n
  row : ∀ a b, a < n → hi ≤ a → b < a → bKind (g a b) = 1
  col : ∀ a b, a < n → b < lo → b < a → bKind (g a b) = 1

theorem Zr.rowstep {g : Nat → Nat → Nat} {n hi i : Nat} (h : Zr g n 0 hi) (hi0 : i < hi) (hl : loneP g i 0 hi false) : Zr (fun a b => g (sw i (hi - 1) a) (sw i (hi - 1) b)) n 0 (hi - 1) where
  le := Nat.zero_le _
  bd := by have := h.bd; omega
  col := fun a b _ hb => by omega
  row := fun a b ha h1 h2 => by
    have hn := h.bd
    by_cases he : hi ≤ a
    · have e1 : sw i (hi - 1) a = a := by unfold sw; rw [if_neg (by omega), if_neg (by omega)]
      have e2 : sw i (hi - 1) b < a := by unfold sw; (repeat' split) <;> omega
      show bKind (g (sw i (hi - 1) a) (sw i (hi - 1) b)) = 1
      rw [e1]
      exact h.row a _ ha he e2
    · have e0 : a = hi - 1 := by omega
      subst e0
      have e1 : sw i (hi - 1) (hi - 1) = i := by unfold sw; split; omega; rw [if_pos rfl]
      show bKind (g (sw i (hi - 1) (hi - 1)) (sw i (hi - 1) b)) = 1
      rw [e1]
      have e3 : sw i (hi - 1) b ≠ i := by unfold sw; (repeat' split) <;> omega
      have e4 : sw i (hi - 1) b < hi := by unfold sw; (repeat' split) <;> omega
      exact hl _ (Nat.zero_le _) e4 e3
theorem Zr.colstep {g : Nat → Nat → Nat} {n lo hi i : Nat} (h : Zr g n lo hi) (hi0 : i < hi) (hlo : lo ≤ i) (hl : loneP g i lo hi true) : Zr (fun a b => g (sw i lo a) (sw i lo b)) n (lo + 1) hi where
  le := by omega
  bd := h.bd
  row := fun a b ha h1 h2 => by
    have hn := h.bd
    have e1 : sw i lo a = a := by unfold sw; rw [if_neg (by omega), if_neg (by omega)]
    have e2 : sw i lo b < a := by unfold sw; (repeat' split) <;> omega
    show bKind (g (sw i lo a) (sw i lo b)) = 1
    rw [e1]
    exact h.row a _ ha h1 e2
  col := fun a b ha h1 h2 => by
    have hn := h.bd
    show bKind (g (sw i lo a) (sw i lo b)) = 1
    by_cases hb : b < lo
    · have e1 : sw i lo b = b := by unfold sw; rw [if_neg (by omega), if_neg (by omega)]
      have e2 : b < sw i lo a := by unfold sw; (repeat' split) <;> omega
      have e3 : sw i lo a < n := by unfold sw; (repeat' split) <;> omega
      rw [e1]
      exact h.col _ b e3 hb e2
    · have e0 : b = lo := by omega
      subst e0
      have e1 : sw i b b = i := by unfold sw; split; omega; rw [if_pos rfl]
      rw [e1]
      by_cases hc : a < hi
      · have e2 : sw i b a ≠ i := by unfold sw; (repeat' split) <;> omega
        have e3 : b ≤ sw i b a := by unfold sw; (repeat' split) <;> omega
        have e4 : sw i b a < hi := by unfold sw; (repeat' split) <;> omega
        exact hl _ e3 e4 e2
      · have e2 : sw i b a = a := by unfold sw; rw [if_neg (by omega), if_neg (by omega)]
        rw [e2]
        exact h.row a i ha (by omega) (by omega)
def NoRow (g : Nat → Nat → Nat) (lo hi : Nat) : Prop := ∀ i, lo ≤ i → i < hi → ¬ loneP g i lo hi false
def NoCol (g : Nat → Nat → Nat) (lo hi : Nat) : Prop := ∀ i, lo ≤ i → i < hi → ¬ loneP g i lo hi true
theorem NoRow.step {g : Nat → Nat → Nat} {hi i k : Nat} (h : NoRow g 0 hi) (hi0 : i < hi) (hk : k < hi) : NoRow (fun a b => g (sw i k a) (sw i k b)) 0 hi := by
  intro a _ ha hl
  refine h (sw i k a) (Nat.zero_le _) (sw_lt i k a hi hi0 hk ha) fun b _ hb hne => ?_
  have := hl (sw i k b) (Nat.zero_le _) (sw_lt i k b hi hi0 hk hb) (fun e => hne (by rw [← e, sw_sw]))
  simp only [sw_sw] at this
  exact this
theorem NoRow.cut {g : Nat → Nat → Nat} {n lo hi : Nat} (h : NoRow g 0 hi) (hz : Zr g n lo hi) : NoRow g lo hi := by
  intro i h1 h2 hl
  refine h i (Nat.zero_le _) h2 fun b _ hb hne => ?_
  by_cases hc : b < lo
  · exact hz.col i b (Nat.lt_of_lt_of_le h2 hz.bd) hc (by omega)
  · exact hl b (by omega) hb hne

/-- Zeros stay zeros, and what is none stays none. -/
def SameZ (n : Nat) (g g' : Nat → Nat → Nat) : Prop := ∀ a b, a < n → b < n → (bKind (g' a b) = 1 ↔ bKind (g a b) = 1)
theorem SameZ.lone {n : Nat} {g g' : Nat → Nat → Nat} (h : SameZ n g g') {i lo hi : Nat} (col : Bool) (hi0 : i < n) (hn : hi ≤ n) : loneP g' i lo hi col → loneP g i lo hi col := by
  intro hl k h1 h2 h3
  have := hl k h1 h2 h3
  cases col
  · exact (h i k hi0 (by omega)).1 this
  · exact (h k i (by omega) hi0).1 this
theorem SameZ.zr {n : Nat} {g g' : Nat → Nat → Nat} (h : SameZ n g g') {lo hi : Nat} (hz : Zr g n lo hi) : Zr g' n lo hi where
  le := hz.le
  bd := hz.bd
  row := fun a b ha h1 h2 => (h a b ha (by omega)).2 (hz.row a b ha h1 h2)
  col := fun a b ha h1 h2 => (h a b ha (by omega)).2 (hz.col a b ha h1 h2)

/-- A number scaled again and again, and nothing lost. -/
inductive ScR (x : Nat) : Nat → Int → Prop
  | refl : ScR x x 0
  | step {y : Nat} {q : Int} (p : Int) (hp : -400 ≤ p ∧ p ≤ 400) : ScR x y q → (scaleN y p).2 = 0 → ScR x (scaleN y p).1 (q + p)
theorem ScR.lt {x y : Nat} {q : Int} (h : ScR x y q) (hx : x < 18446744073709551616) : y < 18446744073709551616 := by
  induction h with
  | refl => exact hx
  | step p hp h hf ih => exact (scaleN_lt _ p ih).1
end Go.Ev
end

section
set_option linter.all false
/- Scaling without flags keeps what is none, and what is some. -/
namespace Go.Ev

theorem bExp_make (neg : Bool) (e f : Nat) (he : e < 2048) (hf : f < 4503599627370496) : bExp (bMake neg e f) = e := by unfold bExp bMake; cases neg <;> simp <;> omega
theorem bFrac_make (neg : Bool) (e f : Nat) (he : e < 2048) (hf : f < 4503599627370496) : bFrac (bMake neg e f) = f := by unfold bFrac bMake; cases neg <;> simp <;> omega
theorem bNeg_make (neg : Bool) (e f : Nat) (he : e < 2048) (hf : f < 4503599627370496) : bNeg (bMake neg e f) = neg := by unfold bNeg bMake; cases neg <;> simp <;> omega
theorem kind_one (b : Nat) : bKind b = 1 ↔ (bExp b = 0 ∧ bFrac b = 0) := by
  unfold bKind
  by_cases h1 : bExp b = 0 <;> by_cases h2 : bFrac b = 0 <;> by_cases h3 : bExp b < 2047 <;> simp [h1, h2, h3]
theorem rEnd_nz (neg : Bool) (x : Int) (m f : Nat) (hm : m ≠ 0) (hx : -1074 ≤ x) (hf : (rEnd neg x m f).2 = 0) : f = 0 ∧ bKind (rEnd neg x m f).1 ≠ 1 := by
  unfold rEnd at *
  by_cases h1 : m < 4503599627370496
  · rw [if_pos h1] at hf ⊢
    refine ⟨hf, fun h => ?_⟩
    have := ((kind_one _).1 h).2
    rw [bFrac_make _ _ _ (by decide) h1] at this
    exact hm this
  · rw [if_neg h1] at hf ⊢
    by_cases h2 : x + 1075 ≥ 2047
    · rw [if_pos h2] at hf
      exact absurd (or_zero hf).2 (by decide)
    · rw [if_neg h2] at hf ⊢
      refine ⟨hf, fun h => ?_⟩
      have := ((kind_one _).1 h).1
      rw [bExp_make _ _ _ (by omega) (bFrac_lt _)] at this
      omega
theorem rMid_nz (neg : Bool) (x : Int) (m : Nat) (lost tiny : Bool) (hm : m ≠ 0) (hx : -1074 ≤ x) (hf : (rMid neg x m lost tiny).2 = 0) : lost = false ∧ bKind (rMid neg x m lost tiny).1 ≠ 1 := by
  unfold rMid at *
  have hfl : rFl lost tiny = 0 → lost = false := by cases lost <;> cases tiny <;> decide
  by_cases h : m = 9007199254740992
  · rw [if_pos h] at hf ⊢
    have := rEnd_nz _ _ _ _ (by decide) (by omega) hf
    exact ⟨hfl this.1, this.2⟩
  · rw [if_neg h] at hf ⊢
    have := rEnd_nz _ _ _ _ hm hx hf
    exact ⟨hfl this.1, this.2⟩
theorem rMid_fl (neg : Bool) (x : Int) (m : Nat) (lost tiny : Bool) (hf : (rMid neg x m lost tiny).2 = 0) : lost = false := by
  have hfl : rFl lost tiny = 0 → lost = false := by cases lost <;> cases tiny <;> decide
  unfold rMid rEnd at hf
  apply hfl
  split at hf
  · split at hf
    · exact hf
    · split at hf
      · exact (or_zero (or_zero hf).1).1
      · exact hf
  · split at hf
    · exact hf
    · split at hf
      · exact (or_zero (or_zero hf).1).1
      · exact hf
/-- Nothing fell out. -/
theorem no_loss (W n : Nat) (hn : 0 < n) (h1 : rHalf W n = false) (h2 : rFell W n = false) : W = W / 2 ^ n * 2 ^ n := by
  unfold rHalf at h1
  unfold rFell at h2
  have h1 := of_decide_eq_false h1
  have h2 := of_decide_eq_false h2
  obtain ⟨k, rfl⟩ : ∃ k, n = k + 1 := ⟨n - 1, by omega⟩
  rw [Nat.add_sub_cancel] at h1 h2
  have h3 : W % 2 ^ k = 0 := by omega
  have h4 := Nat.div_add_mod W (2 ^ k)
  have h5 : W / 2 ^ (k + 1) = W / 2 ^ k / 2 := by rw [Nat.pow_succ, Nat.div_div_eq_div_mul]
  have h6 : W / 2 ^ k = W / 2 ^ k / 2 * 2 := by omega
  rw [h5, Nat.pow_succ]
  calc W = 2 ^ k * (W / 2 ^ k) := by omega
    _ = 2 ^ k * (W / 2 ^ k / 2 * 2) := by rw [← h6]
    _ = W / 2 ^ k / 2 * (2 ^ k * 2) := by rw [Nat.mul_comm (2 ^ k), Nat.mul_assoc, Nat.mul_comm 2 (2 ^ k)]
theorem roundN_nz (neg : Bool) (W : Nat) (e : Int) (hW : W ≠ 0) (hf : (roundN neg W e false).2 = 0) : bKind (roundN neg W e false).1 ≠ 1 := by
  unfold roundN at *
  rw [if_neg hW] at hf ⊢
  simp only at hf ⊢
  have hx := rDrop_ge W (clampE e)
  generalize hd : rDrop W (clampE e) = drop at *
  by_cases h1 : drop > 0
  · rw [if_pos h1] at hf ⊢
    have hl := rMid_fl _ _ _ _ _ hf
    simp only [Bool.or_false, Bool.or_eq_false_iff] at hl
    have hw := no_loss W drop.toNat (by omega) hl.1 hl.2
    have hup : rUp W drop.toNat false ≠ 0 := by
      unfold rUp
      rw [hl.1]
      simp only [Bool.false_and, Bool.false_eq_true, if_false]
      intro h0
      rw [h0, Nat.zero_mul] at hw
      exact hW hw
    exact (rMid_nz _ _ _ _ _ hup hx.1 hf).2
  · rw [if_neg h1] at hf ⊢
    have hm : W * 2 ^ (-drop).toNat ≠ 0 := Nat.mul_ne_zero hW (Nat.ne_of_gt (Nat.two_pow_pos _))
    exact (rMid_nz _ _ _ _ _ hm hx.1 hf).2
theorem bMan_nz (b : Nat) (h5 : bKind b ≠ 5) (h4 : bKind b ≠ 4) (h1 : bKind b ≠ 1) : bMan b ≠ 0 := by
  have hk := kind_le b
  unfold bMan
  by_cases h2 : bKind b = 2
  · rw [if_pos h2]
    intro h0
    have : bExp b = 0 := by
      unfold bKind at h2
      by_cases he : bExp b = 0
      · exact he
      · rw [if_neg he] at h2
        split at h2 <;> (try split at h2) <;> omega
    exact h1 ((kind_one b).2 ⟨this, h0⟩)
  · rw [if_neg h2, if_pos (by omega)]; omega
theorem scaleN_kind (a : Nat) (p : Int) (hf : (scaleN a p).2 = 0) : bKind (scaleN a p).1 = 1 ↔ bKind a = 1 := by
  unfold scaleN at *
  by_cases h5 : bKind a = 5
  · rw [if_pos h5]
    constructor
    · intro h; exact absurd (show bKind bQuiet = 1 from h) (by decide)
    · intro h; omega
  · rw [if_neg h5] at hf ⊢
    by_cases h4 : bKind a = 4
    · rw [if_pos h4]
    · rw [if_neg h4] at hf ⊢
      by_cases h1 : bKind a = 1
      · rw [if_pos h1]
      · rw [if_neg h1] at hf ⊢
        constructor
        · intro h; exact absurd h (roundN_nz _ _ _ (bMan_nz a h5 h4 h1) hf)
        · intro h; exact absurd h h1
theorem scaleN_bd (a : Nat) (p : Int) (ha : a < 18446744073709551616) : (scaleN a p).1 < 18446744073709551616 := (scaleN_lt a p ha).1
theorem lvM_sameZ (n i : Nat) (f : Nat → Nat → Nat) (p : Int) (h : lvF f n i p 0) : SameZ n f (lvM f i p 0 f) := by
  intro a b ha hb
  unfold lvM
  by_cases h1 : b = i ∧ 0 ≤ a ∧ a ≠ i
  · rw [if_pos h1]
    obtain ⟨rfl, _, h3⟩ := h1
    exact scaleN_kind _ _ (h a (Nat.zero_le _) ha h3).1
  · rw [if_neg h1]
    by_cases h2 : a = i ∧ 0 ≤ b ∧ b ≠ i
    · rw [if_pos h2]
      obtain ⟨rfl, _, h3⟩ := h2
      exact scaleN_kind _ _ (h b (Nat.zero_le _) hb h3).2
    · rw [if_neg h2]
end Go.Ev
end

section
set_option linter.all false
/- Plain laws for the statements of layer 16. -/
namespace Go.Ev

theorem wf_u64 {n : Int} (h : (Lit.int .u64 n).wf = true) : ∃ m : Nat, n = m ∧ m < 18446744073709551616 := by
  have : 0 ≤ n ∧ n < 18446744073709551616 := by
    have e1 : IntKind.u64.min = 0 := by decide
    have e2 : IntKind.u64.max = 18446744073709551615 := by decide
    simp [Lit.wf, e1, e2] at h
    omega
  exact ⟨n.toNat, by omega, by omega⟩
theorem and7 (a : Int) : ∃ n : Nat, n ≤ 7 ∧ bitI .and .i64 a 7 = (n : Int) := by
  refine ⟨(BitVec.ofInt 64 a).toNat &&& 7, ?_, ?_⟩
  · exact Nat.le_of_lt_succ (Nat.and_lt_two_pow (n := 3) _ (by decide))
  · have hlt : (BitVec.ofInt 64 a).toNat &&& 7 < 2 ^ 3 := Nat.and_lt_two_pow _ (by decide)
    show IntKind.wrap .i64 (((BitVec.ofInt 64 a &&& BitVec.ofInt 64 7).toNat : Nat) : Int) = _
    rw [BitVec.toNat_and, show (BitVec.ofInt 64 7).toNat = 7 from rfl]
    exact wrap_i64 _ (by omega) (by omega)
theorem abs_zero (b : Nat) : bAbs b = 0 ↔ bKind b = 1 := by
  rw [kind_one]
  unfold bAbs bExp bFrac
  omega
end Go.Ev
end
