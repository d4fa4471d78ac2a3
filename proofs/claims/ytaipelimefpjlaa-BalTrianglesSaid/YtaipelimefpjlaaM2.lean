/- Proof texts, put together. -/
import Derived.Scope
import Derived.Orders
import Derived.Test.YtaipelimefpjlaaM1
section
set_option linter.all false
/- Operations that touch memory, but calls. -/
namespace Go.Ev
variable {P : Program} {tab : Nat → Option TI} {gd : Nat → List C} {B : Nat → Nat} {vs : List Nat} {m m' : Nm} {s s' : St} {a : Act} {w w' : World} {v : V} {rd wr : List Root} {n : Nat} {f : List V}

theorem storeV_fr {cx : Option Cx} {t : Nat} {p : Ptr} {xs : List C} (hs : storeV tab s cx t p xs pair2 = some (s', wr)) : storeV tab { s with fr := f } cx t p xs pair2 = some ({ s' with fr := f }, wr) ∧ s'.fr = s.fr ∧ s'.n0 = s.n0 := by
  unfold storeV at hs ⊢
  split at hs
  · rename_i hc
    rw [if_pos hc]
    cases p with
    | loc b off =>
      simp only at hs ⊢
      split at hs
      · skip
        split at hs
        · rename_i hl
          simp only [pair2, Option.some.injEq, Prod.mk.injEq] at hs
          obtain ⟨rfl, rfl⟩ := hs
          rw [if_pos hl]
          exact ⟨rfl, rfl, rfl⟩
        · cases hs
      · cases hs
    | ref j off =>
      simp only at hs ⊢
      split at hs
      · skip
        split at hs
        · rename_i hl
          simp only [pair2, Option.some.injEq, Prod.mk.injEq] at hs
          obtain ⟨rfl, rfl⟩ := hs
          rw [if_pos hl]
          exact ⟨rfl, rfl, rfl⟩
        · cases hs
      · cases hs
    | elt id i k =>
      simp only at hs ⊢
      split at hs
      · skip
        split at hs
        · rename_i hl
          rw [if_pos hl]
          cases hfl : (xs.all flatC || decide (s.n0 ≤ id)) with
          | false => rw [hfl] at hs; cases hs
          | true =>
            rw [hfl, cond_true] at hs
            simp only [pair2, Option.some.injEq, Prod.mk.injEq] at hs
            obtain ⟨rfl, rfl⟩ := hs
            exact ⟨rfl, rfl, rfl⟩
        · cases hs
      · cases hs
    | glob g off => cases hs
    | nil => cases hs
  · cases hs

/-- What stands behind a step, wherever it has been taken. -/
structure Aft (gd : Nat → List C) (B : Nat → Nat) (vs : List Nat) (m : Nm) (s : St) (a : Act) (w : World) (s' : St) (m' : Nm) (w' : World) : Prop where
  rel : SRel gd B vs m' s' a w'
  kept : ∀ m0 w0, Kept m0 s.n0 w0 m w → Kept m0 s.n0 w0 m' w'
  le : m.Le s.H.length m'
  len : s.H.length ≤ s'.H.length
  same : ∀ g, g < w.heap.size → m.own g = .none → w'.heap[g]? = w.heap[g]? ∧ m'.own g = .none
  dead : ∀ id b, s.H[id]? = some b → b.still = true → s'.H[id]? = some b ∧ m'.hp id = m.hp id
  ro : ∀ (id : Nat) (cs : List C), s'.H[id]? = some (.mem 0 cs) → s.H[id]? = some (.mem 0 cs)
  size : w.heap.size ≤ w'.heap.size
  n0 : s'.n0 = s.n0
  fr : s'.fr = s.fr

theorem After.aft {H' : Heap} (h : After gd B vs m s a w H' m' w') : Aft gd B vs m s a w { s with H := H' } m' w' := ⟨h.rel, h.kept, h.le, h.len, h.same, h.dead, h.ro, h.size, rfl, rfl⟩
theorem Aft.refl (h : SRel gd B vs m s a w) : Aft gd B vs m s a w s m w := (After.refl h).aft

theorem upd_aft {g : Nat} {o : Obj} (u : Upd w g o w') (hg : m.own g ≠ .none) (hr : SRel gd B vs m s' a w') (hH : s'.H = s.H) (hn : s'.n0 = s.n0) (hf : s'.fr = s.fr) : Aft gd B vs m s a w s' m w' :=
  ⟨hr, fun m0 w0 hk => hk.trans_upd u hg, ⟨rfl, rfl, fun _ _ _ h => h⟩, by rw [hH]; exact Nat.le_refl _, fun k _ h0 => ⟨u.other k (by rintro rfl; exact hg h0), h0⟩, fun id b h _ => ⟨by rw [hH]; exact h, rfl⟩, fun id cs h => (by rw [hH] at h; exact h), u.chg.le, hn, hf⟩

theorem store_aft (hT : TabOk P tab) (h : SRel gd B vs m s a w) {cx : Option Cx} {t : Nat} {p : Ptr} {xs : List C} {x y : Value} {zs : List Value} (hs : storeV tab s cx t p xs pair2 = some (s', wr))
    (hp : PR m s.H.length p x) (hc : All2 (CR m.hp s.H.length) xs zs) (hy : y.cells = zs.toArray) (hvs : ∀ b off, p = .loc b off → b ∉ vs) :
    (∃ w' m', (Instr.storeAt t x y).run P w = .ok () w' ∧ Aft gd B vs m s a w s' m' w') ∧ (lkOf cx = true → Grows s.H s'.H) := by
  unfold storeV at hs
  split at hs
  · rename_i hsz
    obtain ⟨hsz, hne⟩ := hsz
    have hone : ∀ z ∈ zs, z.oneCell' = true := by
      intro z hz
      obtain ⟨i, hi⟩ := List.getElem?_of_mem hz
      obtain ⟨c, _, hr⟩ := hc.getR i z hi
      exact hr.oneCell
    have hlx := hc.length
    cases ht : tab t with
    | none => simp [sizeT, ht] at hsz; exact absurd hsz (by intro e; exact hne (by simp [e]))
    | some ti =>
      have hok := hT t ti ht
      rw [sizeT_of ht] at hsz
      have hnt := hok.not_tup (by omega)
      have hzl : zs.length = ti.zero.length := by rw [← hc.length, hsz]
      cases p with
      | nil => cases hs
      | glob g off => cases hs
      | loc b off =>
        simp only at hs
        split at hs
        · rename_i ty cs hb
          split at hs
          · rename_i hle
            simp only [pair2, Option.some.injEq, Prod.mk.injEq] at hs
            obtain ⟨rfl, -⟩ := hs
            have hb' : s.L[b]? = some (some (ty, cs)) := by
              rw [List.getD_eq_getElem?_getD] at hb
              cases hg : s.L[b]? with
              | none => rw [hg] at hb; cases hb
              | some z => rw [hg] at hb; simp at hb; rw [hb]
            obtain ⟨⟨us, ty', hx, hcu⟩, ho⟩ := h.box b ty cs hb' (hvs b off rfl)
            have hlen := hcu.length
            obtain ⟨w', hr, u⟩ := run_stores P (m.lb b) ty' zs w off 0 us hx (by rw [← hc.length]; omega) hone
            refine ⟨⟨w', m, ?_, upd_aft u (by rw [ho]; simp) (h.setBox hb' (hvs b off rfl) hcu hc (by simpa using u)) rfl rfl rfl⟩, fun _ => Grows.refl _⟩
            rw [show x = .pointer (some ⟨m.lb b, off, none⟩) from hp]
            exact storeAt_run hok hnt hy hzl hr
          · cases hs
        · cases hs
      | ref j off =>
        simp only at hs
        split at hs
        · rename_i ty cs hb
          split at hs
          · rename_i hle
            simp only [pair2, Option.some.injEq, Prod.mk.injEq] at hs
            obtain ⟨rfl, -⟩ := hs
            obtain ⟨⟨us, ty', hx, hcu⟩, ho⟩ := h.ref j ty cs hb
            have hlen := hcu.length
            obtain ⟨w', hr, u⟩ := run_stores P (m.rf j) ty' zs w off 0 us hx (by rw [← hc.length]; omega) hone
            refine ⟨⟨w', m, ?_, upd_aft u (by rw [ho]; simp) (h.setRef hb hcu hc (by simpa using u)) rfl rfl rfl⟩, fun _ => Grows.refl _⟩
            rw [show x = .pointer (some ⟨m.rf j, off, none⟩) from hp]
            exact storeAt_run hok hnt hy hzl hr
          · cases hs
        · cases hs
      | elt id i k =>
        simp only at hs
        split at hs
        · rename_i cs hb
          split at hs
          · rename_i hle
            cases hfl : (xs.all flatC || decide (s.n0 ≤ id)) with
            | false => rw [hfl] at hs; cases hs
            | true =>
              rw [hfl, cond_true] at hs
              simp only [pair2, Option.some.injEq, Prod.mk.injEq] at hs
              obtain ⟨rfl, -⟩ := hs
              obtain ⟨hid, c, hcm, hx, hik⟩ := hp
              have hb' := getD_get hb
              obtain ⟨q1, q2, ys, ty', fz, q3, q4, q5, q6⟩ := h.heap.cells id 2 cs hb' c hcm
              obtain ⟨q7, q8⟩ := q6 (by omega)
              subst q8
              have hle' : i + zs.length ≤ ys.toList.length := by rw [← hc.length]; simp; omega
              obtain ⟨w', hr, u⟩ := run_stores P c.g ty' zs w i 0 ys.toList (by simpa using q3) (by simpa using hle') hone
              simp only [Nat.add_zero] at u
              refine ⟨⟨w', _, ?_, (setElt_rel h hb' hcm (by omega) hne hfl hc q3 u hle').aft⟩, fun hlk => absurd hlk (by rw [hle.2]; simp)⟩
              rw [hx, q7]
              refine storeAt_run hok hnt hy hzl ?_
              rw [Nat.zero_add]
              exact hr
          · cases hs
        · cases hs
  · cases hs

theorem newMap_rel (h : SRel gd B vs m s a w) : ∃ m', After gd B vs m s a w (s.H ++ [Blk.map []]) m' (w.alloc (.map #[] 0)) ∧ (⟨w.heap.size, 0, 0, 0⟩ : Cp) ∈ m'.hp s.H.length := by
  have u := New.alloc w (.map #[] 0)
  refine ⟨m.heap s.H.length w.heap.size [⟨w.heap.size, 0, 0, 0⟩], ⟨?_, fun m0 w0 hk => hk.chg u.chg (.inr (Nat.le_refl _)) (fun hlt => by have := h.n0; omega), Nm.heap_le fun hlt => by omega, by simp, fun k hk h0 => same_chg u.chg (.inr (Nat.le_refl _)) k hk h0, fun k b hk _ => ?_, ro_push (by simp), u.chg.le⟩, by simp [Nm.heap]⟩
  · refine h.turnMap (id := s.H.length) (es := []) u.chg (.inr ⟨Nat.le_refl _, fun c _ hlt => by omega⟩) (fun hlt => by omega) (by simp) (fun k hk hke => ?_) (by simp) (by simp) fun c hc => ?_
    · simp at hk
      refine ⟨by omega, ?_⟩
      rw [List.getElem?_append_left (by omega)]
    · simp only [List.mem_singleton] at hc
      subst hc
      exact ⟨⟨[], 0, u.at_, rfl⟩, by simp [Nm.heap]⟩
  · have hlt := (List.getElem?_eq_some_iff.1 hk).1
    exact ⟨by rw [List.getElem?_append_left hlt]; exact hk, by simp only [Nm.heap]; rw [if_neg (by omega)]⟩

def memB (cx : Option Cx) (o : Oper) : Bool :=
  match o.op with
  | .load _ _ | .store _ _ _ | .lookup _ _ _ _ | .mapUpdate _ _ _ _ | .buildSlice _ _ _ => true
  | .makeSlice _ _ _ | .makeMap _ _ => cx.isNone
  | .call c => (match c.callee with | .builtin b => (match b with | .append | .copy => true | _ => false) | _ => false)
  | _ => false

/-- What an operation has handed over. -/
def Gives (r : Next) (x : Value) : Prop := r = .value x ∨ (r = .skip ∧ x = undef)

theorem mem_run (hT : TabOk P tab) {call : Nat → List V → List Box → Heap → Option Res} {cx : Option Cx} {o : Oper} (hk : memB cx o = true) (h : SRel gd B vs m { s with fr := f } a w)
    (hf : ∀ x ∈ o.op.operands.toList, VR m s.H.length (opnd s.fr x) (a.eval x)) (hvs : ∀ x ∈ o.op.operands.toList, ∀ b off, opnd s.fr x = .ptr (.loc b off) → b ∉ vs)
    (hH : ∀ c, cx = some c → Grows c.H0 s.H)
    (hact : act tab gd call cx o s quad = some (v, s', rd, wr)) :
    ∃ r x w' m', (execOp a.eval o).run P w = .ok r w' ∧ Gives r x ∧ VR m' s'.H.length v x ∧ Aft gd B vs m { s with fr := f } a w { s' with fr := f } m' w' ∧ (lkOf cx = true → Grows s.H s'.H) ∧ s'.fr = s.fr := by
  unfold memB at hk
  unfold act at hact
  split at hact
  case h_8 =>
    rename_i t x e
    rw [e] at hf hvs
    split at hact
    · rename_i p hp
      rw [loadV_bind] at hact
      cases hl : loadV tab gd s cx t p pair2 with
      | none => rw [hl] at hact; cases hact
      | some r =>
        obtain ⟨v1, rd1⟩ := r
        rw [hl] at hact
        injection hact with hact
        injection hact with h1 h2
        injection h2 with h2 h3
        subst h1
        subst h2
        have hx := hf x (by simp [Op.operands])
        rw [hp] at hx
        obtain ⟨y, hy, hv⟩ := load_run (P := P) (s := { s with fr := f }) hT h (cx := cx) hl hx (fun b off hb => hvs x (by simp [Op.operands]) b off (by rw [hp, hb])) (fun c hc => (hH c hc).1)
        exact ⟨_, y, w, m, val_run hy (by simp only [execOp, e]), .inl rfl, hv, Aft.refl h, fun _ => Grows.refl _, rfl⟩
    · cases hact
  case h_9 =>
    rename_i t x y e
    rw [e] at hf hvs
    split at hact
    · rename_i p xs hp hc
      rw [storeV_bind] at hact
      cases hl : storeV tab s cx t p xs pair2 with
      | none => rw [hl] at hact; cases hact
      | some r =>
        obtain ⟨s1, wr1⟩ := r
        rw [hl] at hact
        injection hact with hact
        injection hact with h1 h2
        injection h2 with h2 h3
        subst h1
        subst h2
        obtain ⟨k1, k2, k3⟩ := storeV_fr (f := f) hl
        have hx := hf x (by simp [Op.operands])
        rw [hp] at hx
        obtain ⟨zs, z1, z2⟩ := cells_rel (hf y (by simp [Op.operands])) hc
        obtain ⟨⟨w', m', hr, hA⟩, hg⟩ := store_aft (P := P) hT h k1 hx z2 z1 (fun b off hb => hvs x (by simp [Op.operands]) b off (by rw [hp, hb]))
        exact ⟨.skip, undef, w', m', by simp [execOp, e, hr], .inr ⟨rfl, rfl⟩, ⟨[], rfl, .nil⟩, hA, hg, k2⟩
    · cases hact
  case h_7 =>
    rename_i t len ps e
    rw [e] at hf hvs
    split at hact
    · rename_i el z b sh q qs ht hq
      split at hact
      · rename_i ti hte
        split at hact
        · rename_i cs hc
          split at hact
          · rename_i hb
            injection hact with hact
            injection hact with h1 h2
            injection h2 with h2 h3
            subst h1
            subst h2
            have hp := parts_rel (m := m) (n := s.H.length) (ρ := a.eval) ps.toList qs (fun p hp => hf p.2 (by simp [Op.operands]; exact ⟨p.1, by simpa using hp⟩)) hq
            obtain ⟨x, w', m', hr, hA, hv⟩ := buildSlice_run (P := P) hT h ht hte hp hc hb
            refine ⟨_, x, w', m', val_run hr ?_, .inl rfl, hv, hA.aft, fun _ => Grows.push _ _, rfl⟩
            simp only [execOp, e]
            congr 2
            apply Array.toList_inj.1
            simp
          · cases hact
        · cases hact
      · cases hact
    · cases hact
  case h_14 =>
    rename_i t l c e
    rw [e] at hf hk
    have hcx : cx = none := by cases cx with | none => rfl | some c => cases hk
    subst hcx
    split at hact
    · rename_i el z b sh q k1 i1 k2 i2 ht hl hc
      split at hact
      · rename_i ti hte
        have hl' := hf l (by simp [Op.operands])
        have hc' := hf c (by simp [Op.operands])
        rw [hl] at hl'
        rw [hc] at hc'
        have hl2 : a.eval l = .int k1 i1 := hl'
        have hc2 : a.eval c = .int k2 i2 := hc'
        unfold makeV at hact
        cases hb : (decide (0 ≤ i1) && decide (i1 ≤ i2) && decide (i2 ≤ 2 ^ 40) && decide (i2 * ti.bytes ≤ 2 ^ 40) && !ti.zero.isEmpty) with
        | false => rw [hb] at hact; cases hact
        | true =>
          rw [hb, cond_true] at hact
          injection hact with hact
          injection hact with h1 h2
          injection h2 with h2 h3
          subst h1
          subst h2
          obtain ⟨x, w', m', hr, hA, hv⟩ := makeD_run (P := P) (k := k1) (k' := k2) hT h ht hte hb
          rw [← hl2, ← hc2] at hr
          exact ⟨_, x, w', m', val_run hr (by simp only [execOp, e]), .inl rfl, hv, hA.aft, fun _ => Grows.push _ _, rfl⟩
      · cases hact
    · cases hact
  case h_23 =>
    rename_i t x i ok e
    rw [e] at hf
    split at hact
    · rename_i id k hm hx hi
      split at hact
      · rename_i es hes
        split at hact
        · injection hact with hact
          injection hact with h1 h2
          injection h2 with h2 h3
          subst h1
          subst h2
          have hx' := hf x (by simp [Op.operands])
          have hi' := hf i (by simp [Op.operands])
          rw [hx] at hx'
          rw [hi] at hi'
          have hi2 : a.eval i = .int .i64 k := hi'
          have hes' : s.H[id]? = some (.map es) := by
            have h0 : (rdHeap s cx)[id]? = some (.map es) := by
              rw [List.getD_eq_getElem?_getD] at hes
              cases hg : (rdHeap s cx)[id]? with
              | none => rw [hg] at hes; cases hes
              | some z => rw [hg] at hes; simp at hes; rw [hes]
            cases cx with
            | none => exact h0
            | some c => exact (hH c rfl).2 id es h0
          have hr := lookup_run (P := P) (k := k) hT h hm hx' hes'
          rw [← hi2] at hr
          exact ⟨_, _, w, m, val_run hr (by simp only [execOp, e]), .inl rfl, rfl, Aft.refl h, fun _ => Grows.refl _, rfl⟩
        · cases hact
      · cases hact
    · cases hact
  case h_24 =>
    rename_i t mm k x e
    rw [e] at hf
    split at hact
    · rename_i id kk b hm hx hi hb
      split at hact
      · rename_i es hes
        split at hact
        · cases hact
        · rename_i hlk
          injection hact with hact
          injection hact with h1 h2
          injection h2 with h2 h3
          subst h1
          subst h2
          have hx' := hf mm (by simp [Op.operands])
          have hi' := hf k (by simp [Op.operands])
          have hb' := hf x (by simp [Op.operands])
          rw [hx] at hx'
          rw [hi] at hi'
          rw [hb] at hb'
          have hi2 : a.eval k = .int .i64 kk := hi'
          have hb2 : a.eval x = .bool b := hb'
          have hes' : s.H[id]? = some (.map es) := by
            rw [List.getD_eq_getElem?_getD] at hes
            cases hg : s.H[id]? with
            | none => rw [hg] at hes; cases hes
            | some z => rw [hg] at hes; simp at hes; rw [hes]
          obtain ⟨w', m', hr, hA⟩ := update_run (P := P) (b := b) hT h hm hx' hes'
          rw [← hi2, ← hb2] at hr
          exact ⟨.skip, undef, w', m', by simp [execOp, e, hr], .inr ⟨rfl, rfl⟩, ⟨[], rfl, .nil⟩, hA.aft, fun hl => absurd hl hlk, rfl⟩
      · cases hact
    · cases hact
  case h_25 =>
    rename_i c e
    rw [e] at hk hf hvs
    simp only at hk
    split at hact
    · rename_i b hb
      rw [hb] at hk
      have hargs : ∀ x ∈ c.args.toList, VR m s.H.length (opnd s.fr x) (a.eval x) := fun x hx => hf x (by simp [Op.operands, Call.operands, hb] at hx ⊢; exact hx)
      have hall : All2 (VR m s.H.length) (c.args.toList.map (opnd s.fr)) (c.args.toList.map a.eval) := by
        refine All2.of_get (by simp) fun i p q hp hq => ?_
        simp only [List.getElem?_map] at hp hq
        cases hg : c.args.toList[i]? with
        | none => rw [hg] at hp; cases hp
        | some x =>
          rw [hg] at hp hq
          simp only [Option.map_some, Option.some.injEq] at hp hq
          subst hp
          subst hq
          exact hargs x (List.mem_of_getElem? hg)
      have hmap : (c.args.map a.eval).toList = c.args.toList.map a.eval := by simp
      obtain ⟨kn, hex⟩ := builtin_exec (P := P) (w := w) (ρ := a.eval) e hb
      unfold builtinV at hact
      generalize c.args.toList.map (opnd s.fr) = us at hact hall
      generalize c.args.toList.map a.eval = ys at hall hmap
      split at hact
      · cases hk
      · cases hk
      · cases hk
      · rename_i x y
        cases hall with
        | cons g1 g2 =>
          cases g2 with
          | cons g2 g3 =>
            cases g3
            rename_i u1 u2
            have ha : (c.args.map a.eval) = #[u1, u2] := by apply Array.toList_inj.1; rw [hmap]
            split at hact
            · rename_i el z b1 sh q el2 z2 b2 sh2 q2 t0 t1
              cases h0 : c.argTypes[0]? with
              | none => rw [h0] at t0; cases t0
              | some ty0 =>
                cases h1 : c.argTypes[1]? with
                | none => rw [h1] at t1; cases t1
                | some ty1 =>
                  rw [h0] at t0
                  rw [h1] at t1
                  have v0 := (hT _ _ (show tab ty0 = _ from t0)).under
                  have v1 := (hT _ _ (show tab ty1 = _ from t1)).under
                  simp only [UnderOk] at v0 v1
                  split at hact
                  · rename_i ti hte
                    split at hact
                    · rename_i xs hxs
                      split at hact
                      · cases hact
                      · rename_i hz
                        rw [appendC_bind] at hact
                        cases hl : appendC s.H s.n0 ti.zero.length ti.bytes x xs pair2 with
                        | none => rw [hl] at hact; cases hact
                        | some r =>
                          obtain ⟨d, H'⟩ := r
                          rw [hl] at hact
                          injection hact with hact
                          injection hact with e1 e2
                          injection e2 with e2 e3
                          subst e1
                          subst e2
                          obtain ⟨zv, w', m', hr, hA, hv, hg⟩ := append_run (P := P) (ty := o.type) hT h h0 h1 v0 v1 hte hz g1 g2 hxs hl
                          refine ⟨.value zv, zv, w', m', ?_, .inl rfl, hv, hA.aft, fun _ => hg, rfl⟩
                          rw [hex, ha]
                          simp [builtin, hr]
                    · cases hact
                  · cases hact
            · cases hact
      · rename_i x y
        cases hall with
        | cons g1 g2 =>
          cases g2 with
          | cons g2 g3 =>
            cases g3
            rename_i u1 u2
            have ha : (c.args.map a.eval) = #[u1, u2] := by apply Array.toList_inj.1; rw [hmap]
            split at hact
            · rename_i el z b1 sh q t0
              cases h0 : c.argTypes[0]? with
              | none => rw [h0] at t0; cases t0
              | some ty0 =>
                rw [h0] at t0
                have v0 := (hT _ _ (show tab ty0 = _ from t0)).under
                simp only [UnderOk] at v0
                split at hact
                · rename_i ti hte
                  split at hact
                  · rename_i xs hxs
                    split at hact
                    · cases hact
                    · rename_i hz
                      rw [copyC_bind] at hact
                      cases hl : copyC s.H s.n0 ti.zero.length x xs pair2 with
                      | none => rw [hl] at hact; cases hact
                      | some r =>
                        obtain ⟨d, H'⟩ := r
                        rw [hl] at hact
                        injection hact with hact
                        injection hact with e1 e2
                        injection e2 with e2 e3
                        subst e1
                        subst e2
                        obtain ⟨w', m', hr, hA⟩ := copy_run (P := P) (ty := o.type) hT h h0 v0 hte (fun e => hz (.inl e)) g1 g2 hxs hl
                        refine ⟨.value _, _, w', m', ?_, .inl rfl, rfl, hA.aft, fun hlk => absurd hlk (fun e => hz (.inr e)), rfl⟩
                        rw [hex, ha]
                        simp [builtin, hr]
                  · cases hact
                · cases hact
            · cases hact
      · cases hact
    · rename_i f hb
      rw [hb] at hk
      cases hk
    · cases hact
  case h_22 =>
    rename_i t r e
    rw [e] at hk
    have hcx : cx = none := by cases cx with | none => rfl | some c => cases hk
    subst hcx
    split at hact
    · rename_i kt et z b sh q ht
      split at hact
      · cases hact
      · injection hact with hact
        injection hact with h1 h2
        injection h2 with h2 h3
        subst h1
        subst h2
        obtain ⟨m', hA, hm⟩ := newMap_rel h
        refine ⟨.value (.map (some w.heap.size)), _, w.alloc (.map #[] 0), m', ?_, .inl rfl, ?_, hA.aft, fun _ => Grows.push _ _, rfl⟩
        · simp [execOp, e, Instr.makeMap]
        · exact ⟨by simp, _, hm, rfl⟩
    · cases hact
  case h_26 => cases hact
  all_goals (rename_i e; rw [e] at hk; cases hk)
end Go.Ev
end

section
set_option linter.all false
/- New boxes. -/
namespace Go.Ev
variable {P : Program} {tab : Nat → Option TI} {gd : Nat → List C} {B : Nat → Nat} {vs : List Nat} {m m' : Nm} {s s' : St} {a : Act} {w w' : World} {v : V} {rd wr : List Root} {n : Nat} {f : List V}

theorem alloc_run (hT : TabOk P tab) {e : Nat} {ti : TI} (ht : tab e = some ti) (hz : ti.zero.length ≠ 0) (hp : Nat → List Cp) (n : Nat) :
    ∃ zs : List Value, (Instr.alloc e true (.tuple #[])).run P w = .ok (.pointer (some ⟨w.heap.size, 0, none⟩)) (w.alloc (.cells zs.toArray e)) ∧ All2 (CR hp n) ti.zero zs := by
  obtain ⟨i, z, zs, i1, i2, i3, i4, i5, i6⟩ := zero_rel hT ht ((hT e ti ht).not_tup hz) hp n
  refine ⟨zs, ?_, i6⟩
  simp [Instr.alloc, run_zeroValue i1 i4, newVar, newRow, i5]

theorem box_run {e : Nat} {x : Value} {zs : List Value} (hx : x.cells = zs.toArray) :
    (Instr.box e x).run P w = .ok (.pointer (some ⟨w.heap.size, 0, none⟩)) (w.alloc (.cells zs.toArray e)) := by
  simp [Instr.box, newVar, newRow, hx]

end Go.Ev
end

section
set_option linter.all false
/- What a call asks and gives. -/
namespace Go.Ev
variable {P : Program} {tab : Nat → Option TI} {gd : Nat → List C} {B : Nat → Nat} {vs : List Nat} {m m' : Nm} {s s' : St} {a : Act} {w w' : World} {v : V} {rd wr : List Root} {n : Nat} {f : List V}

/-- What a call finds: the boxes that it is handed, the heap. -/
structure Entry (gd : Nat → List C) (B : Nat → Nat) (m : Nm) (R : List Box) (H : Heap) (w : World) : Prop where
  ref : ∀ j t cs, R[j]? = some (t, cs) → BoxAt m.hp H.length w (m.rf j) cs ∧ m.own (m.rf j) = .ref j
  heap : HRel m w H B
  B : ∀ id, id < H.length → B id ≤ H.length
  lt : ∀ g, m.own g ≠ .none → g < w.heap.size
  glob : ∀ g, gd g ≠ [] → GlobAt w g (gd g) ∧ m.own g = .none
  nobox : ∀ g b, m.own g ≠ .box b

/-- What a call leaves. -/
structure Left (gd : Nat → List C) (B : Nat → Nat) (m : Nm) (R : List Box) (H : Heap) (w : World) (res : Res) (x : Value) (m' : Nm) (w' : World) : Prop where
  val : VR m' res.2.2.length res.1 x
  plain : plain1 res.1 = true ∨ ∃ vs, res.1 = .tup vs ∧ vs.all plain1 = true
  ref : ∀ j t cs, res.2.1[j]? = some (t, cs) → BoxAt m'.hp res.2.2.length w' (m'.rf j) cs ∧ m'.own (m'.rf j) = .ref j
  heap : HRel m' w' res.2.2 (bnd B H.length res.2.2.length)
  len : H.length ≤ res.2.2.length
  kept : Kept m H.length w m' w'
  lt : ∀ g, m'.own g ≠ .none → g < w'.heap.size
  dead : ∀ id b, H[id]? = some b → b.still = true → res.2.2[id]? = some b ∧ m'.hp id = m.hp id
  ro : ∀ (id : Nat) (cs : List C), res.2.2[id]? = some (.mem 0 cs) → H[id]? = some (.mem 0 cs)

/-- A function's evaluator is right. -/
def CallOK (P : Program) (gd : Nat → List C) (call : Nat → List V → List Box → Heap → Option Res) : Prop :=
  ∀ (g : Nat) (args : List V) (R : List Box) (H : Heap) (res : Res), call g args R H = some res →
    ∀ (B : Nat → Nat) (m : Nm) (w : World) (xs : Array Value), Entry gd B m R H w → All2 (VR m H.length) args xs.toList →
      (callFunc g xs).run P w = .ok (.enter g xs) w ∧ (Calls P g xs w fun e w' => ∃ x m', e = .returned x ∧ Left gd B m R H w res x m' w') ∨
      ∃ x m', (callFunc g xs).run P w = .ok (.value x) w ∧ Left gd B m R H w res x m' w

def place (m : Nm) : Root → Nat
  | .l b => m.lb b
  | .r j => m.rf j

theorem argsIn_sub : ∀ (args : List V) (roots rs : List Root) (ws : List V), argsIn roots args = some (ws, rs) → ∀ r ∈ roots, r ∈ rs
  | [], roots, rs, ws, h, r, hr => by simp only [argsIn, Option.some.injEq, Prod.mk.injEq] at h; rw [← h.2]; exact hr
  | v :: vs, roots, rs, ws, h, r, hr => by
    have key : ∀ (roots' : List Root) (g : List V × List Root → List V × List Root), (∀ p, (g p).2 = p.2) → r ∈ roots' → (argsIn roots' vs).map g = some (ws, rs) → r ∈ rs := by
      intro roots' g hg hr' h
      cases hq : argsIn roots' vs with
      | none => rw [hq] at h; cases h
      | some q =>
        rw [hq] at h
        simp only [Option.map_some, Option.some.injEq] at h
        have h2 := hg q
        rw [h] at h2
        rw [show rs = q.2 from h2]
        exact argsIn_sub vs roots' q.2 q.1 hq r hr'
    unfold argsIn at h
    split at h
    · refine key _ _ ?_ ?_ h
      · intro _; rfl
      · split <;> simp [hr]
    · refine key _ _ ?_ ?_ h
      · intro _; rfl
      · split <;> simp [hr]
    · refine key _ _ ?_ hr h
      intro _; rfl
    · refine key _ _ ?_ hr h
      intro _; rfl
    · refine key _ _ ?_ hr h
      intro _; rfl
    · cases h

theorem idx_get {rs : List Root} {r : Root} (h : r ∈ rs) (d : Root) : rs.getD (rs.idxOf r) d = r := by
  have h1 := List.idxOf_lt_length_of_mem h
  rw [List.getD_eq_getElem?_getD, List.getElem?_eq_getElem h1]
  simp

/-- Arguments as the callee names them. -/
theorem argsIn_rel {mc : Nm} (hhp : mc.hp = m.hp) : ∀ (args : List V) (roots rs : List Root) (ws : List V) (xs : List Value), argsIn roots args = some (ws, rs) → (∀ j, j < rs.length → mc.rf j = place m (rs.getD j (.l 0))) →
    All2 (VR m n) args xs → All2 (VR mc n) ws xs
  | [], roots, rs, ws, xs, h, _, hx => by
    simp only [argsIn, Option.some.injEq, Prod.mk.injEq] at h
    rw [← h.1]
    cases hx
    exact .nil
  | v :: vs, roots, rs, ws, xs, h, hrf, hx => by
    cases hx with
    | cons h1 h2 =>
      rename_i x xs
      have key : ∀ (roots' : List Root) (g : List Root → V), (argsIn roots' vs).map (fun p => (g p.2 :: p.1, p.2)) = some (ws, rs) → ((∀ r ∈ roots', r ∈ rs) → VR mc n (g rs) x) → All2 (VR mc n) ws (x :: xs) := by
        intro roots' g h hg
        cases hq : argsIn roots' vs with
        | none => rw [hq] at h; cases h
        | some q =>
          rw [hq] at h
          simp only [Option.map_some, Option.some.injEq, Prod.mk.injEq] at h
          obtain ⟨rfl, rfl⟩ := h
          exact .cons (hg (argsIn_sub vs roots' q.2 q.1 hq)) (argsIn_rel hhp vs roots' q.2 q.1 xs hq hrf h2)
      unfold argsIn at h
      split at h
      · rename_i b
        refine key _ (fun rs => .ptr (.ref (rs.idxOf (.l b)) 0)) h fun hsub => ?_
        have hm : Root.l b ∈ rs := hsub _ (by split <;> simp [*])
        rw [show x = .pointer (some ⟨m.lb b, 0, none⟩) from h1]
        show _ = _
        rw [hrf _ (List.idxOf_lt_length_of_mem hm), idx_get hm]
        rfl
      · rename_i b
        refine key _ (fun rs => .ptr (.ref (rs.idxOf (.r b)) 0)) h fun hsub => ?_
        have hm : Root.r b ∈ rs := hsub _ (by split <;> simp [*])
        rw [show x = .pointer (some ⟨m.rf b, 0, none⟩) from h1]
        show _ = _
        rw [hrf _ (List.idxOf_lt_length_of_mem hm), idx_get hm]
        rfl
      · exact key _ (fun _ => .ptr .nil) h fun _ => h1
      · exact key _ (fun _ => .one _) h fun _ => by simp only [VR, hhp] at *; exact h1
      · exact key _ (fun _ => .agg _) h fun _ => by simp only [VR, hhp] at *; exact h1
      · cases h
end Go.Ev
end

section
set_option linter.all false
/- A call, carried out. -/
namespace Go.Ev
variable {P : Program} {tab : Nat → Option TI} {gd : Nat → List C} {B : Nat → Nat} {vs : List Nat} {m m' m1 : Nm} {s s' : St} {a : Act} {w w' w1 : World} {v : V} {rd wr : List Root} {n : Nat} {f : List V}

theorem argsIn_nodup : ∀ (args : List V) (roots rs : List Root) (ws : List V), argsIn roots args = some (ws, rs) → roots.Nodup → rs.Nodup
  | [], roots, rs, ws, h, hn => by simp only [argsIn, Option.some.injEq, Prod.mk.injEq] at h; rw [← h.2]; exact hn
  | v :: vs, roots, rs, ws, h, hn => by
    have key : ∀ (roots' : List Root) (g : List V × List Root → List V × List Root), (∀ p, (g p).2 = p.2) → roots'.Nodup → (argsIn roots' vs).map g = some (ws, rs) → rs.Nodup := by
      intro roots' g hg hr' h
      cases hq : argsIn roots' vs with
      | none => rw [hq] at h; cases h
      | some q =>
        rw [hq] at h
        simp only [Option.map_some, Option.some.injEq] at h
        have h2 := hg q
        rw [h] at h2
        rw [show rs = q.2 from h2]
        exact argsIn_nodup vs roots' q.2 q.1 hq hr'
    have hadd : ∀ r, (if r ∈ roots then roots else roots ++ [r]).Nodup := by
      intro r
      split
      · exact hn
      · rename_i hr
        refine List.nodup_append.2 ⟨hn, by simp, fun x hx y hy e => ?_⟩
        simp only [List.mem_singleton] at hy
        exact hr (by rw [← hy, ← e]; exact hx)
    unfold argsIn at h
    split at h
    · refine key _ _ ?_ (hadd _) h
      intro _; rfl
    · refine key _ _ ?_ (hadd _) h
      intro _; rfl
    · refine key _ _ ?_ hn h
      intro _; rfl
    · refine key _ _ ?_ hn h
      intro _; rfl
    · refine key _ _ ?_ hn h
      intro _; rfl
    · cases h

/-- What is among the roots came in, or stands among the arguments. -/
theorem argsIn_mem : ∀ (args : List V) (roots rs : List Root) (ws : List V), argsIn roots args = some (ws, rs) → ∀ b, .l b ∈ rs → .l b ∈ roots ∨ .ptr (.loc b 0) ∈ args
  | [], roots, rs, ws, h, b, hb => by simp only [argsIn, Option.some.injEq, Prod.mk.injEq] at h; rw [← h.2] at hb; exact .inl hb
  | v :: vs, roots, rs, ws, h, b, hb => by
    have key : ∀ (roots' : List Root) (g : List V × List Root → List V × List Root), (∀ p, (g p).2 = p.2) → (argsIn roots' vs).map g = some (ws, rs) → .l b ∈ roots' ∨ .ptr (.loc b 0) ∈ vs := by
      intro roots' g hg h
      cases hq : argsIn roots' vs with
      | none => rw [hq] at h; cases h
      | some q =>
        rw [hq] at h
        simp only [Option.map_some, Option.some.injEq] at h
        have h2 := hg q
        rw [h] at h2
        rw [show rs = q.2 from h2] at hb
        exact argsIn_mem vs roots' q.2 q.1 hq b hb
    have hadd : ∀ r, .l b ∈ (if r ∈ roots then roots else roots ++ [r]) → .l b ∈ roots ∨ Root.l b = r := by
      intro r hr
      split at hr
      · exact .inl hr
      · simpa using hr
    unfold argsIn at h
    split at h
    · rename_i c
      rcases key _ _ (by intro _; rfl) h with h | h
      · rcases hadd _ h with h | h
        · exact .inl h
        · injection h with h
          subst h
          exact .inr (by simp)
      · exact .inr (by simp [h])
    · rename_i c
      rcases key _ _ (by intro _; rfl) h with h | h
      · rcases hadd _ h with h | h
        · exact .inl h
        · cases h
      · exact .inr (by simp [h])
    · rcases key _ _ (by intro _; rfl) h with h | h
      · exact .inl h
      · exact .inr (by simp [h])
    · rcases key _ _ (by intro _; rfl) h with h | h
      · exact .inl h
      · exact .inr (by simp [h])
    · rcases key _ _ (by intro _; rfl) h with h | h
      · exact .inl h
      · exact .inr (by simp [h])
    · cases h

theorem boxes_get : ∀ (roots : List Root) (bs : List Box), boxes s roots = some bs → bs.length = roots.length ∧ ∀ (j : Nat) (r : Root), roots[j]? = some r → ∃ b, rootBox s r = some b ∧ bs[j]? = some b
  | [], bs, h => by simp only [boxes, Option.some.injEq] at h; subst h; simp
  | r :: rs, bs, h => by
    unfold boxes at h
    split at h
    · rename_i b bs' hb hbs
      injection h with h
      subst h
      obtain ⟨h1, h2⟩ := boxes_get rs bs' hbs
      refine ⟨by simp [h1], fun j r' hj => ?_⟩
      cases j with
      | zero => simp at hj; subst hj; exact ⟨b, hb, by simp⟩
      | succ j => simpa using h2 j r' (by simpa using hj)
    · cases h

theorem putBoxes_rest : ∀ (roots : List Root) (xs : List Box) (s : St), (putBoxes s roots xs).H = s.H ∧ (putBoxes s roots xs).fr = s.fr ∧ (putBoxes s roots xs).n0 = s.n0
  | [], xs, s => by simp [putBoxes]
  | .l b :: rs, [], s => by simp [putBoxes]
  | .r b :: rs, [], s => by simp [putBoxes]
  | .l b :: rs, x :: xs, s => by simp only [putBoxes]; exact putBoxes_rest rs xs _
  | .r b :: rs, x :: xs, s => by simp only [putBoxes]; exact putBoxes_rest rs xs _

theorem putBoxes_L : ∀ (roots : List Root) (xs : List Box) (s : St) (b : Nat) (x : Box), roots.length = xs.length → (putBoxes s roots xs).L[b]? = some (some x) →
    (∃ j : Nat, roots[j]? = some (Root.l b) ∧ xs[j]? = some x) ∨ (Root.l b ∉ roots ∧ s.L[b]? = some (some x))
  | [], xs, s, b, x, _, h => by simp only [putBoxes] at h; exact .inr ⟨by simp, h⟩
  | .l c :: rs, [], s, b, x, hl, h => by simp at hl
  | .r c :: rs, [], s, b, x, hl, h => by simp at hl
  | .l c :: rs, y :: ys, s, b, x, hl, h => by
    simp only [putBoxes] at h
    rcases putBoxes_L rs ys _ b x (by simpa using hl) h with ⟨j, h1, h2⟩ | ⟨h1, h2⟩
    · exact .inl ⟨j + 1, by simpa using h1, by simpa using h2⟩
    · simp only [List.getElem?_set] at h2
      by_cases e : c = b
      · subst e
        rw [if_pos rfl] at h2
        split at h2
        · injection h2 with h2
          injection h2 with h2
          subst h2
          exact .inl ⟨0, by simp, by simp⟩
        · cases h2
      · rw [if_neg e] at h2
        exact .inr ⟨by simp [h1]; exact fun h => e h.symm, h2⟩
  | .r c :: rs, y :: ys, s, b, x, hl, h => by
    simp only [putBoxes] at h
    rcases putBoxes_L rs ys _ b x (by simpa using hl) h with ⟨j, h1, h2⟩ | ⟨h1, h2⟩
    · exact .inl ⟨j + 1, by simpa using h1, by simpa using h2⟩
    · exact .inr ⟨by simp [h1], h2⟩

theorem putBoxes_R : ∀ (roots : List Root) (xs : List Box) (s : St) (b : Nat) (x : Box), roots.length = xs.length → (putBoxes s roots xs).R[b]? = some x →
    (∃ j : Nat, roots[j]? = some (Root.r b) ∧ xs[j]? = some x) ∨ (Root.r b ∉ roots ∧ s.R[b]? = some x)
  | [], xs, s, b, x, _, h => by simp only [putBoxes] at h; exact .inr ⟨by simp, h⟩
  | .l c :: rs, [], s, b, x, hl, h => by simp at hl
  | .r c :: rs, [], s, b, x, hl, h => by simp at hl
  | .r c :: rs, y :: ys, s, b, x, hl, h => by
    simp only [putBoxes] at h
    rcases putBoxes_R rs ys _ b x (by simpa using hl) h with ⟨j, h1, h2⟩ | ⟨h1, h2⟩
    · exact .inl ⟨j + 1, by simpa using h1, by simpa using h2⟩
    · simp only [List.getElem?_set] at h2
      by_cases e : c = b
      · subst e
        rw [if_pos rfl] at h2
        split at h2
        · injection h2 with h2
          subst h2
          exact .inl ⟨0, by simp, by simp⟩
        · cases h2
      · rw [if_neg e] at h2
        exact .inr ⟨by simp [h1]; exact fun h => e h.symm, h2⟩
  | .l c :: rs, y :: ys, s, b, x, hl, h => by
    simp only [putBoxes] at h
    rcases putBoxes_R rs ys _ b x (by simpa using hl) h with ⟨j, h1, h2⟩ | ⟨h1, h2⟩
    · exact .inl ⟨j + 1, by simpa using h1, by simpa using h2⟩
    · exact .inr ⟨by simp [h1], h2⟩

theorem idx_nodup : ∀ (rs : List Root) (j : Nat) (r : Root), rs.Nodup → rs[j]? = some r → rs.idxOf r = j
  | [], j, r, _, h => by simp at h
  | q :: rs, 0, r, _, h => by simp at h; subst h; simp
  | q :: rs, j + 1, r, hn, h => by
    simp only [List.getElem?_cons_succ] at h
    have hm : r ∈ rs := List.mem_of_getElem? h
    have hne : q ≠ r := by rintro rfl; exact (List.nodup_cons.1 hn).1 hm
    rw [List.idxOf_cons, show (q == r) = false from by simpa using hne, cond_false, idx_nodup rs j r (List.nodup_cons.1 hn).2 h]

def Root.own : Root → Own
  | .l b => .box b
  | .r j => .ref j

theorem getD_L {L : List (Option Box)} {b : Nat} {x : Box} (h : L.getD b none = some x) : L[b]? = some (some x) := by
  rw [List.getD_eq_getElem?_getD] at h
  cases hg : L[b]? with
  | none => rw [hg] at h; cases h
  | some z => rw [hg] at h; simp at h; rw [h]

theorem root_own (h : SRel gd B vs m { s with fr := f } a w) {r : Root} {t : Nat} {cs : List C} (hr : rootBox s r = some (t, cs)) (hv : ∀ b, r = .l b → b ∉ vs) :
    BoxAt m.hp s.H.length w (place m r) cs ∧ m.own (place m r) = r.own := by
  cases r with
  | l b => exact h.box b t cs (getD_L hr) (hv b rfl)
  | r j => exact h.ref j t cs hr

/-- The callee's names. -/
def Nm.callee (m : Nm) (roots : List Root) (n : Nat) (lk : Bool) : Nm where
  lb := m.lb
  rf := fun j => place m (roots.getD j (.l 0))
  hp := m.hp
  own := fun g => match m.own g with
    | .box b => if .l b ∈ roots then .ref (roots.idxOf (.l b)) else .none
    | .ref j => if .r j ∈ roots then .ref (roots.idxOf (.r j)) else .none
    | .heap id => if lk = false ∧ id < n then .heap id else .none
    | .none => .none

section
variable {roots : List Root} {lk : Bool} {bs : List Box}
theorem callee_none {g : Nat} (h : m.own g = .none) : (m.callee roots n lk).own g = .none := by simp only [Nm.callee, h]
theorem callee_heap {g id : Nat} (h : (m.callee roots n lk).own g = .heap id) : m.own g = .heap id ∧ lk = false ∧ id < n := by
  simp only [Nm.callee] at h
  split at h
  · split at h <;> cases h
  · split at h <;> cases h
  · split at h
    · rename_i e hc; injection h with h; subst h; exact ⟨e, hc⟩
    · cases h
  · cases h
theorem callee_of_heap {g id : Nat} (h : m.own g = .heap id) (hl : lk = false) (hi : id < n) : (m.callee roots n lk).own g = .heap id := by
  simp only [Nm.callee, h]; rw [if_pos ⟨hl, hi⟩]
theorem callee_lock {g id : Nat} (h : m.own g = .heap id) (hl : lk = true) : (m.callee roots n lk).own g = .none := by
  simp only [Nm.callee, h]; rw [if_neg (by rw [hl]; simp)]
theorem callee_root {g : Nat} {r : Root} (h : m.own g = r.own) (hr : r ∉ roots) : (m.callee roots n lk).own g = .none := by
  cases r with
  | l b => simp only [Nm.callee, h, Root.own]; rw [if_neg hr]
  | r b => simp only [Nm.callee, h, Root.own]; rw [if_neg hr]
theorem callee_ref {g j : Nat} {r : Root} (hn : roots.Nodup) (h : m.own g = r.own) (hr : roots[j]? = some r) : (m.callee roots n lk).own g = .ref j := by
  have hm := List.mem_of_getElem? hr
  have hi := idx_nodup roots j r hn hr
  cases r with
  | l b => simp only [Nm.callee, h, Root.own]; rw [if_pos hm, hi]
  | r b => simp only [Nm.callee, h, Root.own]; rw [if_pos hm, hi]

theorem lock_get {H : Heap} {id : Nat} {b : Blk} (h : (H.map lockB)[id]? = some b) : ∃ b', H[id]? = some b' ∧ b = lockB b' := by
  rw [List.getElem?_map] at h
  cases hg : H[id]? with
  | none => rw [hg] at h; cases h
  | some z => rw [hg] at h; simp at h; exact ⟨z, rfl, h.symm⟩
theorem lock_mem {b : Blk} {kd : Nat} {cs : List C} (h : Blk.mem kd cs = lockB b) : kd = 0 ∧ ∃ k, b = .mem k cs := by
  cases b with
  | dead => cases h
  | map es => cases h
  | mem k ds => simp only [lockB] at h; injection h with h1 h2; subst h2; exact ⟨h1, k, rfl⟩

theorem callee_entry (h : SRel gd B vs m { s with fr := f } a w) (hb : boxes s roots = some bs) (hn : roots.Nodup) (hv : ∀ b, .l b ∈ roots → b ∉ vs) :
    Entry gd (bnd B s.n0 s.H.length) (m.callee roots s.H.length lk) bs (if lk then s.H.map lockB else s.H) w where
  ref := fun j t cs hj => by
    obtain ⟨h1, h2⟩ := boxes_get roots bs hb
    have hlt : j < roots.length := by rw [← h1]; exact (List.getElem?_eq_some_iff.1 hj).1
    have hr := List.getElem?_eq_getElem hlt
    obtain ⟨b, hb1, hb2⟩ := h2 j _ hr
    rw [hj] at hb2
    injection hb2 with hb2
    subst hb2
    obtain ⟨q1, q2⟩ := root_own h hb1 (fun b e => hv b (by rw [← e]; exact List.getElem_mem hlt))
    have hrf : (m.callee roots s.H.length lk).rf j = place m roots[j] := by simp only [Nm.callee, List.getD_eq_getElem?_getD, hr, Option.getD_some]
    rw [hrf]
    refine ⟨?_, callee_ref hn q2 hr⟩
    have hl : (if lk = true then s.H.map lockB else s.H).length = s.H.length := by cases lk <;> simp
    rw [hl]
    exact q1
  heap := by
    cases lk with
    | false =>
      exact {
        cells := fun id kd cs hi c hc => h.heap.cells id kd cs hi c hc
        one := fun id cs hi => h.heap.one id cs hi
        own := fun id kd cs hi hk c hc => callee_of_heap (h.heap.own id kd cs hi hk c hc) rfl (List.getElem?_eq_some_iff.1 hi).1
        ro := fun id cs hi c hc => callee_none (h.heap.ro id cs hi c hc)
        map := fun id es hi c hc => ⟨(h.heap.map id es hi c hc).1, callee_of_heap (h.heap.map id es hi c hc).2 rfl (List.getElem?_eq_some_iff.1 hi).1⟩
        mone := fun id es hi => h.heap.mone id es hi }
    | true =>
      have hget : ∀ (id kd : Nat) (cs : List C), (s.H.map lockB)[id]? = some (.mem kd cs) → kd = 0 ∧ ∃ k, s.H[id]? = some (.mem k cs) := by
        intro id kd cs hi
        obtain ⟨b, hb1, hb2⟩ := lock_get hi
        obtain ⟨h1, k, h2⟩ := lock_mem hb2
        exact ⟨h1, k, by rw [hb1, h2]⟩
      have hmap : ∀ (id : Nat) (es : List (Int × Bool)), (s.H.map lockB)[id]? ≠ some (.map es) := by
        intro id es hi
        obtain ⟨b, hb1, hb2⟩ := lock_get hi
        cases b <;> cases hb2
      exact {
        cells := fun id kd cs hi c hc => by
          obtain ⟨h1, k, h2⟩ := hget id kd cs hi
          obtain ⟨q1, q2, xs, t, fz, q3, q4, q5, q6⟩ := h.heap.cells id k cs h2 c hc
          exact ⟨q1, q2, xs, t, fz, q3, q4, q5, fun e => absurd h1 e⟩
        one := fun id cs hi => by have := (hget id 2 cs hi).1; omega
        own := fun id kd cs hi hk => absurd (hget id kd cs hi).1 hk
        ro := fun id cs hi c hc => by
          obtain ⟨_, k, h2⟩ := hget id 0 cs hi
          by_cases hk : k = 0
          · subst hk; exact callee_none (h.heap.ro id cs h2 c hc)
          · exact callee_lock (h.heap.own id k cs h2 hk c hc) rfl
        map := fun id es hi => absurd hi (hmap id es)
        mone := fun id es hi => absurd hi (hmap id es) }
  B := fun id _ => by
    have hl : (if lk = true then s.H.map lockB else s.H).length = s.H.length := by cases lk <;> simp
    rw [hl]
    exact bnd_le h id
  lt := fun g hg => h.lt g fun e => hg (callee_none e)
  glob := fun g hg => ⟨(h.glob g hg).1, callee_none (h.glob g hg).2⟩
  nobox := fun g b hg => by
    simp only [Nm.callee] at hg
    split at hg
    · split at hg <;> cases hg
    · split at hg <;> cases hg
    · split at hg <;> cases hg
    · cases hg

/-- The caller's names behind a call. -/
def Nm.back (m : Nm) (z : Nat) (hp2 : Nat → List Cp) (keep : Nat → Own) : Nm where
  lb := m.lb
  rf := m.rf
  hp := hp2
  own := fun g => if g < z then m.own g else keep g

theorem back_rel (h : SRel gd B vs m { s with fr := f } a w) (hb : boxes s roots = some bs) (hv : ∀ b, .l b ∈ roots → b ∉ vs) {bs' bs'' : List Box} {r : V} {x : Value} {H' Hc H2 : Heap} {B' : Nat → Nat}
    (hL : Left gd B' (m.callee roots s.H.length lk) bs Hc w (r, bs', H') x m1 w1) (hHc : Hc.length = s.H.length) (hsh : bs''.length = roots.length) (hbs : ∀ (j t : Nat) (cs : List C), bs''[j]? = some (t, cs) → ∃ t', bs'[j]? = some (t', cs))
    {hp2 : Nat → List Cp} {keep : Nat → Own} (hlen : s.H.length ≤ H2.length) (hmono : ∀ id, id < s.H.length → ∀ c ∈ m.hp id, c ∈ hp2 id)
    (hbox : ∀ (j t : Nat) (cs : List C), bs''[j]? = some (t, cs) → BoxAt m1.hp H'.length w1 (m1.rf j) cs → BoxAt hp2 H2.length w1 (m1.rf j) cs)
    (hheap : HRel (m.back w.heap.size hp2 keep) w1 H2 (bnd B s.n0 H2.length)) (hlt : ∀ g, keep g ≠ .none → g < w1.heap.size)
    (hdead : ∀ id b, s.H[id]? = some b → b.still = true → H2[id]? = some b ∧ hp2 id = m.hp id) (hro : ∀ (id : Nat) (cs : List C), H2[id]? = some (.mem 0 cs) → s.H[id]? = some (.mem 0 cs)) :
    Aft gd B vs m { s with fr := f } a w { putBoxes s roots bs'' with H := H2, fr := f } (m.back w.heap.size hp2 keep) w1 := by
  obtain ⟨p1, p2⟩ := boxes_get roots bs hb
  obtain ⟨e1, e2, e3⟩ := putBoxes_rest roots bs'' s
  have hsame : ∀ g, g < w.heap.size → (m.callee roots s.H.length lk).own g = .none → w1.heap[g]? = w.heap[g]? := hL.kept.same
  have hsize := hL.kept.size
  have hplace : ∀ j r, roots[j]? = some r → m1.rf j = place m r := by
    intro j r hj
    rw [hL.kept.rf]
    simp only [Nm.callee, List.getD_eq_getElem?_getD, hj, Option.getD_some]
  have hown : ∀ g, g < w.heap.size → (m.back w.heap.size hp2 keep).own g = m.own g := fun g hg => by simp only [Nm.back]; rw [if_pos hg]
  have hrlt : ∀ r ∈ roots, m.own (place m r) = r.own := by
    intro r hr
    obtain ⟨j, hj⟩ := List.getElem?_of_mem hr
    obtain ⟨b, hb1, _⟩ := p2 j r hj
    exact (root_own h hb1 (fun b e => hv b (by rw [← e]; exact hr))).2
  have hne : ∀ r : Root, r.own ≠ .none := by intro r; cases r <;> simp [Root.own]
  refine ⟨⟨?_, ?_, ?_, (by have h9 := hheap; rw [← e3] at h9; exact h9), ?_, ?_, ?_, ?_, h.defers⟩, ?_, ⟨rfl, rfl, hmono⟩, hlen, ?_, hdead, hro, hsize, e3, rfl⟩
  · exact h.fr.mono fun _ _ hx => VR.mono (m := m) (m' := m.back w.heap.size hp2 keep) hlen ⟨rfl, rfl, hmono⟩ hx
  · intro b t cs hbt hbv
    rcases putBoxes_L roots bs'' s b (t, cs) hsh.symm hbt with ⟨j, hj1, hj2⟩ | ⟨hj1, hj2⟩
    · obtain ⟨t', ht'⟩ := hbs j t cs hj2
      have hB := hbox j t cs hj2 (hL.ref j t' cs ht').1
      rw [hplace j _ hj1] at hB
      have ho := hrlt _ (List.mem_of_getElem? hj1)
      exact ⟨hB, by rw [show (m.back w.heap.size hp2 keep).lb b = place m (.l b) from rfl, hown _ (h.lt _ (by rw [ho]; exact hne _))]; exact ho⟩
    · obtain ⟨q1, q2⟩ := h.box b t cs hj2 hbv
      have hl := h.lt _ (by rw [q2]; simp : m.own (m.lb b) ≠ .none)
      exact ⟨q1.mono hlen hmono (hsame _ hl (callee_root (r := .l b) q2 hj1)), by rw [show (m.back w.heap.size hp2 keep).lb b = m.lb b from rfl, hown _ hl]; exact q2⟩
  · intro b t cs hbt
    rcases putBoxes_R roots bs'' s b (t, cs) hsh.symm hbt with ⟨j, hj1, hj2⟩ | ⟨hj1, hj2⟩
    · obtain ⟨t', ht'⟩ := hbs j t cs hj2
      have hB := hbox j t cs hj2 (hL.ref j t' cs ht').1
      rw [hplace j _ hj1] at hB
      have ho := hrlt _ (List.mem_of_getElem? hj1)
      exact ⟨hB, by rw [show (m.back w.heap.size hp2 keep).rf b = place m (.r b) from rfl, hown _ (h.lt _ (by rw [ho]; exact hne _))]; exact ho⟩
    · obtain ⟨q1, q2⟩ := h.ref b t cs hj2
      have hl := h.lt _ (by rw [q2]; simp : m.own (m.rf b) ≠ .none)
      exact ⟨q1.mono hlen hmono (hsame _ hl (callee_root (r := .r b) q2 hj1)), by rw [show (m.back w.heap.size hp2 keep).rf b = m.rf b from rfl, hown _ hl]; exact q2⟩
  · exact e3 ▸ Nat.le_trans h.n0 hlen
  · intro id hid
    have hid' : id < s.n0 := e3 ▸ hid
    have := h.B id hid'
    exact e3.symm ▸ this
  · intro g hg
    simp only [Nm.back] at hg
    split at hg
    · exact Nat.lt_of_lt_of_le (h.lt g hg) hsize
    · exact hlt g hg
  · intro g hg
    obtain ⟨q1, q2⟩ := h.glob g hg
    have hl : g < w.heap.size := by obtain ⟨xs, t, fz, hx, _⟩ := q1; exact lt_of_get hx
    exact ⟨q1.mono (hsame g hl (callee_none q2)), by rw [hown g hl]; exact q2⟩
  · intro m0 w0 hk
    exact {
      same := fun g hg h0 => by
        have hg' := Nat.lt_of_lt_of_le hg hk.size
        rw [hsame g hg' (callee_none (by rw [hk.own g hg]; exact h0))]
        exact hk.same g hg h0
      os := by rw [hL.kept.os, hk.os]
      tape := by rw [hL.kept.tape, hk.tape]
      output := by rw [hL.kept.output, hk.output]
      size := Nat.le_trans hk.size hsize
      own := fun g hg => by rw [hown g (Nat.lt_of_lt_of_le hg hk.size)]; exact hk.own g hg
      nobox := hk.nobox
      rf := hk.rf
      hp := fun id hid c hc => hmono id (Nat.lt_of_lt_of_le hid h.n0) c (hk.hp id hid c hc) }
  · intro g hg h0
    exact ⟨hsame g hg (callee_none h0), by rw [hown g hg]; exact h0⟩
end
end Go.Ev
end

section
set_option linter.all false
/- Shaped values are the same values; what is flat leads nowhere. -/
namespace Go.Ev
variable {P : Program} {tab : Nat → Option TI} {gd : Nat → List C} {B : Nat → Nat} {vs : List Nat} {m m' m1 : Nm} {s s' : St} {a : Act} {w w' w1 : World} {v v' : V} {rd wr : List Root} {n : Nat} {f : List V}

def flatV1 : V → Bool
  | .one c => flatC c
  | .agg cs => cs.all flatC
  | _ => false
def flatV : V → Bool
  | .one c => flatC c
  | .agg cs => cs.all flatC
  | .tup vs => vs.all flatV1
  | _ => false

theorem flats_rel {hp hp' : Nat → List Cp} {n n' : Nat} {cs : List C} {xs : List Value} (h : All2 (CR hp n) cs xs) (hf : cs.all flatC = true) : All2 (CR hp' n') cs xs := by
  induction h with
  | nil => exact .nil
  | cons h1 _ ih =>
    simp only [List.all_cons, Bool.and_eq_true] at hf
    exact .cons (h1.flat hf.1) (ih hf.2)

theorem flatV1_rel {n n' : Nat} {v : V} {x : Value} (h : VR1 m n v x) (hf : flatV1 v = true) : VR1 m' n' v x := by
  cases v with
  | one c => exact CR.flat h hf
  | agg cs => obtain ⟨xs, h1, h2⟩ := h; exact ⟨xs, h1, flats_rel h2 hf⟩
  | _ => cases hf

theorem flatV_rel {n n' : Nat} {v : V} {x : Value} (h : VR m n v x) (hf : flatV v = true) : VR m' n' v x := by
  cases v with
  | one c => exact CR.flat h hf
  | agg cs => obtain ⟨xs, h1, h2⟩ := h; exact ⟨xs, h1, flats_rel h2 hf⟩
  | tup vs =>
    obtain ⟨xs, h1, h2⟩ := h
    refine ⟨xs, h1, ?_⟩
    clear h1
    induction h2 with
    | nil => exact .nil
    | cons h1 _ ih =>
      simp only [flatV, List.all_cons, Bool.and_eq_true] at hf
      exact .cons (flatV1_rel h1 hf.1) (ih hf.2)
  | _ => cases hf

theorem shapeC_flat : ∀ (sh : List Sh) (cs ds : List C), flatSh sh = true → shapeC sh cs some = some ds → ds.all flatC = true
  | [], [], ds, _, h => by simp only [shapeC, Option.some.injEq] at h; subst h; rfl
  | [], _ :: _, ds, _, h => by simp [shapeC] at h
  | .int k :: sh, [], ds, _, h => by simp [shapeC] at h
  | .bool :: sh, [], ds, _, h => by simp [shapeC] at h
  | .other :: sh, cs, ds, hf, _ => by cases hf
  | .int k :: sh, c :: cs, ds, hf, h => by
    simp only [shapeC, asI] at h
    split at h
    · split at h
      · rw [shapeC_eq] at h
        cases hr : shapeC sh cs some with
        | none => rw [hr] at h; cases h
        | some es =>
          rw [hr] at h
          simp only [Option.bind_some, Option.some.injEq] at h
          subst h
          simp only [List.all_cons, flatC, Bool.true_and]
          exact shapeC_flat sh cs es hf hr
      · cases h
    · cases h
  | .bool :: sh, c :: cs, ds, hf, h => by
    simp only [shapeC, asB] at h
    split at h
    · rw [shapeC_eq] at h
      cases hr : shapeC sh cs some with
      | none => rw [hr] at h; cases h
      | some es =>
        rw [hr] at h
        simp only [Option.bind_some, Option.some.injEq] at h
        subst h
        simp only [List.all_cons, flatC, Bool.true_and]
        exact shapeC_flat sh cs es hf hr
    · cases h

theorem shape1_same {t : Nat} (h : shape1 tab t v some = some v') : v' = v := by
  unfold shape1 at h
  cases ht : tab t with
  | none => rw [ht] at h; cases h
  | some i =>
    rw [ht] at h
    simp only at h
    split at h
    · split at h
      · rename_i cs
        rw [shapeC_eq] at h
        cases hr : shapeC i.sh cs some with
        | none => rw [hr] at h; cases h
        | some ds => rw [hr] at h; simp only [Option.bind_some, Option.some.injEq] at h; rw [← h, shapeC_same _ _ _ hr]
      · cases h
    · split at h
      · rename_i c
        rw [shapeC_eq] at h
        cases hr : shapeC i.sh [c] some with
        | none => rw [hr] at h; cases h
        | some ds =>
          rw [hr, shapeC_same _ _ _ hr] at h
          simp only [Option.bind_some, Option.some.injEq] at h
          exact h.symm
      · cases h

theorem shape1_flat {t : Nat} (hf : flat1 tab t = true) (h : shape1 tab t v some = some v') : flatV1 v' = true := by
  unfold shape1 at h
  unfold flat1 at hf
  cases ht : tab t with
  | none => rw [ht] at h; cases h
  | some i =>
    rw [ht] at h hf
    simp only at h hf
    split at h
    · split at h
      · rename_i cs
        rw [shapeC_eq] at h
        cases hr : shapeC i.sh cs some with
        | none => rw [hr] at h; cases h
        | some ds => rw [hr] at h; simp only [Option.bind_some, Option.some.injEq] at h; rw [← h]; exact shapeC_flat _ _ _ hf hr
      · cases h
    · split at h
      · rename_i c
        rw [shapeC_eq] at h
        cases hr : shapeC i.sh [c] some with
        | none => rw [hr] at h; cases h
        | some ds =>
          have hfl := shapeC_flat _ _ _ hf hr
          rw [hr, shapeC_same _ _ _ hr] at h
          rw [shapeC_same _ _ _ hr] at hfl
          simp only [Option.bind_some, Option.some.injEq] at h
          rw [← h]
          simpa [flatV1] using hfl
      · cases h

theorem shape1_eq {α : Type} (t : Nat) (v : V) (K : V → Option α) : shape1 tab t v K = (shape1 tab t v some).bind K := shape1_bind t v some K
theorem shapeL_eq {α : Type} (ts : List Nat) (us : List V) (K : List V → Option α) : shapeL tab ts us K = (shapeL tab ts us some).bind K := shapeL_bind ts us some K
theorem shapeV_eq {α : Type} (t : Nat) (v : V) (K : V → Option α) : shapeV tab t v K = (shapeV tab t v some).bind K := shapeV_bind t v some K
theorem shapeB_eq {α : Type} (as bs : List Box) (K : List Box → Option α) : shapeB tab as bs K = (shapeB tab as bs some).bind K := shapeB_bind as bs some K

theorem shapeL_same : ∀ (ts : List Nat) (us us' : List V), shapeL tab ts us some = some us' → us' = us ∧ ((ts.all (flat1 tab)) = true → us'.all flatV1 = true)
  | [], [], us', h => by simp only [shapeL, Option.some.injEq] at h; subst h; simp
  | [], _ :: _, us', h => by simp [shapeL] at h
  | _ :: _, [], us', h => by simp [shapeL] at h
  | t :: ts, u :: us, us', h => by
    simp only [shapeL] at h
    rw [shape1_eq] at h
    cases hr : shape1 tab t u some with
    | none => rw [hr] at h; cases h
    | some u1 =>
      rw [hr, Option.bind_some, shapeL_eq] at h
      cases hq : shapeL tab ts us some with
      | none => rw [hq] at h; cases h
      | some us1 =>
        rw [hq] at h
        simp only [Option.bind_some, Option.some.injEq] at h
        obtain ⟨h1, h2⟩ := shapeL_same ts us us1 hq
        subst h
        refine ⟨by rw [h1, shape1_same hr], fun hf => ?_⟩
        simp only [List.all_cons, Bool.and_eq_true] at hf ⊢
        exact ⟨shape1_flat hf.1 hr, h2 hf.2⟩

theorem flatV_of1 {v : V} (h : flatV1 v = true) : flatV v = true := by cases v <;> first | exact h | cases h

theorem shapeV_same {t : Nat} (h : shapeV tab t v some = some v') : v' = v ∧ (flatT tab t = true → flatV v' = true) := by
  unfold shapeV at h
  unfold flatT
  cases ht : tab t with
  | none => rw [ht] at h; cases h
  | some i =>
    rw [ht] at h
    simp only at h ⊢
    split at h
    · rename_i ts hd
      split at h
      · rename_i us
        rw [shapeL_eq] at h
        cases hq : shapeL tab ts us some with
        | none => rw [hq] at h; cases h
        | some us1 =>
          rw [hq] at h
          simp only [Option.bind_some, Option.some.injEq] at h
          obtain ⟨h1, h2⟩ := shapeL_same ts us us1 hq
          subst h
          exact ⟨by rw [h1], fun hf => h2 hf⟩
      · cases h
    · rename_i hd
      refine ⟨shape1_same h, fun hf => flatV_of1 (shape1_flat (t := t) ?_ h)⟩
      unfold flat1
      rw [ht]
      exact hf

theorem shapeB_same : ∀ (as bs bs1 : List Box), shapeB tab as bs some = some bs1 → bs1.length = as.length ∧ bs1.length = bs.length ∧
    ∀ (j t : Nat) (cs : List C), bs1[j]? = some (t, cs) → (∃ t', bs[j]? = some (t', cs)) ∧ (as.all (fun b => flat1 tab b.1) = true → cs.all flatC = true)
  | [], [], bs1, h => by simp only [shapeB, Option.some.injEq] at h; subst h; simp
  | [], _ :: _, bs1, h => by simp [shapeB] at h
  | _ :: _, [], bs1, h => by simp only [shapeB] at h; split at h <;> cases h
  | (t, ds) :: as, (t', cs) :: bs, bs1, h => by
    simp only [shapeB] at h
    cases ht : tab t with
    | none => rw [ht] at h; cases h
    | some i =>
      rw [ht] at h
      simp only at h
      rw [shapeC_eq] at h
      cases hr : shapeC i.sh cs some with
      | none => rw [hr] at h; cases h
      | some cs1 =>
        rw [hr, Option.bind_some, shapeB_eq] at h
        cases hq : shapeB tab as bs some with
        | none => rw [hq] at h; cases h
        | some bs2 =>
          rw [hq] at h
          simp only [Option.bind_some, Option.some.injEq] at h
          subst h
          obtain ⟨h1, h2, h3⟩ := shapeB_same as bs bs2 hq
          refine ⟨by simp [h1], by simp [h2], fun j u us hj => ?_⟩
          cases j with
          | zero =>
            simp only [List.getElem?_cons_zero, Option.some.injEq, Prod.mk.injEq] at hj
            obtain ⟨rfl, rfl⟩ := hj
            refine ⟨⟨t', by simp [shapeC_same _ _ _ hr]⟩, fun hf => ?_⟩
            simp only [List.all_cons, Bool.and_eq_true] at hf
            have hf1 := hf.1
            unfold flat1 at hf1
            rw [ht] at hf1
            exact shapeC_flat _ _ _ hf1 hr
          | succ j =>
            simp only [List.getElem?_cons_succ] at hj ⊢
            obtain ⟨q1, q2⟩ := h3 j u us hj
            exact ⟨q1, fun hf => by simp only [List.all_cons, Bool.and_eq_true] at hf; exact q2 hf.2⟩

theorem BoxAt.flat {hp hp' : Nat → List Cp} {n n' : Nat} {g : Nat} {cs : List C} (h : BoxAt hp n w g cs) (hf : cs.all flatC = true) : BoxAt hp' n' w g cs := by
  obtain ⟨xs, t, h1, h2⟩ := h
  exact ⟨xs, t, h1, flats_rel h2 hf⟩

theorem all_get {cs : List C} (h : cs.all flatC = true) {j : Nat} {c : C} (hj : cs[j]? = some c) : flatC c = true := List.all_eq_true.1 h c (List.mem_of_getElem? hj)

theorem CpAt.flat {hp hp' : Nat → List Cp} {n n' kd kd' : Nat} {c : Cp} {cs : List C} (h : CpAt hp n w c kd cs) (hf : cs.all flatC = true) (hk : kd ≠ 0) : CpAt hp' n' w c kd' cs := by
  obtain ⟨q1, q2, xs, t, fz, q3, q4, q5, q6⟩ := h
  refine ⟨q1, q2, xs, t, fz, q3, q4, fun j b hj hb => ?_, fun _ => q6 hk⟩
  obtain ⟨x, hx, hc⟩ := q5 j b hj hb
  exact ⟨x, hx, hc.flat (all_get hf hb)⟩
end Go.Ev
end

section
set_option linter.all false
/- What a call gives is what the evaluator says. -/
namespace Go.Ev
variable {P : Program} {tab : Nat → Option TI} {gd : Nat → List C} {B : Nat → Nat} {vs : List Nat} {m m' m1 : Nm} {s s' : St} {a : Act} {w w' w1 : World} {v v' : V} {rd wr : List Root} {n : Nat} {f : List V}

/-- What the caller keeps of a callee's blocks. -/
def keepOf (m1 : Nm) (lim g : Nat) : Own := match m1.own g with
  | .heap id => if id < lim then .heap id else .none
  | _ => .none
theorem keepOf_ne {lim g : Nat} (h : keepOf m1 lim g ≠ .none) : m1.own g ≠ .none := by
  intro e; unfold keepOf at h; rw [e] at h; exact h rfl
theorem keepOf_heap {lim g id : Nat} (h : m1.own g = .heap id) (hi : id < lim) : keepOf m1 lim g = .heap id := by
  unfold keepOf; rw [h]; exact if_pos hi

theorem plain_rel (hp : plain1 v = true ∨ ∃ us, v = .tup us ∧ us.all plain1 = true) {x : Value} (hx : VR m n v x) (he : m'.hp = m.hp) : VR m' n v x := by
  cases v with
  | one c => simp only [VR] at hx ⊢; rw [he]; exact hx
  | agg cs => obtain ⟨xs, h1, h2⟩ := hx; exact ⟨xs, h1, by rw [he]; exact h2⟩
  | tup us => obtain ⟨xs, h1, h2⟩ := hx; exact ⟨xs, h1, h2.mono fun _ _ h => h.hp (by rw [he])⟩
  | any => trivial
  | ptr p => rcases hp with hp | ⟨us, hp, _⟩ <;> cases hp
  | clo g c => rcases hp with hp | ⟨us, hp, _⟩ <;> cases hp

section
variable {roots : List Root} {lk : Bool} {bs bs' : List Box} {r : V} {x : Value} {H' Hc H2 : Heap} {B' : Nat → Nat}

theorem back_own (hL : Left gd B' (m.callee roots n lk) bs Hc w (r, bs', H') x m1 w1) {hp2 : Nat → List Cp} {lim g id : Nat} (h : m1.own g = .heap id) (hi : id < lim) :
    (m.back w.heap.size hp2 (keepOf m1 lim)).own g = .heap id := by
  simp only [Nm.back]
  split
  · rename_i hg
    have := hL.kept.own g hg
    rw [h] at this
    exact (callee_heap this.symm).1
  · exact keepOf_heap h hi

theorem copy_lt (h : SRel gd B vs m { s with fr := f } a w) {id kd : Nat} {cs : List C} (hi : s.H[id]? = some (.mem kd cs)) {c : Cp} (hc : c ∈ m.hp id) : c.g < w.heap.size := by
  obtain ⟨_, _, xs, t, fz, hx, _⟩ := h.heap.cells id kd cs hi c hc
  exact lt_of_get hx

theorem back_ro (h : SRel gd B vs m { s with fr := f } a w) {hp2 : Nat → List Cp} {keep : Nat → Own} {id : Nat} {cs : List C} (hi : s.H[id]? = some (.mem 0 cs)) {c : Cp} (hc : c ∈ m.hp id) :
    (m.back w.heap.size hp2 keep).own c.g = .none := by
  simp only [Nm.back]
  rw [if_pos (copy_lt h hi hc)]
  exact h.heap.ro id cs hi c hc

theorem bnd_back {B : Nat → Nat} {n0 n N N' id : Nat} (h0 : n0 ≤ n) (h1 : n ≤ N) (h2 : n ≤ id → N' ≤ N) : bnd (bnd B n0 n) n N' id ≤ bnd B n0 N id := by
  unfold bnd
  by_cases a : id < n
  · rw [if_pos a]
    by_cases b : id < n0
    · rw [if_pos b, if_pos b]; exact Nat.le_refl _
    · rw [if_neg b, if_neg b]; exact h1
  · rw [if_neg a, if_neg (by omega)]; exact h2 (by omega)

theorem back_heap (h : SRel gd B vs m { s with fr := f } a w) (hL : Left gd (bnd B s.n0 s.H.length) (m.callee roots s.H.length false) bs s.H w (r, bs', H') x m1 w1)
    (hle : s.H.length ≤ H2.length) (hget : ∀ id, id < H2.length → H2[id]? = H'[id]?) (hbd : ∀ id, s.H.length ≤ id → id < H2.length → H'.length ≤ H2.length) :
    HRel (m.back w.heap.size m1.hp (keepOf m1 H2.length)) w1 H2 (bnd B s.n0 H2.length) := by
  have hg : ∀ {id : Nat} {b : Blk}, H2[id]? = some b → H'[id]? = some b ∧ id < H2.length := fun hi => by
    have hlt := (List.getElem?_eq_some_iff.1 hi).1
    exact ⟨by rw [← hget _ hlt]; exact hi, hlt⟩
  exact {
    cells := fun id kd cs hi c hc => by
      obtain ⟨h1, h2⟩ := hg hi
      exact (hL.heap.cells id kd cs h1 c hc).mono (bnd_back h.n0 hle fun hn => hbd id hn h2) (fun _ _ _ h => h) rfl
    one := fun id cs hi => hL.heap.one id cs (hg hi).1
    own := fun id kd cs hi hk c hc => back_own hL (hL.heap.own id kd cs (hg hi).1 hk c hc) (hg hi).2
    ro := fun id cs hi c hc => by
      have h1 := hL.ro id cs (hg hi).1
      have h2 := (hL.dead id _ h1 rfl).2
      have hc' : c ∈ m1.hp id := hc
      rw [h2] at hc'
      exact back_ro h h1 hc'
    map := fun id es hi c hc => ⟨(hL.heap.map id es (hg hi).1 c hc).1, back_own hL (hL.heap.map id es (hg hi).1 c hc).2 (hg hi).2⟩
    mone := fun id es hi => hL.heap.mone id es (hg hi).1 }

theorem lock_len : (s.H.map lockB).length = s.H.length := by simp

theorem still_lock {b : Blk} : (lockB b).still = true := by cases b <;> rfl
theorem still_same {b : Blk} (h : b.still = true) : lockB b = b := by
  cases b with
  | dead => rfl
  | mem kd cs => simp [Blk.still] at h; subst h; rfl
  | map es => cases h

/-- Behind a locked call: what was there is as it was. -/
theorem lock_heap (h : SRel gd B vs m { s with fr := f } a w) (hL : Left gd (bnd B s.n0 s.H.length) (m.callee roots s.H.length true) bs (s.H.map lockB) w (r, bs', H') x m1 w1)
    (h2 : H2 = s.H ∨ H2 = s.H ++ H'.drop s.H.length) :
    HRel (m.back w.heap.size m1.hp (keepOf m1 H2.length)) w1 H2 (bnd B s.n0 H2.length) := by
  have hlen : s.H.length ≤ H'.length := by have := hL.len; rw [lock_len] at this; exact this
  have hle : s.H.length ≤ H2.length := by rcases h2 with rfl | rfl <;> simp
  have hhp : ∀ {id : Nat} {b : Blk}, s.H[id]? = some b → m1.hp id = m.hp id := fun {id b} hb => by
    have h3 : (s.H.map lockB)[id]? = some (lockB b) := by rw [List.getElem?_map, hb]; rfl
    exact (hL.dead id _ h3 still_lock).2
  have hold : ∀ {id : Nat} {b : Blk}, H2[id]? = some b → s.H[id]? = some b ∨ (s.H.length ≤ id ∧ H2.length = H'.length ∧ id < H2.length ∧ H'[id]? = some b) := fun {id b} hb => by
    have hlt := (List.getElem?_eq_some_iff.1 hb).1
    rcases h2 with rfl | rfl
    · exact .inl hb
    · by_cases hi : id < s.H.length
      · rw [List.getElem?_append_left hi] at hb; exact .inl hb
      · rw [List.getElem?_append_right (by omega), List.getElem?_drop] at hb
        rw [show s.H.length + (id - s.H.length) = id from by omega] at hb
        exact .inr ⟨by omega, by simp; omega, hlt, hb⟩
  have hsame : ∀ {id : Nat} {b : Blk}, s.H[id]? = some b → ∀ c ∈ m.hp id, c.g < w.heap.size → (m.own c.g = .none ∨ m.own c.g = .heap id) → w1.heap[c.g]? = w.heap[c.g]? := fun {id b} hb c hc hl ho => by
    refine hL.kept.same c.g hl ?_
    rcases ho with ho | ho
    · exact callee_none ho
    · exact callee_lock ho rfl
  have hmono : ∀ id, id < s.H.length → ∀ c ∈ m.hp id, c ∈ m1.hp id := fun id hid c hc => hL.kept.hp id (by rw [lock_len]; exact hid) c hc
  have hbd : ∀ id, bnd B s.n0 s.H.length id ≤ bnd B s.n0 H2.length id := fun id => by
    unfold bnd; split
    · exact Nat.le_refl _
    · exact hle
  have hback : ∀ {g : Nat} {o : Own}, g < w.heap.size → m.own g = o → (m.back w.heap.size m1.hp (keepOf m1 H2.length)).own g = o := fun hg ho => by
    simp only [Nm.back]; rw [if_pos hg]; exact ho
  have hnew : ∀ {g id : Nat}, m1.own g = .heap id → id < H2.length → (m.back w.heap.size m1.hp (keepOf m1 H2.length)).own g = .heap id := fun hg hi => back_own hL hg hi
  exact {
    cells := fun id kd cs hi c hc => by
      rcases hold hi with hb | ⟨h1, h2, h3, hb⟩
      · rw [show (m.back w.heap.size m1.hp (keepOf m1 H2.length)).hp id = m1.hp id from rfl, hhp hb] at hc
        have hl := copy_lt h hb hc
        refine (h.heap.cells id kd cs hb c hc).mono (hbd id) (fun k hk => hmono k ?_) (hsame hb c hc hl ?_)
        · exact Nat.lt_of_lt_of_le hk (bnd_le h id)
        · by_cases hk : kd = 0
          · subst hk; exact .inl (h.heap.ro id cs hb c hc)
          · exact .inr (h.heap.own id kd cs hb hk c hc)
      · exact (hL.heap.cells id kd cs hb c hc).mono (by rw [lock_len]; exact bnd_back h.n0 hle fun _ => by show H'.length ≤ H2.length; omega) (fun _ _ _ h => h) rfl
    one := fun id cs hi => by
      rcases hold hi with hb | ⟨h1, h2, h3, hb⟩
      · obtain ⟨g, hg⟩ := h.heap.one id cs hb
        exact ⟨g, fun c hc => hg c (by rw [← hhp hb]; exact hc)⟩
      · exact hL.heap.one id cs hb
    own := fun id kd cs hi hk c hc => by
      rcases hold hi with hb | ⟨h1, h2, h3, hb⟩
      · rw [show (m.back w.heap.size m1.hp (keepOf m1 H2.length)).hp id = m1.hp id from rfl, hhp hb] at hc
        exact hback (copy_lt h hb hc) (h.heap.own id kd cs hb hk c hc)
      · exact hnew (hL.heap.own id kd cs hb hk c hc) h3
    ro := fun id cs hi c hc => by
      rcases hold hi with hb | ⟨h1, h2, h3, hb⟩
      · rw [show (m.back w.heap.size m1.hp (keepOf m1 H2.length)).hp id = m1.hp id from rfl, hhp hb] at hc
        exact hback (copy_lt h hb hc) (h.heap.ro id cs hb c hc)
      · have := (List.getElem?_eq_some_iff.1 (hL.ro id cs hb)).1
        rw [lock_len] at this
        omega
    map := fun id es hi c hc => by
      rcases hold hi with hb | ⟨h1, h2, h3, hb⟩
      · rw [show (m.back w.heap.size m1.hp (keepOf m1 H2.length)).hp id = m1.hp id from rfl, hhp hb] at hc
        obtain ⟨q1, q2⟩ := h.heap.map id es hb c hc
        have hl : c.g < w.heap.size := h.lt _ (by rw [show m.own c.g = _ from q2]; simp)
        exact ⟨q1.mono (hsame hb c hc hl (.inr q2)), hback hl q2⟩
      · exact ⟨(hL.heap.map id es hb c hc).1, hnew (hL.heap.map id es hb c hc).2 h3⟩
    mone := fun id es hi => by
      rcases hold hi with hb | ⟨h1, h2, h3, hb⟩
      · obtain ⟨g, hg⟩ := h.heap.mone id es hb
        exact ⟨g, fun c hc => hg c (by rw [← hhp hb]; exact hc)⟩
      · exact hL.heap.mone id es hb }

/-- What stands behind a call. -/
def CallEnd (gd : Nat → List C) (B : Nat → Nat) (vs : List Nat) (m : Nm) (s : St) (f : List V) (a : Act) (w : World) (s' : St) (v : V) (lk : Bool) (x : Value) (w' : World) : Prop :=
  ∃ m', VR m' s'.H.length v x ∧ Aft gd B vs m { s with fr := f } a w { s' with fr := f } m' w' ∧ (lk = true → Grows s.H s'.H) ∧ s'.fr = s.fr

theorem fresh_cases (n : Nat) (r : V) (H' : Heap) : freshR n r H' = (r, H') ∨
    ∃ id len sz kd cs, r = .one (.sl id 0 len sz) ∧ H'[id]? = some (.mem kd cs) ∧ n ≤ id ∧ cs.length = len * sz ∧ cs.all flatC = true ∧ freshR n r H' = (.one (.sl n 0 len sz), H'.take n ++ [.mem 2 cs]) := by
  unfold freshR
  split
  · rename_i c
    unfold freshC
    split
    · rename_i id len sz
      split
      · rename_i kd cs hg
        cases hb : (decide (n ≤ id) && (cs.length == len * sz) && cs.all flatC) with
        | false => exact .inl rfl
        | true =>
          simp only [Bool.and_eq_true, decide_eq_true_eq, beq_iff_eq] at hb
          exact .inr ⟨id, len, sz, kd, cs, rfl, getD_get hg, hb.1.1, hb.1.2, hb.2, rfl⟩
      · exact .inl rfl
    · exact .inl rfl
  · exact .inl rfl

def hpAt (m1 : Nm) (n : Nat) (c : Cp) (k : Nat) : List Cp := if k = n then [c] else m1.hp k

theorem call_back (h : SRel gd B vs m { s with fr := f } a w) (hb : boxes s roots = some bs) (hv : ∀ b, .l b ∈ roots → b ∉ vs) {ty : Nat} {bs1 : List Box}
    (hL : Left gd (bnd B s.n0 s.H.length) (m.callee roots s.H.length lk) bs (if lk then s.H.map lockB else s.H) w (r, bs', H') x m1 w1)
    (hr : shapeV tab ty r some = some v) (hs : shapeB tab bs bs' some = some bs1) :
    (lk = false ∧ bs.all (fun b => flat1 tab b.1) = true ∧ newT tab ty = true →
      CallEnd gd B vs m s f a w { putBoxes s roots bs1 with H := (freshR s.H.length v H').2 } (freshR s.H.length v H').1 lk x w1) ∧
    CallEnd gd B vs m s f a w { putBoxes s roots bs1 with H := heapBack lk (flatT tab ty && bs.all (fun b => flat1 tab b.1)) s.H H' } v lk x w1 := by
  obtain ⟨hv1, hv2⟩ := shapeV_same hr
  subst hv1
  obtain ⟨hb1, hb2, hb3⟩ := shapeB_same bs bs' bs1 hs
  obtain ⟨p1, p2⟩ := boxes_get roots bs hb
  obtain ⟨e1, e2, e3⟩ := putBoxes_rest roots bs1 s
  have hcl : (if lk = true then s.H.map lockB else s.H).length = s.H.length := by cases lk <;> simp
  have hlen : s.H.length ≤ H'.length := by have := hL.len; rw [hcl] at this; exact this
  have hmono : ∀ id, id < s.H.length → ∀ c ∈ m.hp id, c ∈ m1.hp id := fun id hid c hc => hL.kept.hp id (by rw [hcl]; exact hid) c hc
  have hklt : ∀ lim g, keepOf m1 lim g ≠ .none → g < w1.heap.size := fun lim g hg => hL.lt g (keepOf_ne hg)
  have go := fun {H2 : Heap} {hp2 : Nat → List Cp} {keep : Nat → Own} => back_rel (H2 := H2) (hp2 := hp2) (keep := keep) h hb hv hL hcl (hb1.trans p1) (fun j t cs hj => (hb3 j t cs hj).1)
  -- all that the callee made goes on
  have all : lk = false → CallEnd gd B vs m s f a w { putBoxes s roots bs1 with H := H' } v lk x w1 := by
    rintro rfl
    refine ⟨m.back w.heap.size m1.hp (keepOf m1 H'.length), plain_rel hL.plain hL.val rfl, go hlen hmono (fun _ _ _ _ hB => hB) (back_heap h hL hlen (fun _ _ => rfl) (fun _ _ _ => Nat.le_refl _)) (hklt _) (fun id b hi hst => hL.dead id b hi hst) hL.ro, (fun e => by cases e), e2⟩
  refine ⟨?_, ?_⟩
  · rintro ⟨rfl, hfl, -⟩
    rcases fresh_cases s.H.length v H' with he | ⟨id, len, sz, kd, cs, rfl, hi, hn, hcs, hf, he⟩
    · rw [he]; exact all rfl
    · rw [he]
      obtain ⟨i1, i2, c, i3, cap, ad, i4, i5, i6, i7, i8⟩ := (hL.val : CR m1.hp H'.length (.sl id 0 len sz) x)
      have hkd : kd ≠ 0 := by
        rintro rfl
        have := (List.getElem?_eq_some_iff.1 (hL.ro id cs hi)).1
        rw [hcl] at this
        omega
      have hcp := hL.heap.cells id kd cs hi c i3
      have hown : m1.own c.g = .heap id := hL.heap.own id kd cs hi hkd c i3
      have hge : w.heap.size ≤ c.g := by
        apply Nat.le_of_not_lt
        intro hlt
        have := hL.kept.own c.g hlt
        rw [hown] at this
        have := (callee_heap this.symm).2.2
        omega
      have htl : (H'.take s.H.length).length = s.H.length := by simp; omega
      have hl2 : (H'.take s.H.length ++ [Blk.mem 2 cs]).length = s.H.length + 1 := by simp; omega
      have hget : ∀ k, k < s.H.length → (H'.take s.H.length ++ [Blk.mem 2 cs])[k]? = H'[k]? := fun k hk => by
        rw [List.getElem?_append_left (by omega), List.getElem?_take, if_pos hk]
      have hcase : ∀ {k : Nat} {b : Blk}, (H'.take s.H.length ++ [Blk.mem 2 cs])[k]? = some b → (k < s.H.length ∧ H'[k]? = some b) ∨ (k = s.H.length ∧ b = .mem 2 cs) := fun {k b} hk => by
        by_cases hk' : k < s.H.length
        · exact .inl ⟨hk', by rw [← hget k hk']; exact hk⟩
        · have hlt := (List.getElem?_eq_some_iff.1 hk).1
          have hke : k = s.H.length := by omega
          subst hke
          rw [List.getElem?_append_right (by omega), htl, Nat.sub_self] at hk
          simp only [List.getElem?_cons_zero, Option.some.injEq] at hk
          exact .inr ⟨rfl, hk.symm⟩
      have hp2 : ∀ {k : Nat}, k < s.H.length → (hpAt m1 s.H.length c) k = m1.hp k := fun {k} hk => by unfold hpAt; exact if_neg (by omega)
      have hpn : hpAt m1 s.H.length c s.H.length = [c] := by unfold hpAt; exact if_pos rfl
      have hB := back_heap (H2 := H'.take s.H.length) h hL (by omega) (fun k hk => by rw [List.getElem?_take, if_pos (by omega)]) (fun k h1 h2 => by omega)
      have hbb : ∀ {g k : Nat}, (m.back w.heap.size m1.hp (keepOf m1 (H'.take s.H.length).length)).own g = .heap k → k < s.H.length → (m1.own g = .heap k ∨ g < w.heap.size) →
          (m.back w.heap.size (hpAt m1 s.H.length c) (fun g => if g = c.g then .heap s.H.length else keepOf m1 s.H.length g)).own g = .heap k := fun {g k} hg hk hm => by
        simp only [Nm.back] at hg ⊢
        rw [htl] at hg
        split
        · rename_i hlt; rw [if_pos hlt] at hg; exact hg
        · rename_i hlt
          rw [if_neg hlt] at hg
          rcases hm with hm | hm
          · rw [if_neg (by rintro rfl; rw [hown] at hm; injection hm with hm; omega)]; exact hg
          · exact absurd hm hlt
      have hbn : ∀ {g : Nat}, (m.back w.heap.size m1.hp (keepOf m1 (H'.take s.H.length).length)).own g = .none → g < w.heap.size →
          (m.back w.heap.size (hpAt m1 s.H.length c) (fun g => if g = c.g then .heap s.H.length else keepOf m1 s.H.length g)).own g = .none := fun {g} hg hlt => by
        simp only [Nm.back] at hg ⊢
        rw [if_pos hlt] at hg ⊢
        exact hg
      have hmono2 : ∀ k, k < s.H.length → ∀ d ∈ m1.hp k, d ∈ (hpAt m1 s.H.length c) k := fun k hk d hd => by rw [hp2 hk]; exact hd
      refine ⟨_, ?_, go (H2 := H'.take s.H.length ++ [Blk.mem 2 cs]) (hp2 := hpAt m1 s.H.length c) (keep := fun g => if g = c.g then .heap s.H.length else keepOf m1 s.H.length g)
        (by omega) (fun k hk d hd => by rw [hp2 hk]; exact hmono k hk d hd) (fun j t ds hj hB => hB.flat ((hb3 j t ds hj).2 hfl)) ?_ ?_ (fun k b hk hst => ?_) (fun k ds hk => ?_), (fun e => by cases e), e2⟩
      · refine ⟨by simp; omega, i2, c, by simp [Nm.back, hpn], cap, ad, i4, i5, by simpa using i6, i7, i8⟩
      · exact {
          cells := fun k kd' ds hk d hd => by
            rcases hcase hk with ⟨hk1, hk2⟩ | ⟨rfl, hk2⟩
            · have hd' : d ∈ m1.hp k := by rw [← hp2 hk1]; exact hd
              have := hB.cells k kd' ds (by rw [List.getElem?_take, if_pos hk1]; exact hk2) d hd'
              refine this.mono ?_ (fun j hj => hmono2 j ?_) rfl
              · unfold bnd; split
                · exact Nat.le_refl _
                · omega
              · have := bnd_le h k
                rw [htl] at hj
                exact Nat.lt_of_lt_of_le hj this
            · injection hk2 with hk2 hk3
              subst hk2
              subst hk3
              simp only [Nm.back, hpn, List.mem_singleton] at hd
              subst hd
              exact hcp.flat hf hkd
          one := fun k ds hk => by
            rcases hcase hk with ⟨hk1, hk2⟩ | ⟨rfl, hk2⟩
            · obtain ⟨g, hg⟩ := hL.heap.one k ds hk2
              exact ⟨g, fun d hd => hg d (by rw [← hp2 hk1]; exact hd)⟩
            · injection hk2 with hk2 hk3
              subst hk3
              refine ⟨c.g, fun d hd _ => ?_⟩
              simp only [Nm.back, hpn, List.mem_singleton] at hd
              subst hd
              refine ⟨rfl, ?_⟩
              have := hcp.1
              omega
          own := fun k kd' ds hk hkd' d hd => by
            rcases hcase hk with ⟨hk1, hk2⟩ | ⟨rfl, hk2⟩
            · have hd' : d ∈ m1.hp k := by rw [← hp2 hk1]; exact hd
              exact hbb (hB.own k kd' ds (by rw [List.getElem?_take, if_pos hk1]; exact hk2) hkd' d hd') hk1 (.inl (hL.heap.own k kd' ds hk2 hkd' d hd'))
            · simp only [Nm.back, hpn, List.mem_singleton] at hd
              subst hd
              simp only [Nm.back]
              rw [if_neg (by omega)]; simp
          ro := fun k ds hk d hd => by
            rcases hcase hk with ⟨hk1, hk2⟩ | ⟨rfl, hk2⟩
            · have hd' : d ∈ m1.hp k := by rw [← hp2 hk1]; exact hd
              have h1 := hL.ro k ds hk2
              have h2 := (hL.dead k _ h1 rfl).2
              rw [h2] at hd'
              exact hbn (back_ro h h1 hd') (copy_lt h h1 hd')
            · cases hk2
          map := fun k es hk d hd => by
            rcases hcase hk with ⟨hk1, hk2⟩ | ⟨rfl, hk2⟩
            · have hd' : d ∈ m1.hp k := by rw [← hp2 hk1]; exact hd
              obtain ⟨q1, q2⟩ := hB.map k es (by rw [List.getElem?_take, if_pos hk1]; exact hk2) d hd'
              exact ⟨q1, hbb q2 hk1 (.inl (hL.heap.map k es hk2 d hd').2)⟩
            · cases hk2
          mone := fun k es hk => by
            rcases hcase hk with ⟨hk1, hk2⟩ | ⟨rfl, hk2⟩
            · obtain ⟨g, hg⟩ := hL.heap.mone k es hk2
              exact ⟨g, fun d hd => hg d (by rw [← hp2 hk1]; exact hd)⟩
            · cases hk2 }
      · intro g hg
        split at hg
        · rename_i e; subst e; exact hL.lt _ (by rw [hown]; simp)
        · exact hklt _ _ hg
      · have hk1 := (List.getElem?_eq_some_iff.1 hk).1
        obtain ⟨q1, q2⟩ := hL.dead k b hk hst
        exact ⟨by rw [hget k hk1]; exact q1, by rw [hp2 hk1]; exact q2⟩
      · rcases hcase hk with ⟨hk1, hk2⟩ | ⟨rfl, hk2⟩
        · exact hL.ro k ds hk2
        · cases hk2
  · cases hg : (flatT tab ty && bs.all (fun b => flat1 tab b.1)) with
    | true =>
      simp only [Bool.and_eq_true] at hg
      have hfv := hv2 hg.1
      cases lk with
      | false =>
        simp only [heapBack]
        have htl : (H'.take s.H.length).length = s.H.length := by simp; omega
        refine ⟨m.back w.heap.size m1.hp (keepOf m1 (H'.take s.H.length).length), flatV_rel hL.val hfv, go (H2 := H'.take s.H.length) (by omega) hmono (fun j t ds hj hB => hB.flat ((hb3 j t ds hj).2 hg.2))
          (back_heap h hL (by omega) (fun k hk => by rw [List.getElem?_take, if_pos (by omega)]) (fun k h1 h2 => by omega)) (hklt _) (fun id b hi hst => ?_) (fun id cs hi => ?_), (fun e => by cases e), e2⟩
        · have hk1 := (List.getElem?_eq_some_iff.1 hi).1
          obtain ⟨q1, q2⟩ := hL.dead id b hi hst
          exact ⟨by rw [List.getElem?_take, if_pos hk1]; exact q1, q2⟩
        · rw [List.getElem?_take] at hi
          split at hi
          · exact hL.ro id cs hi
          · cases hi
      | true =>
        simp only [heapBack]
        refine ⟨m.back w.heap.size m1.hp (keepOf m1 s.H.length), flatV_rel hL.val hfv, go (H2 := s.H) (Nat.le_refl _) hmono (fun j t ds hj hB => hB.flat ((hb3 j t ds hj).2 hg.2))
          (lock_heap h hL (.inl rfl)) (hklt _) (fun id b hi hst => ⟨hi, ?_⟩) (fun id cs hi => hi), fun _ => Grows.refl _, e2⟩
        exact (hL.dead id (lockB b) (by rw [if_pos rfl, List.getElem?_map, hi]; rfl) still_lock).2
    | false =>
      cases lk with
      | false => simp only [heapBack]; exact all rfl
      | true =>
        simp only [heapBack]
        have hl2 : (s.H ++ H'.drop s.H.length).length = H'.length := by simp; omega
        refine ⟨_, ?_, go (H2 := s.H ++ H'.drop s.H.length) (by omega) hmono (fun j t ds hj hB => by rw [hl2]; exact hB)
          (lock_heap h hL (.inr rfl)) (hklt _) (fun id b hi hst => ⟨?_, ?_⟩) (fun id cs hi => ?_), fun _ => Grows.push _ _, e2⟩
        · show VR _ (s.H ++ H'.drop s.H.length).length v x
          rw [hl2]
          exact plain_rel hL.plain hL.val rfl
        · rw [List.getElem?_append_left (List.getElem?_eq_some_iff.1 hi).1]; exact hi
        · exact (hL.dead id (lockB b) (by rw [if_pos rfl, List.getElem?_map, hi]; rfl) still_lock).2
        · by_cases hid : id < s.H.length
          · rw [List.getElem?_append_left hid] at hi; exact hi
          · rw [List.getElem?_append_right (by omega), List.getElem?_drop, show s.H.length + (id - s.H.length) = id from by omega] at hi
            have := (List.getElem?_eq_some_iff.1 (hL.ro id cs hi)).1
            rw [hcl] at this
            omega

theorem call_run {call : Nat → List V → List Box → Heap → Option Res} (hC : CallOK P gd call) (h : SRel gd B vs m { s with fr := f } a w) {args : List V} {xs : Array Value} (ha : All2 (VR m s.H.length) args xs.toList)
    (hv : ∀ b, .ptr (.loc b 0) ∈ args → b ∉ vs) {g ty : Nat} {rs : List Root} (hc : callV tab call lk g args ty s trip = some (v, s', rs)) :
    (callFunc g xs).run P w = .ok (.enter g xs) w ∧ (Calls P g xs w fun e w' => ∃ x, e = .returned x ∧ CallEnd gd B vs m s f a w s' v lk x w') ∨
    ∃ x, (callFunc g xs).run P w = .ok (.value x) w ∧ CallEnd gd B vs m s f a w s' v lk x w := by
  unfold callV at hc
  split at hc
  · cases hc
  · rename_i ws roots hargs
    split at hc
    · cases hc
    · rename_i bs hbs
      cases hcall : call g ws bs (if lk then s.H.map lockB else s.H) with
      | none => rw [hcall] at hc; cases hc
      | some res =>
        obtain ⟨r, bs', H'⟩ := res
        rw [hcall, Option.bind_some] at hc
        dsimp only at hc
        rw [shapeV_eq] at hc
        cases hr : shapeV tab ty r some with
        | none => rw [hr] at hc; cases hc
        | some r1 =>
          rw [hr, Option.bind_some, shapeB_eq] at hc
          cases hs : shapeB tab bs bs' some with
          | none => rw [hs] at hc; cases hc
          | some bs1 =>
            rw [hs, Option.bind_some] at hc
            have hn := argsIn_nodup args [] roots ws hargs (by simp)
            have hvr : ∀ b, .l b ∈ roots → b ∉ vs := fun b hb => by
              rcases argsIn_mem args [] roots ws hargs b hb with h | h
              · cases h
              · exact hv b h
            have hE := callee_entry (lk := lk) h hbs hn hvr
            have hcl : (if lk = true then s.H.map lockB else s.H).length = s.H.length := by cases lk <;> simp
            have hA := argsIn_rel (mc := m.callee roots s.H.length lk) (m := m) rfl args [] roots ws xs.toList hargs (fun j _ => rfl) ha
            have hEnd : ∀ x m1 w1, Left gd (bnd B s.n0 s.H.length) (m.callee roots s.H.length lk) bs (if lk then s.H.map lockB else s.H) w (r, bs', H') x m1 w1 → CallEnd gd B vs m s f a w s' v lk x w1 := by
              intro x m1 w1 hL
              obtain ⟨k1, k2⟩ := call_back h hbs hvr hL hr hs
              split at hc
              · rename_i hcond
                simp only [trip, Option.some.injEq, Prod.mk.injEq] at hc
                obtain ⟨rfl, rfl, -⟩ := hc
                exact k1 hcond
              · simp only [trip, Option.some.injEq, Prod.mk.injEq] at hc
                obtain ⟨rfl, rfl, -⟩ := hc
                exact k2
            rcases hC g ws bs _ _ hcall (bnd B s.n0 s.H.length) (m.callee roots s.H.length lk) w xs hE (by rw [hcl]; exact hA) with ⟨h1, h2⟩ | ⟨x, m1, h1, h2⟩
            · refine .inl ⟨h1, h2.mono fun e w1 he => ?_⟩
              obtain ⟨x, m1, rfl, hL⟩ := he
              exact ⟨x, rfl, hEnd x m1 w1 hL⟩
            · exact .inr ⟨x, h1, hEnd x m1 w h2⟩
end
end Go.Ev
end

section
set_option linter.all false
/- Operations, one behind the other. -/
namespace Go.Ev
variable {P : Program} {tab : Nat → Option TI} {gd : Nat → List C} {B : Nat → Nat} {vs : List Nat} {m m' m1 : Nm} {s s' : St} {a : Act} {w w' w1 : World} {v v' : V} {rd wr : List Root} {n : Nat} {f : List V}

/-- What is so of all that an activation goes on to. -/
structure Trans (m : Nm) (s : St) (w : World) (s' : St) (m' : Nm) (w' : World) : Prop where
  kept : ∀ m0 w0, Kept m0 s.n0 w0 m w → Kept m0 s.n0 w0 m' w'
  len : s.H.length ≤ s'.H.length
  dead : ∀ id b, s.H[id]? = some b → b.still = true → s'.H[id]? = some b ∧ m'.hp id = m.hp id
  ro : ∀ (id : Nat) (cs : List C), s'.H[id]? = some (.mem 0 cs) → s.H[id]? = some (.mem 0 cs)
  n0 : s'.n0 = s.n0

theorem Trans.refl : Trans m s w s m w := ⟨fun _ _ h => h, Nat.le_refl _, fun _ _ h _ => ⟨h, rfl⟩, fun _ _ h => h, rfl⟩
theorem Trans.trans {s'' : St} {m'' : Nm} {w'' : World} (h : Trans m s w s' m' w') (h' : Trans m' s' w' s'' m'' w'') : Trans m s w s'' m'' w'' where
  kept := fun m0 w0 hk => by have := h'.kept m0 w0; rw [h.n0] at this; exact this (h.kept m0 w0 hk)
  len := Nat.le_trans h.len h'.len
  dead := fun id b hb hs => by
    obtain ⟨h1, h2⟩ := h.dead id b hb hs
    obtain ⟨h3, h4⟩ := h'.dead id b h1 hs
    exact ⟨h3, by rw [h4, h2]⟩
  ro := fun id cs hi => h.ro id cs (h'.ro id cs hi)
  n0 := by rw [h'.n0, h.n0]
theorem Trans.of_H {s2 s2' : St} (h : Trans m s w s' m' w') (h1 : s2.H = s.H) (h2 : s2.n0 = s.n0) (h3 : s2'.H = s'.H) (h4 : s2'.n0 = s'.n0) : Trans m s2 w s2' m' w' where
  kept := by rw [h2]; exact h.kept
  len := by rw [h1, h3]; exact h.len
  dead := by rw [h1, h3]; exact h.dead
  ro := by rw [h1, h3]; exact h.ro
  n0 := by rw [h4, h2, h.n0]
theorem Aft.trans (h : Aft gd B vs m s a w s' m' w') : Trans m s w s' m' w' := ⟨h.kept, h.len, h.dead, h.ro, h.n0⟩

/-- What is so when an operation has been carried out. -/
def Goes (P : Program) (o : Oper) (a : Act) (w : World) (R : Value → World → Prop) : Prop :=
  (∃ r x w', (execOp a.eval o).run P w = .ok r w' ∧ Gives r x ∧ R x w') ∨
  ∃ f xs, (execOp a.eval o).run P w = .ok (.enter f xs) w ∧ Calls P f xs w fun e w' => ∃ x, e = .returned x ∧ R x w'

theorem Goes.wp {o : Oper} {R : Value → World → Prop} {next : Act → World → Prop} {Q : Exit → Act → World → Prop} (h : Goes P o a w R) (hn : ∀ x w', R x w' → next (a.put o.dst x) w') : o.wp P a w next Q := by
  unfold Oper.wp
  rcases h with ⟨r, x, w', h1, h2, h3⟩ | ⟨f, xs, h1, h2⟩
  · rw [h1]
    rcases h2 with rfl | ⟨rfl, rfl⟩
    · exact hn _ _ h3
    · exact hn _ _ h3
  · rw [h1]
    refine h2.mono fun e w' he => ?_
    obtain ⟨x, rfl, hR⟩ := he
    exact hn _ _ hR

theorem Goes.mono {o : Oper} {R R' : Value → World → Prop} (h : Goes P o a w R) (hr : ∀ x w', R x w' → R' x w') : Goes P o a w R' := by
  rcases h with ⟨r, x, w', h1, h2, h3⟩ | ⟨f, xs, h1, h2⟩
  · exact .inl ⟨r, x, w', h1, h2, hr _ _ h3⟩
  · exact .inr ⟨f, xs, h1, h2.mono fun e w' he => by obtain ⟨x, h3, h4⟩ := he; exact ⟨x, h3, hr _ _ h4⟩⟩

theorem SRel.put (h : SRel gd B vs m s a w) {x : Value} (hv : VR m s.H.length v x) (d : Option Nat) : SRel gd B vs m (s.put d v) (a.put d x) w := by
  cases d with
  | none => exact h
  | some d =>
    exact {
      fr := by
        show All2 _ (s.fr.set d v) (a.tmps.setIfInBounds d x).toList
        rw [Array.toList_setIfInBounds]
        exact h.fr.set d hv
      box := h.box, ref := h.ref, heap := h.heap, n0 := h.n0, B := h.B, lt := h.lt, glob := h.glob, defers := h.defers }

/-- What a call of a function's value is. -/
theorem callee_exec {o : Oper} {c : Call} {fo : Operand} {ρ : Operand → Value} (e : o.op = .call c) (hb : c.callee = .value fo) {g : Nat} {caps : Array Value} (hf : ρ fo = .func (.func g) #[] caps) :
    (execOp ρ o).run P w = (callFunc g (c.args.map ρ ++ caps)).run P w := by
  simp only [execOp, e, resolve, hb, hf, Deferred.ofValue]
  simp [invoke]

theorem args_rel {fr : List V} {ρ : Operand → Value} {xs : List Operand} (h : ∀ x ∈ xs, VR m n (opnd fr x) (ρ x)) : All2 (VR m n) (xs.map (opnd fr)) (xs.map ρ) := by
  refine All2.of_get (by simp) fun i p q hp hq => ?_
  simp only [List.getElem?_map] at hp hq
  cases hg : xs[i]? with
  | none => rw [hg] at hp; cases hp
  | some x =>
    rw [hg] at hp hq
    simp only [Option.map_some, Option.some.injEq] at hp hq
    subst hp
    subst hq
    exact h x (List.mem_of_getElem? hg)

def callB (o : Oper) : Bool :=
  match o.op with
  | .call c => (match c.callee with | .value _ => true | _ => false)
  | _ => false

def capsOf : V → List Nat
  | .clo _ caps => caps
  | _ => []

/-- A call as an operation. -/
theorem callop_run {call : Nat → List V → List Box → Heap → Option Res} (hC : CallOK P gd call) {cx : Option Cx} {o : Oper} (hk : callB o = true) (h : SRel gd B vs m { s with fr := f } a w)
    (hf : ∀ x ∈ o.op.operands.toList, VR m s.H.length (opnd s.fr x) (a.eval x)) (hvs : ∀ x ∈ o.op.operands.toList, ∀ b, ((∃ off, opnd s.fr x = .ptr (.loc b off)) ∨ b ∈ capsOf (opnd s.fr x)) → b ∉ vs)
    (hact : act tab gd call cx o s quad = some (v, s', rd, wr)) :
    Goes P o a w (CallEnd gd B vs m s f a w s' v (lkOf cx)) := by
  unfold callB at hk
  unfold act at hact
  split at hact
  case h_25 =>
    rename_i c e
    rw [e] at hk hf hvs
    simp only at hk
    split at hact
    · rename_i b hb; rw [hb] at hk; cases hk
    · rename_i fo hb
      have hfo : fo ∈ (Op.call c).operands.toList := by simp [Op.operands, Call.operands, hb]
      have hargs : ∀ x ∈ c.args.toList, x ∈ (Op.call c).operands.toList := fun x hx => by simp [Op.operands, Call.operands, hb]; exact .inr (by simpa using hx)
      have hA := args_rel (m := m) (n := s.H.length) (fr := s.fr) (ρ := a.eval) (xs := c.args.toList) fun x hx => hf x (hargs x hx)
      have hFo := hf fo hfo
      split at hact
      · rename_i g hg
        rw [hg] at hFo
        rw [callV_bind] at hact
        cases hc : callV tab call (lkOf cx) g (c.args.toList.map (opnd s.fr)) o.type s trip with
        | none => rw [hc] at hact; cases hact
        | some r =>
          obtain ⟨v1, s1, rs1⟩ := r
          rw [hc] at hact
          injection hact with hact
          injection hact with h1 h2
          injection h2 with h2 h3
          subst h1
          subst h2
          have hv : ∀ b, V.ptr (.loc b 0) ∈ c.args.toList.map (opnd s.fr) → b ∉ vs := fun b hb' => by
            obtain ⟨x, hx, hxe⟩ := List.mem_map.1 hb'
            exact hvs x (hargs x hx) b (.inl ⟨0, hxe⟩)
          have hex := callee_exec (P := P) (w := w) (ρ := a.eval) e hb (show a.eval fo = .func (.func g) #[] #[] from hFo)
          rcases call_run (lk := lkOf cx) hC h (xs := c.args.map a.eval ++ #[]) (by simpa using hA) hv hc with ⟨k1, k2⟩ | ⟨x, k1, k2⟩
          · exact .inr ⟨g, _, by rw [hex]; exact k1, k2⟩
          · exact .inl ⟨_, x, w, by rw [hex]; exact k1, .inl rfl, k2⟩
      · rename_i g caps hg
        rw [hg] at hFo
        rw [callV_bind] at hact
        cases hc : callV tab call (lkOf cx) g (c.args.toList.map (opnd s.fr) ++ caps.map fun b => V.ptr (.loc b 0)) o.type s trip with
        | none => rw [hc] at hact; cases hact
        | some r =>
          obtain ⟨v1, s1, rs1⟩ := r
          rw [hc] at hact
          injection hact with hact
          injection hact with h1 h2
          injection h2 with h2 h3
          subst h1
          subst h2
          have hv : ∀ b, V.ptr (.loc b 0) ∈ c.args.toList.map (opnd s.fr) ++ caps.map (fun b => V.ptr (.loc b 0)) → b ∉ vs := fun b hb' => by
            rcases List.mem_append.1 hb' with hb' | hb'
            · obtain ⟨x, hx, hxe⟩ := List.mem_map.1 hb'
              exact hvs x (hargs x hx) b (.inl ⟨0, hxe⟩)
            · obtain ⟨b', hb1, hb2⟩ := List.mem_map.1 hb'
              injection hb2 with hb2
              injection hb2 with hb2
              subst hb2
              exact hvs fo hfo b' (.inr (by rw [hg]; exact hb1))
          have hex := callee_exec (P := P) (w := w) (ρ := a.eval) e hb (show a.eval fo = .func (.func g) #[] _ from hFo)
          have hcaps : All2 (VR m s.H.length) (caps.map fun b => V.ptr (.loc b 0)) (caps.map fun b => Value.pointer (some ⟨m.lb b, 0, none⟩)) := by
            refine All2.of_get (by simp) fun i p q hp hq => ?_
            simp only [List.getElem?_map] at hp hq
            cases hgi : caps[i]? with
            | none => rw [hgi] at hp; cases hp
            | some x =>
              rw [hgi] at hp hq
              simp only [Option.map_some, Option.some.injEq] at hp hq
              subst hp
              subst hq
              rfl
          rcases call_run (lk := lkOf cx) hC h (xs := c.args.map a.eval ++ (caps.map fun b => Value.pointer (some ⟨m.lb b, 0, none⟩)).toArray) (by simpa using hA.append hcaps) hv hc with ⟨k1, k2⟩ | ⟨x, k1, k2⟩
          · exact .inr ⟨g, _, by rw [hex]; exact k1, k2⟩
          · exact .inl ⟨_, x, w, by rw [hex]; exact k1, .inl rfl, k2⟩
      · cases hact
    · cases hact
  case h_26 => cases hact
  all_goals (rename_i e; rw [e] at hk; cases hk)

/-- What is behind any operation, outside of drawing regions. -/
theorem op_run (hT : TabOk P tab) {call : Nat → List V → List Box → Heap → Option Res} (hC : CallOK P gd call) {o : Oper} (h : SRel gd B [] m s a w) (hact : act tab gd call none o s quad = some (v, s', rd, wr)) :
    Goes P o a w fun x w' => ∃ m', SRel gd B [] m' (s'.put o.dst v) (a.put o.dst x) w' ∧ Trans m s w s' m' w' := by
  have hf : ∀ x ∈ o.op.operands.toList, VR m s.H.length (opnd s.fr x) (a.eval x) := fun x _ => h.opnd x
  by_cases hk : pureB o = true
  · obtain ⟨⟨x, h1, h2⟩, hs, _, _⟩ := pure_run (P := P) (w := w) hT hk hf hact
    subst hs
    exact .inl ⟨_, x, w, h1, .inl rfl, m, h.put h2 o.dst, Trans.refl⟩
  · by_cases hk2 : memB none o = true
    · obtain ⟨r, x, w', m', h1, h2, h3, h4, _, h6⟩ := mem_run (f := s.fr) hT hk2 h hf (fun _ _ _ _ _ => by simp) (fun c hc => by cases hc) hact
      have e : ({ s' with fr := s.fr } : St) = s' := by cases s'; simp only at h6; subst h6; rfl
      rw [e] at h4
      exact .inl ⟨r, x, w', h1, h2, m', h4.rel.put h3 o.dst, h4.trans⟩
    · by_cases hk3 : callB o = true
      · refine (callop_run (f := s.fr) hC hk3 h hf (fun _ _ _ _ => by simp) hact).mono fun x w' he => ?_
        obtain ⟨m', h3, h4, _, h6⟩ := he
        have e : ({ s' with fr := s.fr } : St) = s' := by cases s'; simp only at h6; subst h6; rfl
        rw [e] at h4
        exact ⟨m', h4.rel.put h3 o.dst, h4.trans⟩
      · unfold pureB at hk
        unfold memB at hk2
        unfold callB at hk3
        unfold act at hact
        split at hact
        case h_4 =>
          rename_i el e
          split at hact
          · rename_i d ti hd ht
            split at hact
            · cases hact
            · rename_i hz
              simp only [Option.isSome_none, Bool.false_eq_true, if_false] at hact
              injection hact with hact
              injection hact with e1 e2
              injection e2 with e2 e3
              subst e1
              subst e2
              obtain ⟨zs, z1, z2⟩ := alloc_run (P := P) (w := w) hT ht hz m.hp s.H.length
              have u := New.alloc w (.cells zs.toArray el (0, 0))
              have hS := h.newBox (d := d) (t := el) z2 u
              refine .inl ⟨_, _, _, val_run z1 (by simp only [execOp, e]), .inl rfl, m.box d w.heap.size, hS.put ?_ o.dst, ?_⟩
              · show _ = _
                simp [Nm.box]
              · exact ⟨fun m0 w0 hk => hk.box u, Nat.le_refl _, fun id b hb _ => ⟨hb, rfl⟩, fun _ _ hb => hb, rfl⟩
          · cases hact
        case h_5 =>
          rename_i el x e
          split at hact
          · rename_i d cs hd hc
            simp only [Option.isSome_none, Bool.false_eq_true, if_false] at hact
            split at hact
            · injection hact with hact
              injection hact with e1 e2
              injection e2 with e2 e3
              subst e1
              subst e2
              obtain ⟨zs, z1, z2⟩ := cells_rel (h.opnd x) hc
              have u := New.alloc w (.cells zs.toArray el (0, 0))
              have hS := h.newBox (d := d) (t := el) z2 u
              refine .inl ⟨_, _, _, val_run (box_run (P := P) (w := w) (e := el) z1) (by simp only [execOp, e]), .inl rfl, m.box d w.heap.size, hS.put ?_ o.dst, ?_⟩
              · show _ = _
                simp [Nm.box]
              · exact ⟨fun m0 w0 hk => hk.box u, Nat.le_refl _, fun id b hb _ => ⟨hb, rfl⟩, fun _ _ hb => hb, rfl⟩
            · cases hact
          · cases hact
        case h_26 => cases hact
        case h_25 =>
          rename_i c e
          rw [e] at hk hk2 hk3
          simp only at hk hk2 hk3
          split at hact
          · rename_i b hb
            rw [hb] at hk hk2
            unfold builtinV at hact
            split at hact
            · exact absurd rfl hk
            · exact absurd rfl hk
            · exact absurd rfl hk
            · exact absurd rfl hk2
            · exact absurd rfl hk2
            · cases hact
          · rename_i fo hb; rw [hb] at hk3; exact absurd rfl hk3
          · cases hact
        all_goals (rename_i e; rw [e] at hk hk2 hk3; first | exact absurd rfl hk | exact absurd rfl hk2)

theorem put_self {t : Nat} {b : Bool} (h : s.fr.getD t und = .one (.bool b)) : s.put (some t) (.one (.bool b)) = s := by
  have hlt : t < s.fr.length := by
    apply Nat.lt_of_not_le
    intro hge
    rw [List.getD_eq_getElem?_getD, List.getElem?_eq_none hge] at h
    cases h
  have : s.fr.set t (.one (.bool b)) = s.fr := by
    apply List.ext_getElem?
    intro i
    rw [List.getElem?_set]
    by_cases e : t = i
    · subst e
      rw [if_pos rfl, if_pos hlt]
      rw [List.getD_eq_getElem?_getD, List.getElem?_eq_getElem hlt, Option.getD_some] at h
      rw [List.getElem?_eq_getElem hlt, h]
    · rw [if_neg e]
  simp only [St.put, this]

/-- The outcome of a guard, on both sides. -/
theorem guard_cases {α : Type} {ops : Array Oper} {o : Oper} {yes no : St → Option α} {r : α} (h : guardK ops.toList o.guard s yes no = some r)
    (hv : ∀ j want t, o.guard = some (j, want) → dstOf ops.toList j = some t → VR m n (s.fr.getD t und) (a.tmps.getD t undef)) :
    (Region.wanted o (yielded ops a.tmps) = true ∧ yes s = some r) ∨ (Region.wanted o (yielded ops a.tmps) = false ∧ no s = some r) := by
  unfold guardK at h
  unfold Region.wanted
  cases hg : o.guard with
  | none => rw [hg] at h; exact .inl ⟨rfl, h⟩
  | some jw =>
    obtain ⟨j, want⟩ := jw
    rw [hg] at h
    simp only at h ⊢
    have hd : dstOf ops.toList j = (ops[j]?).bind (·.dst) := by unfold dstOf; rw [Array.getElem?_toList]
    unfold yielded
    rw [← hd]
    cases hdj : dstOf ops.toList j with
    | none =>
      rw [hdj] at h
      exact .inr ⟨by simp, h⟩
    | some t =>
      rw [hdj] at h
      simp only at h
      have hV := hv j want t hg hdj
      simp only [Option.bind_some]
      split at h
      · rename_i b hb
        rw [hb] at hV
        have hx : a.tmps.getD t undef = .bool b := hV
        have hx2 : a.tmps[t]? = some (.bool b) := by
          rw [Array.getD_eq_getD_getElem?] at hx
          cases hgt : a.tmps[t]? with
          | none => rw [hgt] at hx; cases hx
          | some z => rw [hgt] at hx; simp at hx; rw [hx]
        rw [hx2]
        cases b with
        | true =>
          rw [cond_true, put_self hb] at h
          cases want with
          | true => exact .inl ⟨by simp, by simpa using h⟩
          | false => exact .inr ⟨by simp, by simpa using h⟩
        | false =>
          rw [cond_false, put_self hb] at h
          cases want with
          | true => exact .inr ⟨by simp, by simpa using h⟩
          | false => exact .inl ⟨by simp, by simpa using h⟩
      · rename_i hb
        rw [hb] at hV
        obtain ⟨xs, hx, _⟩ := hV
        refine .inr ⟨?_, h⟩
        cases hgt : a.tmps[t]? with
        | none => simp
        | some z =>
          rw [Array.getD_eq_getD_getElem?, hgt, Option.getD_some] at hx
          subst hx
          simp
      · cases h

theorem undef_rel : VR m n (.tup []) undef := ⟨[], rfl, .nil⟩

theorem evOps_bind {α : Type} {call : Nat → List V → List Box → Heap → Option Res} (ops : List Oper) : ∀ (rest : List Oper) (s : St) (K : St → Option α), evOps tab gd call ops rest s K = (evOps tab gd call ops rest s some).bind K
  | [], s, K => rfl
  | o :: rest, s, K => by
    have hy : ∀ s : St, (act tab gd call none o s fun v s _ _ => evOps tab gd call ops rest (s.put o.dst v) K) = (act tab gd call none o s fun v s _ _ => evOps tab gd call ops rest (s.put o.dst v) some).bind K := by
      intro s
      rw [act_bind, act_bind (K := fun v s _ _ => evOps tab gd call ops rest (s.put o.dst v) some), Option.bind_assoc]
      congr; funext x
      exact evOps_bind ops rest _ K
    have hn : ∀ s : St, evOps tab gd call ops rest (s.put o.dst (.tup [])) K = (evOps tab gd call ops rest (s.put o.dst (.tup [])) some).bind K := fun s => evOps_bind ops rest _ K
    simp only [evOps, guardK]
    split
    · exact hy s
    · split
      · exact hn s
      · split
        · rw [cond_bind]
          congr 1
          · split
            · exact hy _
            · exact hn _
          · split
            · exact hn _
            · exact hy _
        · exact hn s
        · rfl

theorem ops_run (hT : TabOk P tab) {call : Nat → List V → List Box → Heap → Option Res} (hC : CallOK P gd call) (ops : Array Oper) {Q : Exit → Act → World → Prop} {s1 : St} :
    ∀ (rest : List Oper) (i : Nat) (s : St) (m : Nm) (a : Act) (w : World), ops.toList.drop i = rest → evOps tab gd call ops.toList rest s some = some s1 → SRel gd B [] m s a w →
    (∀ a' w' m', SRel gd B [] m' s1 a' w' → Trans m s w s1 m' w' → Q .normal a' w') → wpOps P ops Q (List.range' i rest.length) a w
  | [], i, s, m, a, w, _, he, h, hq => by
    simp only [evOps, Option.some.injEq] at he
    subst he
    exact hq a w m h Trans.refl
  | o :: rest, i, s, m, a, w, hd, he, h, hq => by
    have hoi : ops[i]? = some o := by
      have := List.getElem?_drop (xs := ops.toList) (i := i) (j := 0)
      rw [hd] at this
      simpa using this.symm
    have hd' : ops.toList.drop (i + 1) = rest := by
      have h9 : ops.toList.drop (i + 1) = (ops.toList.drop i).drop 1 := by rw [List.drop_drop]
      rw [h9, hd]; rfl
    simp only [List.length_cons, List.range'_succ, wpOps, hoi]
    simp only [evOps] at he
    rcases guard_cases (m := m) (n := s.H.length) (a := a) he (fun j want t _ _ => frame_rel h.fr t) with ⟨h1, h2⟩ | ⟨h1, h2⟩
    · rw [if_pos h1]
      left
      rw [act_bind] at h2
      cases hact : act tab gd call none o s quad with
      | none => rw [hact] at h2; cases h2
      | some r =>
        obtain ⟨v, s', rd, wr⟩ := r
        rw [hact, Option.bind_some] at h2
        refine (op_run hT hC h hact).wp fun x w' hR => ?_
        obtain ⟨m', k1, k2⟩ := hR
        have k3 : Trans m s w (s'.put o.dst v) m' w' := k2.of_H rfl rfl (by cases o.dst <;> rfl) (by cases o.dst <;> rfl)
        exact ops_run hT hC ops rest (i + 1) _ m' _ w' hd' h2 k1 fun a' w'' m'' q1 q2 => hq a' w'' m'' q1 (k3.trans q2)
    · rw [if_neg (by rw [h1]; simp)]
      have k3 : Trans m s w (s.put o.dst (.tup [])) m w := Trans.refl.of_H rfl rfl (by cases o.dst <;> rfl) (by cases o.dst <;> rfl)
      exact ops_run hT hC ops rest (i + 1) _ m _ w hd' h2 (h.put undef_rel o.dst) fun a' w'' m'' q1 q2 => hq a' w'' m'' q1 (k3.trans q2)
end Go.Ev
end

section
set_option linter.all false
/- The code of a function, outside of drawing regions. -/
namespace Go.Ev
variable {P : Program} {tab : Nat → Option TI} {gd : Nat → List C} {B : Nat → Nat} {vs : List Nat} {m m' m1 : Nm} {s s' : St} {a : Act} {w w' w1 : World} {v v' : V} {rd wr : List Root} {n : Nat} {f : List V}
variable {call : Nat → List V → List Box → Heap → Option Res}

theorem keepAt_get {β : Type} (ks : List Nat) (d : β) : ∀ (xs : List β) (i j : Nat) (y : β), (keepAt ks d i xs)[j]? = some y → ∃ x, xs[j]? = some x ∧ (y = x ∨ y = d)
  | [], i, j, y, h => by simp [keepAt] at h
  | x :: xs, i, 0, y, h => by
    simp only [keepAt, List.getElem?_cons_zero, Option.some.injEq] at h
    refine ⟨x, by simp, ?_⟩
    split at h
    · exact .inl h.symm
    · exact .inr h.symm
  | x :: xs, i, j + 1, y, h => by
    simp only [keepAt, List.getElem?_cons_succ] at h ⊢
    exact keepAt_get ks d xs (i + 1) j y h
theorem keepAt_len {β : Type} (ks : List Nat) (d : β) : ∀ (xs : List β) (i : Nat), (keepAt ks d i xs).length = xs.length
  | [], i => rfl
  | x :: xs, i => by simp [keepAt, keepAt_len ks d xs]

theorem SRel.scrub (h : SRel gd B vs m s a w) (x : Option (List Nat × List Nat)) : SRel gd B vs m (Ev.scrub x s) a w := by
  cases x with
  | none => exact h
  | some ab =>
    obtain ⟨p, q⟩ := ab
    exact {
      fr := by
        refine All2.of_get (by simp only [Ev.scrub]; rw [keepAt_len]; exact h.fr.length) fun i u x hu hx => ?_
        obtain ⟨u', h1, h2⟩ := keepAt_get p und s.fr 0 i u hu
        rcases h2 with rfl | rfl
        · obtain ⟨x', h3, h4⟩ := h.fr.get i u h1
          rw [hx] at h3
          injection h3 with h3
          subst h3
          exact h4
        · exact VR.und x
      box := fun b t cs hb hv => by
        obtain ⟨u', h1, h2⟩ := keepAt_get q none s.L 0 b _ hb
        rcases h2 with rfl | h2
        · exact h.box b t cs h1 hv
        · cases h2
      ref := h.ref, heap := h.heap, n0 := h.n0, B := h.B, lt := h.lt, glob := h.glob, defers := h.defers }

theorem scrub_rest (x : Option (List Nat × List Nat)) (s : St) : (scrub x s).H = s.H ∧ (scrub x s).n0 = s.n0 ∧ (scrub x s).R = s.R := by
  cases x <;> exact ⟨rfl, rfl, rfl⟩

theorem SRel.drawn (h : SRel gd B vs m s a w) (k : Nat) : SRel gd B vs m s a { w with drawn := k } where
  fr := h.fr
  box := h.box
  ref := h.ref
  heap := ⟨h.heap.cells, h.heap.one, h.heap.own, h.heap.ro, h.heap.map, h.heap.mone⟩
  n0 := h.n0
  B := h.B
  lt := h.lt
  glob := h.glob
  defers := h.defers
theorem Trans.drawn (k : Nat) : Trans m s w s m { w with drawn := k } :=
  ⟨fun _ _ h => ⟨h.same, h.os, h.tape, h.output, h.size, h.own, h.nobox, h.rf, h.hp⟩, Nat.le_refl _, fun _ _ h _ => ⟨h, rfl⟩, fun _ _ h => h, rfl⟩

theorem layAllocs_bind {α : Type} : ∀ (as : List (Nat × Nat)) (s : St) (K : St → Option α), layAllocs tab as s K = (layAllocs tab as s some).bind K
  | [], s, K => rfl
  | (d, e) :: as, s, K => by
    simp only [layAllocs]
    split
    · exact layAllocs_bind as _ K
    · rfl

theorem guardK_bind {α β : Type} {ops : List Oper} {g : Option (Nat × Bool)} {s : St} {y n : St → Option α} {y' n' : St → Option β} (F : β → Option α) (hy : ∀ s, y s = (y' s).bind F) (hn : ∀ s, n s = (n' s).bind F) :
    guardK ops g s y n = (guardK ops g s y' n').bind F := by
  unfold guardK
  split
  · exact hy s
  · split
    · exact hn s
    · split
      · rw [cond_bind]
        congr 1
        · split
          · exact hy _
          · exact hn _
        · split
          · exact hn _
          · exact hy _
      · exact hn s
      · rfl

theorem evDraw_bind {α : Type} (g : Rg) (n1 : Nat) (H0 : Heap) : ∀ (rest : List Oper) (i : Nat) (lg : Log) (s : St) (K : Log → St → Option α), evDraw tab gd call g n1 H0 rest i lg s K = (evDraw tab gd call g n1 H0 rest i lg s pair2).bind fun x => K x.1 x.2
  | [], i, lg, s, K => rfl
  | o :: rest, i, lg, s, K => by
    simp only [evDraw]
    refine guardK_bind _ (fun s => ?_) (fun s => evDraw_bind g n1 H0 rest _ _ _ K)
    rw [act_bind]
    conv => rhs; arg 1; rw [act_bind]
    rw [Option.bind_assoc]
    congr; funext x
    exact evDraw_bind g n1 H0 rest _ _ _ K

theorem evRegion_bind {α : Type} (ops : List Oper) (draw : Bool) (s : St) (K : St → Option α) : evRegion tab gd call ops draw s K = (evRegion tab gd call ops draw s some).bind K := by
  unfold evRegion
  split
  · split
    · rw [layAllocs_bind]
      conv => rhs; arg 1; rw [layAllocs_bind]
      rw [Option.bind_assoc]
      congr; funext s
      rw [evDraw_bind]
      conv => rhs; arg 1; rw [evDraw_bind]
      rw [Option.bind_assoc]
      congr; funext x
      rw [ite_bind, Option.bind_assoc]
      rfl
    · rfl
  · exact evOps_bind _ _ _ K

variable {scr : Nat → Option (List Nat × List Nat)} {N : Nat}
abbrev pairX : X → St → Option (X × St) := fun x s => some (x, s)

/-- Rounds of a loop. -/
def loopK {α : Type} (E : St → (X → St → Option α) → Option α) (K : X → St → Option α) : Nat → St → Option α
  | 0, _ => none
  | k + 1, s => E s fun x s => match x with | .normal => loopK E K k s | .exit j => K (.exit j) s | .ret => K .ret s

theorem evK_loop {α : Type} (c : Code) (s : St) (K : X → St → Option α) : evK tab gd call scr N (.loop c) s K = loopK (evK tab gd call scr N c) K N s := by
  have key : ∀ k s, (Nat.rec (motive := fun _ => St → Option α) (fun _ => none) (fun _ ih s => evK tab gd call scr N c s fun x s => match x with | .normal => ih s | .exit j => K (.exit j) s | .ret => K .ret s) k s : Option α) = loopK (evK tab gd call scr N c) K k s := by
    intro k
    induction k with
    | zero => intro s; rfl
    | succ k ih =>
      intro s
      simp only [loopK]
      congr; funext x s
      cases x with
      | normal => exact ih s
      | _ => rfl
  exact key N s

theorem loopK_bind {α : Type} {c : Code} (ih : ∀ (s : St) (K : X → St → Option α), evK tab gd call scr N c s K = (evK tab gd call scr N c s pairX).bind fun x => K x.1 x.2) (ih' : ∀ (s : St) (K : X → St → Option (X × St)), evK tab gd call scr N c s K = (evK tab gd call scr N c s pairX).bind fun x => K x.1 x.2)
    (K : X → St → Option α) : ∀ (k : Nat) (s : St), loopK (evK tab gd call scr N c) K k s = (loopK (evK tab gd call scr N c) pairX k s).bind fun x => K x.1 x.2
  | 0, s => rfl
  | k + 1, s => by
    simp only [loopK]
    rw [ih]
    conv => rhs; arg 1; rw [ih']
    rw [Option.bind_assoc]
    congr; funext x
    obtain ⟨x, s⟩ := x
    cases x with
    | normal => exact loopK_bind ih ih' K k s
    | _ => rfl

theorem evK_bind {α : Type} (c : Code) : ∀ (s : St) (K : X → St → Option α), evK tab gd call scr N c s K = (evK tab gd call scr N c s pairX).bind fun x => K x.1 x.2 := by
  suffices h : (∀ (s : St) (K : X → St → Option α), evK tab gd call scr N c s K = (evK tab gd call scr N c s pairX).bind fun x => K x.1 x.2) ∧ (∀ (s : St) (K : X → St → Option (X × St)), evK tab gd call scr N c s K = (evK tab gd call scr N c s pairX).bind fun x => K x.1 x.2) from h.1
  induction c with
  | region id ops draw =>
    refine ⟨fun s K => ?_, fun s K => ?_⟩ <;>
    · simp only [evK]
      rw [evRegion_bind]
      conv => rhs; arg 1; rw [evRegion_bind]
      rw [Option.bind_assoc]
      rfl
  | seq a b iha ihb =>
    refine ⟨fun s K => ?_, fun s K => ?_⟩
    · simp only [evK]
      rw [iha.1]
      conv => rhs; arg 1; rw [iha.2]
      rw [Option.bind_assoc]
      congr; funext x
      obtain ⟨x, s⟩ := x
      cases x with
      | normal => exact ihb.1 s K
      | _ => rfl
    · simp only [evK]
      rw [iha.2]
      conv => rhs; arg 1; rw [iha.2]
      rw [Option.bind_assoc]
      congr; funext x
      obtain ⟨x, s⟩ := x
      cases x with
      | normal => exact ihb.2 s K
      | _ => rfl
  | cond c a b iha ihb =>
    refine ⟨fun s K => ?_, fun s K => ?_⟩
    · simp only [evK]
      split
      · split
        · rw [cond_bind, ← iha.1, ← ihb.1]
        · rfl
      · rfl
    · simp only [evK]
      split
      · split
        · rw [cond_bind, ← iha.2, ← ihb.2]
        · rfl
      · rfl
  | block id c ih =>
    refine ⟨fun s K => ?_, fun s K => ?_⟩
    · simp only [evK]
      rw [ih.1]
      conv => rhs; arg 1; rw [ih.2]
      rw [Option.bind_assoc]
      congr; funext x
      obtain ⟨x, s⟩ := x
      cases x with
      | exit j => dsimp only; rw [ite_bind]; rfl
      | _ => rfl
    · simp only [evK]
      rw [ih.2]
      conv => rhs; arg 1; rw [ih.2]
      rw [Option.bind_assoc]
      congr; funext x
      obtain ⟨x, s⟩ := x
      cases x with
      | exit j => dsimp only; rw [ite_bind]; rfl
      | _ => rfl
  | loop c ih =>
    refine ⟨fun s K => ?_, fun s K => ?_⟩
    · rw [evK_loop, evK_loop]; exact loopK_bind ih.1 ih.2 K N s
    · rw [evK_loop, evK_loop]; exact loopK_bind ih.2 ih.2 K N s
  | scope c ih =>
    refine ⟨fun s K => ?_, fun s K => ?_⟩
    · simp only [evK]; exact ih.1 s K
    · simp only [evK]; exact ih.2 s K
  | _ => exact ⟨fun s K => rfl, fun s K => rfl⟩

theorem wp_loop_nat {c : Code} {Q : Exit → Act → World → Prop} (J : Nat → Act → World → Prop) (h0 : ∀ a w, ¬ J 0 a w) (round : ∀ n a w, J (n + 1) a w → c.wp P (Exit.then (J n) Q) a w) (n : Nat) (a : Act) (w : World) (hJ : J n a w) :
    (Code.loop c).wp P Q a w := by
  intro b k cs
  have key : ∀ n a w, J n a w → ∃ e a' w', Q e a' w' ∧ Arrives P (lone (b.at a (.code c :: .inLoop c :: k)) cs w) b k cs e a' w' := by
    intro n
    induction n with
    | zero => intro a w h; exact absurd h (h0 a w)
    | succ n ih =>
      intro a w hI
      obtain ⟨e, a₁, w₁, hq, harr⟩ := round n a w hI b (.inLoop c :: k) cs
      cases e with
      | normal =>
        obtain ⟨e₂, a₂, w₂, hq₂, harr₂⟩ := ih a₁ w₁ hq
        exact ⟨e₂, a₂, w₂, hq₂, .of_steps (Steps.trans harr (.one step_inLoop)) harr₂⟩
      | exit id => exact ⟨_, a₁, w₁, hq, .pass (x := .inLoop c) rfl (fun _ _ => .inl (by simp)) harr⟩
      | goto l => exact ⟨_, a₁, w₁, hq, .pass (x := .inLoop c) rfl (fun _ _ => .inl (by simp)) harr⟩
      | ret => exact ⟨_, a₁, w₁, hq, .pass (x := .inLoop c) rfl (fun _ _ => .inl (by simp)) harr⟩
      | panic ch => exact ⟨_, a₁, w₁, hq, .pass (x := .inLoop c) rfl (fun _ _ => .inl (by simp)) harr⟩
      | outgrown => exact ⟨_, a₁, w₁, hq, .pass (x := .inLoop c) rfl (fun _ _ => .inl (by simp)) harr⟩
  obtain ⟨e, a', w', hq, harr⟩ := key n a w hJ
  exact ⟨e, a', w', hq, .of_steps (.one step_loop) harr⟩

def X.toExit : X → Exit
  | .normal => .normal
  | .exit id => .exit id
  | .ret => .ret

/-- What is asked of drawing regions. -/
def DrawOK (P : Program) (tab : Nat → Option TI) (gd : Nat → List C) (call : Nat → List V → List Box → Heap → Option Res) : Prop :=
  ∀ (ops : Array Oper) (s s1 : St) (B : Nat → Nat) (m : Nm) (a : Act) (w : World) (Q : Exit → Act → World → Prop), evRegion tab gd call ops.toList true s some = some s1 → SRel gd B [] m s a w →
    (∀ a' w' m', SRel gd B [] m' s1 a' w' → Trans m s w s1 m' w' → Q .normal a' w') → wpAny P .any ops Q ops.size (Array.replicate ops.size false) a w

theorem evK_run (hT : TabOk P tab) (hC : CallOK P gd call) (hD : DrawOK P tab gd call) (hm : P.follows .mixedOrders = true) (c : Code) :
    ∀ (s : St) (m : Nm) (a : Act) (w : World) (x : X) (s1 : St) (Q : Exit → Act → World → Prop), evK tab gd call scr N c s pairX = some (x, s1) → SRel gd B [] m s a w →
      (∀ a' w' m', SRel gd B [] m' s1 a' w' → Trans m s w s1 m' w' → Q x.toExit a' w') → c.wp P Q a w := by
  induction c with
  | skip =>
    intro s m a w x s1 Q he h hq
    simp only [evK, Option.some.injEq, Prod.mk.injEq] at he
    obtain ⟨rfl, rfl⟩ := he
    exact wp_skip (hq a w m h Trans.refl)
  | label l =>
    intro s m a w x s1 Q he h hq
    simp only [evK, Option.some.injEq, Prod.mk.injEq] at he
    obtain ⟨rfl, rfl⟩ := he
    exact wp_label (hq a w m h Trans.refl)
  | exit id =>
    intro s m a w x s1 Q he h hq
    simp only [evK, Option.some.injEq, Prod.mk.injEq] at he
    obtain ⟨rfl, rfl⟩ := he
    obtain ⟨e1, e2, _⟩ := scrub_rest (scr (3 * id + 1)) s
    exact wp_exit (hq a w m (h.scrub _) (Trans.refl.of_H rfl rfl e1 e2))
  | ret =>
    intro s m a w x s1 Q he h hq
    simp only [evK, Option.some.injEq, Prod.mk.injEq] at he
    obtain ⟨rfl, rfl⟩ := he
    obtain ⟨e1, e2, _⟩ := scrub_rest (scr 2) s
    exact wp_ret (hq a w m (h.scrub _) (Trans.refl.of_H rfl rfl e1 e2))
  | region id ops draw =>
    intro s m a w x s1 Q he h hq
    simp only [evK] at he
    rw [evRegion_bind] at he
    cases hr : evRegion tab gd call ops.toList draw (scrub (scr (3 * id)) s) some with
    | none => rw [hr] at he; cases he
    | some s2 =>
      rw [hr] at he
      simp only [Option.bind_some, pairX, Option.some.injEq, Prod.mk.injEq] at he
      obtain ⟨rfl, rfl⟩ := he
      have hS := h.scrub (scr (3 * id))
      obtain ⟨e1, e2, e3⟩ := scrub_rest (scr (3 * id)) s
      have hq' : ∀ a' w' m', SRel gd B [] m' s2 a' w' → Trans m (scrub (scr (3 * id)) s) w s2 m' w' → Q .normal a' w' := fun a' w' m' k1 k2 => hq a' w' m' k1 (k2.of_H e1.symm e2.symm rfl rfl)
      cases draw with
      | false =>
        refine wp_region ?_
        unfold evRegion at hr
        simp only [Bool.false_eq_true, if_false] at hr
        have := ops_run hT hC ops ops.toList 0 _ m a w rfl hr hS hq'
        rw [List.range_eq_range']
        simpa using this
      | true =>
        refine wp_region_any hm ?_
        exact hD ops _ s2 B m a _ Q hr (hS.drawn _) fun a' w' m' k1 k2 => hq' a' w' m' k1 ((Trans.drawn _).trans k2)
  | seq a b iha ihb =>
    intro s m ac w x s1 Q he h hq
    simp only [evK] at he
    rw [evK_bind] at he
    cases hr : evK tab gd call scr N a s pairX with
    | none => rw [hr] at he; cases he
    | some r =>
      obtain ⟨x1, s2⟩ := r
      rw [hr, Option.bind_some] at he
      refine wp_seq (iha s m ac w x1 s2 _ hr h fun a' w' m' k1 k2 => ?_)
      cases x1 with
      | normal => exact ihb s2 m' a' w' x s1 Q he k1 fun a'' w'' m'' k3 k4 => hq a'' w'' m'' k3 (k2.trans k4)
      | exit j =>
        simp only [Option.some.injEq, Prod.mk.injEq] at he
        obtain ⟨rfl, rfl⟩ := he
        exact hq a' w' m' k1 k2
      | ret =>
        simp only [Option.some.injEq, Prod.mk.injEq] at he
        obtain ⟨rfl, rfl⟩ := he
        exact hq a' w' m' k1 k2
  | cond c a b iha ihb =>
    intro s m ac w x s1 Q he h hq
    simp only [evK] at he
    split at he
    · rename_i t
      have hV := frame_rel h.fr t
      split at he
      · rename_i b' hb
        rw [hb] at hV
        have hx : ac.eval (.tmp t) = .bool b' := hV
        cases b' with
        | true =>
          rw [cond_true, put_self hb] at he
          exact wp_cond_true hx (iha s m ac w x s1 Q he h hq)
        | false =>
          rw [cond_false, put_self hb] at he
          exact wp_cond_false hx (ihb s m ac w x s1 Q he h hq)
      · cases he
    · cases he
  | block id c ih =>
    intro s m ac w x s1 Q he h hq
    simp only [evK] at he
    rw [evK_bind] at he
    cases hr : evK tab gd call scr N c s pairX with
    | none => rw [hr] at he; cases he
    | some r =>
      obtain ⟨x1, s2⟩ := r
      rw [hr, Option.bind_some] at he
      refine wp_block (ih s m ac w x1 s2 _ hr h fun a' w' m' k1 k2 => ?_)
      cases x1 with
      | normal =>
        simp only [Option.some.injEq, Prod.mk.injEq] at he
        obtain ⟨rfl, rfl⟩ := he
        exact hq a' w' m' k1 k2
      | exit j =>
        dsimp only at he
        show if j = id then Q .normal a' w' else Q (.exit j) a' w'
        split at he
        · rename_i e
          rw [if_pos e]
          simp only [Option.some.injEq, Prod.mk.injEq] at he
          obtain ⟨rfl, rfl⟩ := he
          exact hq a' w' m' k1 k2
        · rename_i e
          rw [if_neg e]
          simp only [Option.some.injEq, Prod.mk.injEq] at he
          obtain ⟨rfl, rfl⟩ := he
          exact hq a' w' m' k1 k2
      | ret =>
        simp only [Option.some.injEq, Prod.mk.injEq] at he
        obtain ⟨rfl, rfl⟩ := he
        exact hq a' w' m' k1 k2
  | loop c ih =>
    intro s m ac w x s1 Q he h hq
    rw [evK_loop] at he
    refine wp_loop_nat (fun k a' w' => ∃ s' m', loopK (evK tab gd call scr N c) pairX k s' = some (x, s1) ∧ SRel gd B [] m' s' a' w' ∧ Trans m s w s' m' w') ?_ ?_ N ac w ⟨s, m, he, h, Trans.refl⟩
    · rintro a' w' ⟨s', m', h1, _⟩; cases h1
    · rintro k a' w' ⟨s', m', h1, h2, h3⟩
      simp only [loopK] at h1
      rw [evK_bind] at h1
      cases hr : evK tab gd call scr N c s' pairX with
      | none => rw [hr] at h1; cases h1
      | some r =>
        obtain ⟨x1, s2⟩ := r
        rw [hr, Option.bind_some] at h1
        refine ih s' m' a' w' x1 s2 _ hr h2 fun a'' w'' m'' k1 k2 => ?_
        cases x1 with
        | normal => exact ⟨s2, m'', h1, k1, h3.trans k2⟩
        | exit j =>
          simp only [Option.some.injEq, Prod.mk.injEq] at h1
          obtain ⟨rfl, rfl⟩ := h1
          exact hq a'' w'' m'' k1 (h3.trans k2)
        | ret =>
          simp only [Option.some.injEq, Prod.mk.injEq] at h1
          obtain ⟨rfl, rfl⟩ := h1
          exact hq a'' w'' m'' k1 (h3.trans k2)
  | scope c ih =>
    intro s m ac w x s1 Q he h hq
    simp only [evK] at he
    refine wp_scope_straight (ih s m ac w x s1 _ he h fun a' w' m' k1 k2 => ?_)
    have := hq a' w' m' k1 k2
    cases x <;> exact this
  | _ => intro s m a w x s1 Q he h hq; cases he
end Go.Ev
end

section
set_option linter.all false
/- Slices that a drawing region makes: their blocks come into the abstract heap at the region's end. -/
namespace Go.Ev
variable {P : Program} {tab : Nat → Option TI} {gd : Nat → List C} {B : Nat → Nat} {vs : List Nat} {m m' m1 : Nm} {s s' : St} {a : Act} {w w' w1 : World} {v v' : V} {rd wr : List Root} {n : Nat} {f : List V}

theorem holdH_eq : ∀ (k : Nat) (H : Heap), holdH H k = H ++ List.replicate k .dead
  | 0, H => by simp [holdH]
  | k + 1, H => by simp [holdH, holdH_eq k, List.replicate_succ, List.append_assoc]

def Nm.cut (m : Nm) (n : Nat) : Nm := { m with hp := fun id => if id < n then m.hp id else [] }

theorem bnd_up {B : Nat → Nat} {n0 n n' : Nat} (h : n ≤ n') (id : Nat) : bnd B n0 n id ≤ bnd B n0 n' id := by
  unfold bnd; split
  · exact Nat.le_refl _
  · exact h

theorem SRel.hold (h : SRel gd B vs m s a w) (k : Nat) : SRel gd B vs (m.cut s.H.length) { s with H := holdH s.H k } a w := by
  have hle : s.H.length ≤ (holdH s.H k).length := by rw [holdH_eq]; simp
  have hmono : ∀ id, id < s.H.length → ∀ c ∈ m.hp id, c ∈ (m.cut s.H.length).hp id := fun id hid c hc => by simp only [Nm.cut]; rw [if_pos hid]; exact hc
  have hcase : ∀ {id : Nat} {b : Blk}, (holdH s.H k)[id]? = some b → b ≠ .dead → s.H[id]? = some b ∧ id < s.H.length := fun {id b} hi hb => by
    rw [holdH_eq] at hi
    by_cases hl : id < s.H.length
    · rw [List.getElem?_append_left hl] at hi; exact ⟨hi, hl⟩
    · rw [List.getElem?_append_right (by omega), List.getElem?_replicate] at hi
      split at hi
      · injection hi with hi; exact absurd hi.symm hb
      · cases hi
  have hhp : ∀ {id : Nat}, id < s.H.length → (m.cut s.H.length).hp id = m.hp id := fun hid => by simp only [Nm.cut]; rw [if_pos hid]
  exact {
    fr := h.fr.mono fun v x hv => VR.mono (m := m) (m' := m.cut s.H.length) hle ⟨rfl, rfl, hmono⟩ hv
    box := fun b t cs hb hv => ⟨(h.box b t cs hb hv).1.mono hle hmono rfl, (h.box b t cs hb hv).2⟩
    ref := fun j t cs hj => ⟨(h.ref j t cs hj).1.mono hle hmono rfl, (h.ref j t cs hj).2⟩
    heap := {
      cells := fun id kd cs hi c hc => by
        obtain ⟨h1, h2⟩ := hcase hi (by simp)
        rw [hhp h2] at hc
        exact (h.heap.cells id kd cs h1 c hc).mono (bnd_up hle id) (fun i hi => hmono i (Nat.lt_of_lt_of_le hi (bnd_le h id))) rfl
      one := fun id cs hi => by
        obtain ⟨h1, h2⟩ := hcase hi (by simp)
        rw [hhp h2]; exact h.heap.one id cs h1
      own := fun id kd cs hi hk c hc => by
        obtain ⟨h1, h2⟩ := hcase hi (by simp)
        rw [hhp h2] at hc; exact h.heap.own id kd cs h1 hk c hc
      ro := fun id cs hi c hc => by
        obtain ⟨h1, h2⟩ := hcase hi (by simp)
        rw [hhp h2] at hc; exact h.heap.ro id cs h1 c hc
      map := fun id es hi c hc => by
        obtain ⟨h1, h2⟩ := hcase hi (by simp)
        rw [hhp h2] at hc; exact h.heap.map id es h1 c hc
      mone := fun id es hi => by
        obtain ⟨h1, h2⟩ := hcase hi (by simp)
        rw [hhp h2]; exact h.heap.mone id es h1 }
    n0 := Nat.le_trans h.n0 hle
    B := h.B
    lt := h.lt
    glob := h.glob
    defers := h.defers }

def Nm.more (m : Nm) (id : Nat) (c : Cp) : Nm := { m with hp := fun k => if k = id then [c] else m.hp k }

theorem SRel.pend (h : SRel gd B vs m s a w) {id : Nat} (hid : s.H[id]? = some .dead) (he : m.hp id = []) {o : Obj} (u : New w o w') (c : Cp) : SRel gd B vs (m.more id c) s a w' := by
  have hmono : ∀ (n : Nat) (k : Nat), k < n → ∀ d ∈ m.hp k, d ∈ (m.more id c).hp k := fun n k _ d hd => by
    simp only [Nm.more]
    split
    · rename_i e; rw [e, he] at hd; cases hd
    · exact hd
  have hhp : ∀ {k : Nat} {b : Blk}, s.H[k]? = some b → b ≠ .dead → (m.more id c).hp k = m.hp k := fun {k b} hk hb => by
    simp only [Nm.more]
    rw [if_neg (by rintro rfl; rw [hid] at hk; injection hk with hk; exact hb hk.symm)]
  exact {
    fr := h.fr.mono fun v x hv => VR.mono (m := m) (m' := m.more id c) (Nat.le_refl _) ⟨rfl, rfl, hmono _⟩ hv
    box := fun b t cs hb hv => by
      obtain ⟨h1, h2⟩ := h.box b t cs hb hv
      exact ⟨h1.mono (Nat.le_refl _) (hmono _) (u.other _ (h.lt _ (by show m.own (m.lb b) ≠ _; rw [h2]; simp))), h2⟩
    ref := fun j t cs hj => by
      obtain ⟨h1, h2⟩ := h.ref j t cs hj
      exact ⟨h1.mono (Nat.le_refl _) (hmono _) (u.other _ (h.lt _ (by show m.own (m.rf j) ≠ _; rw [h2]; simp))), h2⟩
    heap := {
      cells := fun k kd cs hi d hd => by
        rw [hhp hi (by simp)] at hd
        have h1 := h.heap.cells k kd cs hi d hd
        have h9 := h1
        obtain ⟨_, _, xs, t, fz, hx, _⟩ := h9
        exact h1.mono (Nat.le_refl _) (hmono _) (u.other _ (lt_of_get hx))
      one := fun k cs hi => by rw [hhp hi (by simp)]; exact h.heap.one k cs hi
      own := fun k kd cs hi hk d hd => by rw [hhp hi (by simp)] at hd; exact h.heap.own k kd cs hi hk d hd
      ro := fun k cs hi d hd => by rw [hhp hi (by simp)] at hd; exact h.heap.ro k cs hi d hd
      map := fun k es hi d hd => by
        rw [hhp hi (by simp)] at hd
        obtain ⟨h1, h2⟩ := h.heap.map k es hi d hd
        have h9 := h1
        obtain ⟨ms, cl, hx, _⟩ := h9
        exact ⟨h1.mono (u.other _ (lt_of_get hx)), h2⟩
      mone := fun k es hi => by rw [hhp hi (by simp)]; exact h.heap.mone k es hi }
    n0 := h.n0
    B := h.B
    lt := fun g hg => by rw [u.size]; exact Nat.lt_succ_of_lt (h.lt g hg)
    glob := fun g hg => by
      obtain ⟨h1, h2⟩ := h.glob g hg
      have h9 := h1
      obtain ⟨xs, t, fz, hx, _⟩ := h9
      exact ⟨h1.mono (u.other _ (lt_of_get hx)), h2⟩
    defers := h.defers }

/-- A made block comes into the heap. -/
theorem SRel.adopt (h : SRel gd B vs m s a w) {id tot g : Nat} {cs : List C} {xs : List Value} {t : TypeId} (hid : s.H[id]? = some .dead) (hp : m.hp id = [⟨g, 0, cs.length, tot⟩]) (hg : m.own g = .none)
    (hw : w.heap[g]? = some (.cells xs.toArray t (0, 0))) (hl : cs.length ≤ tot) (hl2 : tot ≤ xs.length) (hc : ∀ hp n, All2 (CR hp n) cs (xs.take cs.length))
    (hro : ∀ (k : Nat) (ds : List C), s.H[k]? = some (.mem 0 ds) → ∀ c ∈ m.hp k, c.g ≠ g) (hgl : gd g = []) :
    SRel gd B vs (m.heap id g (m.hp id)) { s with H := s.H.set id (.mem 2 cs) } a w := by
  have hhp : (m.heap id g (m.hp id)).hp = m.hp := by
    funext k; simp only [Nm.heap]; split
    · rename_i e; rw [e]
    · rfl
  have hown : ∀ {k : Nat} {o : Own}, m.own k = o → o ≠ .none → (m.heap id g (m.hp id)).own k = o := fun {k o} hk ho => by
    simp only [Nm.heap]
    rw [if_neg (by rintro rfl; rw [hg] at hk; exact ho hk.symm), hk]
  have hlen : (s.H.set id (.mem 2 cs)).length = s.H.length := by simp
  have hlt : id < s.H.length := (List.getElem?_eq_some_iff.1 hid).1
  have hcase : ∀ {k : Nat} {b : Blk}, (s.H.set id (.mem 2 cs))[k]? = some b → (k ≠ id ∧ s.H[k]? = some b) ∨ (k = id ∧ b = .mem 2 cs) := fun {k b} hk => by
    by_cases e : k = id
    · subst e
      rw [List.getElem?_set, if_pos rfl, if_pos hlt] at hk
      injection hk with hk
      exact .inr ⟨rfl, hk.symm⟩
    · rw [set_get e] at hk; exact .inl ⟨e, hk⟩
  exact {
    fr := by
      simp only [hlen]
      exact h.fr.mono fun v x hv => VR.mono (m := m) (m' := m.heap id g (m.hp id)) (Nat.le_refl _) ⟨rfl, rfl, fun k _ c hc => by rw [hhp]; exact hc⟩ hv
    box := fun b t' cs' hb hv => by
      obtain ⟨h1, h2⟩ := h.box b t' cs' hb hv
      simp only [hlen, hhp]
      exact ⟨h1, hown h2 (by simp)⟩
    ref := fun j t' cs' hj => by
      obtain ⟨h1, h2⟩ := h.ref j t' cs' hj
      simp only [hlen, hhp]
      exact ⟨h1, hown h2 (by simp)⟩
    heap := {
      cells := fun k kd ds hk c hcm => by
        simp only [hlen]
        rw [hhp] at hcm ⊢
        rcases hcase hk with ⟨_, hk⟩ | ⟨rfl, hk2⟩
        · exact h.heap.cells k kd ds hk c hcm
        · injection hk2 with h1 h2
          subst h1
          subst h2
          rw [hp] at hcm
          simp only [List.mem_singleton] at hcm
          subst hcm
          refine ⟨Nat.le_refl _, hl, xs.toArray, t, (0, 0), hw, by simpa using hl2, fun j b hj hb => ?_, fun _ => ⟨rfl, rfl⟩⟩
          obtain ⟨x, hx, hcx⟩ := (hc m.hp (bnd B s.n0 s.H.length k)).get j b hb
          rw [List.getElem?_take, if_pos hj] at hx
          exact ⟨x, by simpa using hx, hcx⟩
      one := fun k ds hk => by
        rw [hhp]
        rcases hcase hk with ⟨_, hk⟩ | ⟨rfl, hk2⟩
        · exact h.heap.one k ds hk
        · injection hk2 with h1 h2
          subst h2
          exact ⟨g, fun c hcm _ => by rw [hp] at hcm; simp only [List.mem_singleton] at hcm; subst hcm; exact ⟨rfl, rfl⟩⟩
      own := fun k kd ds hk hkd c hcm => by
        rw [hhp] at hcm
        rcases hcase hk with ⟨_, hk⟩ | ⟨rfl, hk2⟩
        · exact hown (h.heap.own k kd ds hk hkd c hcm) (by simp)
        · rw [hp] at hcm
          simp only [List.mem_singleton] at hcm
          subst hcm
          simp [Nm.heap]
      ro := fun k ds hk c hcm => by
        rw [hhp] at hcm
        rcases hcase hk with ⟨_, hk⟩ | ⟨rfl, hk2⟩
        · simp only [Nm.heap]
          rw [if_neg (hro k ds hk c hcm)]
          exact h.heap.ro k ds hk c hcm
        · injection hk2 with h1 h2; cases h1
      map := fun k es hk c hcm => by
        rw [hhp] at hcm
        rcases hcase hk with ⟨_, hk⟩ | ⟨rfl, hk2⟩
        · exact ⟨(h.heap.map k es hk c hcm).1, hown (h.heap.map k es hk c hcm).2 (by simp)⟩
        · cases hk2
      mone := fun k es hk => by
        rw [hhp]
        rcases hcase hk with ⟨_, hk⟩ | ⟨rfl, hk2⟩
        · exact h.heap.mone k es hk
        · cases hk2 }
    n0 := by simp only [hlen]; exact h.n0
    B := h.B
    lt := fun k hk => by
      simp only [Nm.heap] at hk
      split at hk
      · rename_i e; subst e; exact lt_of_get hw
      · exact h.lt k hk
    glob := fun k hk => by
      obtain ⟨h1, h2⟩ := h.glob k hk
      refine ⟨h1, ?_⟩
      simp only [Nm.heap]
      rw [if_neg (by rintro rfl; exact hk hgl)]
      exact h2
    defers := h.defers }

theorem bind_quad {β : Type} {x : Option β} {F : β → V} {G : β → List Root} (h : (x.bind fun c => quad (F c) s (G c) []) = some (v, s', rd, wr)) : s' = s ∧ wr = [] := by
  cases x with
  | none => cases h
  | some c => simp only [Option.bind_some, quad, Option.some.injEq, Prod.mk.injEq] at h; exact ⟨h.2.1.symm, h.2.2.2.symm⟩

theorem put_L : ∀ (roots : List Root) (xs : List Box) (s : St) (b : Nat), Root.l b ∉ roots → (putBoxes s roots xs).L[b]? = s.L[b]?
  | [], xs, s, b, h => by simp [putBoxes]
  | .l c :: rs, [], s, b, h => by simp [putBoxes]
  | .r c :: rs, [], s, b, h => by simp [putBoxes]
  | .l c :: rs, y :: ys, s, b, h => by
    simp only [List.mem_cons, not_or, Root.l.injEq] at h
    simp only [putBoxes]
    rw [put_L rs ys _ b h.2]
    simp [List.getElem?_set, Ne.symm h.1]
  | .r c :: rs, y :: ys, s, b, h => by
    simp only [List.mem_cons, not_or] at h
    simp only [putBoxes]
    rw [put_L rs ys _ b h.2]
theorem put_R : ∀ (roots : List Root) (xs : List Box) (s : St) (b : Nat), Root.r b ∉ roots → (putBoxes s roots xs).R[b]? = s.R[b]?
  | [], xs, s, b, h => by simp [putBoxes]
  | .l c :: rs, [], s, b, h => by simp [putBoxes]
  | .r c :: rs, [], s, b, h => by simp [putBoxes]
  | .r c :: rs, y :: ys, s, b, h => by
    simp only [List.mem_cons, not_or, Root.r.injEq] at h
    simp only [putBoxes]
    rw [put_R rs ys _ b h.2]
    simp [List.getElem?_set, Ne.symm h.1]
  | .l c :: rs, y :: ys, s, b, h => by
    simp only [List.mem_cons, not_or] at h
    simp only [putBoxes]
    rw [put_R rs ys _ b h.2]

/-- Slots and boxes that nothing is written to are as they were. -/
structure Keeps (s s' : St) (wr : List Root) : Prop where
  fr : s'.fr = s.fr
  n0 : s'.n0 = s.n0
  L : ∀ b, Root.l b ∉ wr → s'.L[b]? = s.L[b]?
  R : ∀ j, Root.r j ∉ wr → s'.R[j]? = s.R[j]?

theorem Keeps.refl (wr : List Root) : Keeps s s wr := ⟨rfl, rfl, fun _ _ => rfl, fun _ _ => rfl⟩
theorem Keeps.heap (H : Heap) (wr : List Root) : Keeps s { s with H := H } wr := ⟨rfl, rfl, fun _ _ => rfl, fun _ _ => rfl⟩
theorem Keeps.of_same (h : s' = s ∧ wr = []) : Keeps s s' wr := by rw [h.1]; exact .refl _

theorem callV_keeps {call : Nat → List V → List Box → Heap → Option Res} {lk : Bool} {g ty : Nat} {args : List V} {rs : List Root} (h : callV tab call lk g args ty s trip = some (v, s', rs)) : Keeps s s' rs := by
  unfold callV at h
  split at h
  · cases h
  · rename_i ws roots _
    split at h
    · cases h
    · rename_i bs _
      cases hcall : call g ws bs (if lk then s.H.map lockB else s.H) with
      | none => rw [hcall] at h; cases h
      | some res =>
        obtain ⟨r, bs', H'⟩ := res
        rw [hcall, Option.bind_some] at h
        dsimp only at h
        rw [shapeV_eq] at h
        cases hr : shapeV tab ty r some with
        | none => rw [hr] at h; cases h
        | some r1 =>
          rw [hr, Option.bind_some, shapeB_eq] at h
          cases hs : shapeB tab bs bs' some with
          | none => rw [hs] at h; cases h
          | some bs1 =>
            rw [hs, Option.bind_some] at h
            obtain ⟨_, e2, e3⟩ := putBoxes_rest roots bs1 s
            split at h <;>
            · simp only [trip, Option.some.injEq, Prod.mk.injEq] at h
              obtain ⟨_, rfl, rfl⟩ := h
              exact ⟨e2, e3, fun b hb => put_L roots bs1 s b hb, fun b hb => put_R roots bs1 s b hb⟩

theorem storeV_keeps {cx : Option Cx} {t : Nat} {p : Ptr} {xs : List C} (h : storeV tab s cx t p xs pair2 = some (s', wr)) : Keeps s s' wr := by
  unfold storeV at h
  split at h
  · split at h
    · split at h
      · split at h
        · simp only [pair2, Option.some.injEq, Prod.mk.injEq] at h
          obtain ⟨rfl, rfl⟩ := h
          refine ⟨rfl, rfl, fun b hb => ?_, fun _ _ => rfl⟩
          simp only [List.mem_singleton, Root.l.injEq] at hb
          simp [List.getElem?_set, Ne.symm hb]
        · cases h
      · cases h
    · split at h
      · split at h
        · simp only [pair2, Option.some.injEq, Prod.mk.injEq] at h
          obtain ⟨rfl, rfl⟩ := h
          refine ⟨rfl, rfl, fun _ _ => rfl, fun b hb => ?_⟩
          simp only [List.mem_singleton, Root.r.injEq] at hb
          simp [List.getElem?_set, Ne.symm hb]
        · cases h
      · cases h
    · split at h
      · split at h
        · rename_i cs _ hc
          cases hb : (xs.all flatC || decide (s.n0 ≤ _)) with
          | false => rw [hb] at h; cases h
          | true =>
            rw [hb, cond_true] at h
            simp only [pair2, Option.some.injEq, Prod.mk.injEq] at h
            obtain ⟨rfl, rfl⟩ := h
            exact Keeps.heap _ _
        · cases h
      · cases h
    · cases h
  · cases h

theorem act_keeps {call : Nat → List V → List Box → Heap → Option Res} {c : Cx} {o : Oper} (h : act tab gd call (some c) o s quad = some (v, s', rd, wr)) : Keeps s s' wr ∧ (kindOf o = .rd ∨ kindOf o = .hrd → s' = s) := by
  unfold act at h
  split at h
  case h_26 => cases h
  case h_9 =>
    rename_i t x y e
    refine ⟨?_, by simp [kindOf, e]⟩
    split at h
    · rw [storeV_bind] at h
      cases hs : storeV tab s (some c) t _ _ pair2 with
      | none => rw [hs] at h; cases h
      | some r =>
        obtain ⟨s1, wr1⟩ := r
        rw [hs] at h
        simp only [Option.bind_some, quad, Option.some.injEq, Prod.mk.injEq] at h
        obtain ⟨_, rfl, _, rfl⟩ := h
        exact storeV_keeps hs
    · cases h
  case h_7 =>
    rename_i t len ps e
    refine ⟨?_, by simp [kindOf, e]⟩
    split at h
    · split at h
      · split at h
        · split at h
          · simp only [quad, Option.some.injEq, Prod.mk.injEq] at h
            obtain ⟨_, rfl, _, rfl⟩ := h
            exact Keeps.heap _ _
          · cases h
        · cases h
      · cases h
    · cases h
  case h_24 =>
    rename_i t m k x e
    refine ⟨?_, by simp [kindOf, e]⟩
    split at h
    · split at h
      · split at h
        · cases h
        · simp only [quad, Option.some.injEq, Prod.mk.injEq] at h
          obtain ⟨_, rfl, _, rfl⟩ := h
          exact Keeps.heap _ _
      · cases h
    · cases h
  case h_22 =>
    rename_i t r e
    split at h
    · simp at h
    · cases h
  case h_5 =>
    rename_i el x e
    split at h
    · simp at h
    · cases h
  case h_4 =>
    rename_i el e
    split at h
    · split at h
      · cases h
      · simp only [Option.isSome_some, if_true, quad, Option.some.injEq, Prod.mk.injEq] at h
        obtain ⟨_, rfl, _, rfl⟩ := h
        exact ⟨Keeps.refl _, fun _ => rfl⟩
    · cases h
  case h_14 =>
    rename_i t l cc e
    split at h
    · split at h
      · unfold makeV at h
        rename_i i1 _ i2 _ _ _ _ ti _
        cases hb : (decide (0 ≤ i1) && decide (i1 ≤ i2) && decide (i2 ≤ 2 ^ 40) && decide (i2 * ti.bytes ≤ 2 ^ 40) && !ti.zero.isEmpty) with
        | false => rw [hb] at h; cases h
        | true =>
          rw [hb, cond_true] at h
          simp only [quad, Option.some.injEq, Prod.mk.injEq] at h
          obtain ⟨_, rfl, _, rfl⟩ := h
          exact ⟨Keeps.refl _, fun _ => rfl⟩
      · cases h
    · cases h
  case h_25 =>
    rename_i cl e
    split at h
    · rename_i b hb
      unfold builtinV at h
      split at h
      · split at h
        · simp only [quad, Option.some.injEq, Prod.mk.injEq] at h
          obtain ⟨_, rfl, _, rfl⟩ := h
          exact ⟨Keeps.refl _, fun _ => rfl⟩
        · cases h
      · rw [foldI_bind] at h
        have h1 := bind_quad (F := id) (G := fun _ => []) h
        exact ⟨.of_same h1, fun _ => h1.1⟩
      · rw [foldI_bind] at h
        have h1 := bind_quad (F := id) (G := fun _ => []) h
        exact ⟨.of_same h1, fun _ => h1.1⟩
      · refine ⟨?_, by simp [kindOf, e, hb]⟩
        split at h
        · split at h
          · split at h
            · split at h
              · cases h
              · rw [appendC_bind] at h
                cases hl : appendC s.H s.n0 _ _ _ _ pair2 with
                | none => rw [hl] at h; cases h
                | some r =>
                  rw [hl] at h
                  simp only [Option.bind_some, quad, Option.some.injEq, Prod.mk.injEq] at h
                  obtain ⟨_, rfl, _, rfl⟩ := h
                  exact Keeps.heap _ _
            · cases h
          · cases h
        · cases h
      · refine ⟨?_, by simp [kindOf, e, hb]⟩
        split at h
        · split at h
          · split at h
            · split at h
              · cases h
              · rw [copyC_bind] at h
                cases hl : copyC s.H s.n0 _ _ _ pair2 with
                | none => rw [hl] at h; cases h
                | some r =>
                  rw [hl] at h
                  simp only [Option.bind_some, quad, Option.some.injEq, Prod.mk.injEq] at h
                  obtain ⟨_, rfl, _, rfl⟩ := h
                  exact Keeps.heap _ _
            · cases h
          · cases h
        · cases h
      · cases h
    · rename_i fo hb
      refine ⟨?_, by simp [kindOf, e, hb]⟩
      split at h
      · rw [callV_bind] at h
        cases hc : callV tab call (lkOf (some c)) _ _ _ s trip with
        | none => rw [hc] at h; cases h
        | some r =>
          obtain ⟨v1, s1, rs1⟩ := r
          rw [hc] at h
          simp only [Option.bind_some, quad, Option.some.injEq, Prod.mk.injEq] at h
          obtain ⟨_, rfl, _, rfl⟩ := h
          exact callV_keeps hc
      · rw [callV_bind] at h
        cases hc : callV tab call (lkOf (some c)) _ _ _ s trip with
        | none => rw [hc] at h; cases h
        | some r =>
          obtain ⟨v1, s1, rs1⟩ := r
          rw [hc] at h
          simp only [Option.bind_some, quad, Option.some.injEq, Prod.mk.injEq] at h
          obtain ⟨_, rfl, _, rfl⟩ := h
          exact callV_keeps hc
      · cases h
    · cases h
  case h_8 =>
    rename_i t x e
    split at h
    · rw [loadV_bind] at h
      have h1 := bind_quad (F := fun x : V × List Root => x.1) (G := fun x => x.2) h
      exact ⟨.of_same h1, fun _ => h1.1⟩
    · cases h
  all_goals
    have key : s' = s ∧ wr = [] := by
      first
        | (simp only [quad, Option.some.injEq, Prod.mk.injEq] at h; exact ⟨h.2.1.symm, h.2.2.2.symm⟩)
        | (rw [binV_bind] at h; exact bind_quad (F := fun c => .one c) (G := fun _ => []) h)
        | (rw [sliceV_bind] at h; exact bind_quad (F := fun c => .one c) (G := fun _ => []) h)
        | skip
      all_goals (try (repeat' (split at h)))
      all_goals (try (cases h; done))
      all_goals (try (simp only [quad, Option.some.injEq, Prod.mk.injEq] at h; exact ⟨h.2.1.symm, h.2.2.2.symm⟩))
      all_goals (try (rw [readC_bind] at h; exact bind_quad (F := id) (G := fun _ => []) h))
      all_goals (try (rw [eltC_bind] at h; exact bind_quad (F := fun c => .ptr c) (G := fun _ => []) h))
      all_goals (simp only [Bool.cond_eq_ite] at h; split at h)
      all_goals (try (cases h; done))
      all_goals (try (simp only [quad, Option.some.injEq, Prod.mk.injEq] at h; exact ⟨h.2.1.symm, h.2.2.2.symm⟩))
      all_goals (rw [readC_bind] at h; exact bind_quad (F := id) (G := fun _ => []) h)
    exact ⟨.of_same key, fun _ => key.1⟩
end Go.Ev
end

section
set_option linter.all false
/- Drawing regions: the canonical run's trace; the form of a region. -/
namespace Go.Ev
variable {P : Program} {tab : Nat → Option TI} {gd : Nat → List C} {B : Nat → Nat} {vs : List Nat} {m m' m1 : Nm} {s s' : St} {a : Act} {w w' w1 : World} {v v' : V} {rd wr : List Root} {n : Nat} {f : List V}
variable {call : Nat → List V → List Box → Heap → Option Res}

/-- The canonical run of a region: states, what ran, results, memory behind, what was read and written. -/
structure Tr where
  st : Nat → St
  run : Nat → Bool
  v : Nat → V
  nx : Nat → St
  rd : Nat → List Root
  wr : Nat → List Root

structure TrOk (tab : Nat → Option TI) (gd : Nat → List C) (call : Nat → List V → List Box → Heap → Option Res) (g : Rg) (n1 : Nat) (H0 : Heap) (t : Tr) (j : Nat) (o : Oper) : Prop where
  guard : guardK g.ops o.guard (t.st j) (fun _ => some true) (fun _ => some false) = some (t.run j)
  act : (t.run j = true ∧ act tab gd call (some (cxOf g n1 H0 j)) o (t.st j) quad = some (t.v j, t.nx j, t.rd j, t.wr j)) ∨ (t.run j = false ∧ t.v j = .tup [] ∧ t.nx j = t.st j ∧ t.rd j = [] ∧ t.wr j = [])
  next : t.st (j + 1) = (t.nx j).put o.dst (t.v j)

theorem guard_split {α : Type} {ops : List Oper} {gu : Option (Nat × Bool)} {yes no : St → Option α} {x : α} (h : guardK ops gu s yes no = some x) :
    ∃ b, guardK ops gu s (fun _ => some true) (fun _ => some false) = some b ∧ (if b = true then yes s else no s) = some x := by
  unfold guardK at *
  split
  · exact ⟨true, rfl, by simpa using h⟩
  · rename_i j want
    simp only at h
    split
    · rename_i hd
      rw [hd] at h
      exact ⟨false, rfl, by simpa using h⟩
    · rename_i t hd
      rw [hd] at h
      simp only at h
      split at h
      · rename_i b hb
        cases b with
        | true =>
          rw [cond_true, put_self hb] at h
          simp only [cond_true]
          cases want with
          | true => exact ⟨true, by simp, by simpa using h⟩
          | false => exact ⟨false, by simp, by simpa using h⟩
        | false =>
          rw [cond_false, put_self hb] at h
          simp only [cond_false]
          cases want with
          | true => exact ⟨false, by simp, by simpa using h⟩
          | false => exact ⟨true, by simp, by simpa using h⟩
      · rename_i hb
        exact ⟨false, rfl, by simpa using h⟩
      · cases h

theorem trace (g : Rg) (n1 : Nat) (H0 : Heap) : ∀ (rest : List Oper) (i : Nat) (lg : Log) (s : St) (lg' : Log) (s1 : St), evDraw tab gd call g n1 H0 rest i lg s pair2 = some (lg', s1) →
    ∃ t : Tr, t.st i = s ∧ t.st (i + rest.length) = s1 ∧ (∀ (j : Nat) (o : Oper), rest[j]? = some o → TrOk tab gd call g n1 H0 t (i + j) o) ∧
      lg' = lg ++ (List.range' i rest.length).map fun j => (t.rd j, t.wr j, locsOf (t.v j))
  | [], i, lg, s, lg', s1, h => by
    simp only [evDraw, pair2, Option.some.injEq, Prod.mk.injEq] at h
    obtain ⟨rfl, rfl⟩ := h
    exact ⟨⟨fun _ => s, fun _ => false, fun _ => und, fun _ => s, fun _ => [], fun _ => []⟩, rfl, rfl, by simp, by simp⟩
  | o :: rest, i, lg, s, lg', s1, h => by
    simp only [evDraw] at h
    obtain ⟨b, hg, hb⟩ := guard_split h
    have go : ∀ (v : V) (s' : St) (rd wr : List Root) (lg2 : Log), lg2 = lg ++ [(rd, wr, locsOf v)] →
        ((b = true ∧ act tab gd call (some (cxOf g n1 H0 i)) o s quad = some (v, s', rd, wr)) ∨ (b = false ∧ v = .tup [] ∧ s' = s ∧ rd = [] ∧ wr = [])) →
        evDraw tab gd call g n1 H0 rest (i + 1) lg2 (s'.put o.dst v) pair2 = some (lg', s1) →
        ∃ t : Tr, t.st i = s ∧ t.st (i + (o :: rest).length) = s1 ∧ (∀ (j : Nat) (p : Oper), (o :: rest)[j]? = some p → TrOk tab gd call g n1 H0 t (i + j) p) ∧
          lg' = lg ++ (List.range' i (o :: rest).length).map fun j => (t.rd j, t.wr j, locsOf (t.v j)) := by
      intro v s' rd wr lg2 hlg hact hrest
      obtain ⟨t, h1, h2, h3, h4⟩ := trace g n1 H0 rest (i + 1) _ _ _ _ hrest
      refine ⟨⟨fun k => if k = i then s else t.st k, fun k => if k = i then b else t.run k, fun k => if k = i then v else t.v k, fun k => if k = i then s' else t.nx k, fun k => if k = i then rd else t.rd k, fun k => if k = i then wr else t.wr k⟩, ?_, ?_, ?_, ?_⟩
      · simp
      · simp only [List.length_cons]
        rw [if_neg (by omega), ← h2]
        congr 1
        omega
      · intro j p hj
        cases j with
        | zero =>
          simp only [List.getElem?_cons_zero, Option.some.injEq] at hj
          subst hj
          refine ⟨?_, ?_, ?_⟩
          · simpa using hg
          · simpa using hact
          · simp [h1]
        | succ j =>
          simp only [List.getElem?_cons_succ] at hj
          have h5 := h3 j p hj
          rw [show i + 1 + j = i + (j + 1) from by omega] at h5
          obtain ⟨q1, q2, q3⟩ := h5
          have e1 : i + (j + 1) ≠ i := by omega
          have e2 : i + (j + 1) + 1 ≠ i := by omega
          refine ⟨?_, ?_, ?_⟩
          · simpa only [if_neg e1] using q1
          · simpa only [if_neg e1] using q2
          · simpa only [if_neg e1, if_neg e2] using q3
      · rw [h4, hlg, List.append_assoc]
        congr 1
        simp only [List.length_cons, List.range'_succ, List.map_cons, if_true, List.singleton_append]
        congr 1
        apply List.map_congr_left
        intro k hk
        have : k ≠ i := by
          have := (List.mem_range'_1.1 hk).1
          omega
        simp only [if_neg this]
    cases b with
    | true =>
      simp only [if_true] at hb
      rw [act_bind] at hb
      cases hact : act tab gd call (some (cxOf g n1 H0 i)) o s quad with
      | none => rw [hact] at hb; cases hb
      | some r =>
        obtain ⟨v, s', rd, wr⟩ := r
        rw [hact, Option.bind_some] at hb
        exact go v s' rd wr _ rfl (.inl ⟨rfl, hact⟩) hb
    | false =>
      simp only [Bool.false_eq_true, if_false] at hb
      exact go (.tup []) s [] [] _ (by rfl) (.inr ⟨rfl, rfl, rfl, rfl, rfl⟩) hb

/-! The form. -/
structure Form (ops : List Oper) : Prop where
  notbad : ∀ (i : Nat) (o : Oper), ops[i]? = some o → kindOf o ≠ .bad
  back : ∀ (i : Nat) (o : Oper), ops[i]? = some o → ∀ e ∈ o.after.toList, Region.binds .any e = true → e.on < i
  guard : ∀ (i : Nat) (o : Oper) (j : Nat) (want : Bool), ops[i]? = some o → o.guard = some (j, want) → ((befores ops).getD i 0).testBit j = true
  made : ∀ (i : Nat) (o : Oper), ops[i]? = some o → ((∃ e, o.op = .alloc e) ∨ ∃ x y z, o.op = .makeSlice x y z) → o.guard = none ∧ ∃ d, o.dst = some d
  pair : ∀ (i j : Nat) (oi oj : Oper), ops[i]? = some oi → ops[j]? = some oj → j < i → (∀ d, oi.dst = some d → oj.dst ≠ some d) ∧ (((befores ops).getD i 0).testBit j = true ∨ (apartB ops oi oj = true ∧ ¬ (kindOf oi = .eff ∧ kindOf oj = .eff)))

theorem zip_all {β : Type} {l : List β} {p : β × Nat → Bool} (h : l.zipIdx.all p = true) {i : Nat} {x : β} (hi : l[i]? = some x) : p (x, i) = true :=
  List.all_eq_true.1 h (x, i) (List.mk_mem_zipIdx_iff_getElem?.2 hi)

theorem form_of {ops : List Oper} (h : formOk (rgOf ops) = true) : Form ops := by
  unfold formOk at h
  have key := fun (i : Nat) (o : Oper) (hi : ops[i]? = some o) => zip_all h hi
  simp only [rgOf, Bool.and_eq_true, decide_eq_true_eq] at key
  refine ⟨fun i o hi => (key i o hi).1.1.1.1, fun i o hi e he hb => ?_, fun i o j want hi hg => ?_, fun i o hi hop => ?_, fun i j oi oj hi hj hlt => ?_⟩
  · have h1 := List.all_eq_true.1 (key i o hi).1.1.2 e he
    unfold Region.binds at hb
    cases hgr : e.ground <;> rw [hgr] at hb h1 <;> first | (cases hb; done) | simpa using h1
  · have h1 := (key i o hi).1.2
    rw [hg] at h1
    exact h1
  · have h1 := (key i o hi).1.1.1.2
    rcases hop with ⟨e, he⟩ | ⟨x, y, z, he⟩ <;>
    · rw [he] at h1
      simp only [Bool.and_eq_true, Option.isNone_iff_eq_none, Option.isSome_iff_exists] at h1
      exact h1
  · have h1 := (key i oi hi).2
    have h2 := zip_all h1 (i := j) (x := oj) (by rw [List.getElem?_take, if_pos hlt]; exact hj)
    simp only [Bool.and_eq_true, Bool.or_eq_true, Bool.not_eq_true', Bool.and_eq_false_imp, decide_eq_true_eq] at h2
    obtain ⟨h3, h4⟩ := h2
    refine ⟨fun d hd => ?_, ?_⟩
    · rw [hd] at h3
      simpa using h3
    · rcases h4 with h4 | ⟨h4, h5⟩
      · exact .inl h4
      · exact .inr ⟨h4, fun ⟨e1, e2⟩ => by simpa [e2] using h5 e1⟩

def stepB (acc : List Nat) (o : Oper) : Nat := o.after.toList.foldl (fun m e => (match e.ground with | .textOnly _ | .gcOnly _ => m | _ => m ||| 2 ^ e.on ||| acc.getD e.on 0)) 0

theorem befores_eq (ops : List Oper) : befores ops = ops.foldl (fun acc o => acc ++ [stepB acc o]) [] := rfl

theorem befores_fold : ∀ (ops : List Oper) (acc : List Nat), ∃ l, ops.foldl (fun acc o => acc ++ [stepB acc o]) acc = acc ++ l ∧ l.length = ops.length ∧ ∀ (i : Nat) (o : Oper), ops[i]? = some o → l[i]? = some (stepB (acc ++ l.take i) o)
  | [], acc => ⟨[], by simp, rfl, by simp⟩
  | o :: ops, acc => by
    obtain ⟨l, h1, h2, h3⟩ := befores_fold ops (acc ++ [stepB acc o])
    refine ⟨stepB acc o :: l, ?_, by simp [h2], fun i p hi => ?_⟩
    · rw [List.foldl_cons, h1, List.append_assoc]; rfl
    · cases i with
      | zero => simp at hi; subst hi; simp
      | succ i =>
        simp only [List.getElem?_cons_succ] at hi ⊢
        rw [h3 i p hi, List.take_succ_cons, List.append_assoc]
        rfl

theorem befores_get {ops : List Oper} {i : Nat} {o : Oper} (h : ops[i]? = some o) : (befores ops).getD i 0 = stepB ((befores ops).take i) o := by
  obtain ⟨l, h1, h2, h3⟩ := befores_fold ops []
  have e : befores ops = l := by rw [befores_eq, h1]; rfl
  rw [e, List.getD_eq_getElem?_getD, h3 i o h]
  rfl

theorem stepB_bit {acc : List Nat} {j : Nat} : ∀ (es : List Edge) (m0 : Nat), (es.foldl (fun m e => (match e.ground with | .textOnly _ | .gcOnly _ => m | _ => m ||| 2 ^ e.on ||| acc.getD e.on 0)) m0).testBit j = true →
    m0.testBit j = true ∨ ∃ e ∈ es, Region.binds .any e = true ∧ (j = e.on ∨ (acc.getD e.on 0).testBit j = true)
  | [], m0, h => .inl h
  | e :: es, m0, h => by
    simp only [List.foldl_cons] at h
    rcases stepB_bit es _ h with h1 | ⟨e', he, hb⟩
    · have key : Region.binds .any e = true → (m0 ||| 2 ^ e.on ||| acc.getD e.on 0).testBit j = true → m0.testBit j = true ∨ ∃ e' ∈ e :: es, Region.binds .any e' = true ∧ (j = e'.on ∨ (acc.getD e'.on 0).testBit j = true) := by
        intro hb h1
        simp only [Nat.testBit_or, Bool.or_eq_true, Nat.testBit_two_pow, decide_eq_true_eq] at h1
        rcases h1 with (h1 | h1) | h1
        · exact .inl h1
        · exact .inr ⟨e, by simp, hb, .inl h1.symm⟩
        · exact .inr ⟨e, by simp, hb, .inr h1⟩
      cases hg : e.ground <;> rw [hg] at h1 <;> first | exact .inl h1 | exact key (by unfold Region.binds; rw [hg]) h1
    · exact .inr ⟨e', by simp [he], hb⟩

def Closed (ops : List Oper) (L : Nat → Bool) : Prop := ∀ (i : Nat) (o : Oper), ops[i]? = some o → L i = true → ∀ e ∈ o.after.toList, Region.binds .any e = true → L e.on = true

theorem closed_bit {ops : List Oper} {L : Nat → Bool} (F : Form ops) (hc : Closed ops L) : ∀ (i : Nat) (o : Oper), ops[i]? = some o → (∀ e ∈ o.after.toList, Region.binds .any e = true → L e.on = true) → ∀ j, ((befores ops).getD i 0).testBit j = true → L j = true := by
  intro i
  induction i using Nat.strongRecOn with
  | _ i ih =>
    intro o hi he j hj
    rw [befores_get hi] at hj
    rcases stepB_bit _ _ hj with h | ⟨e, he1, he2, h⟩
    · simp at h
    · have hlt := F.back i o hi e he1 he2
      rcases h with rfl | h
      · exact he e he1 he2
      · have hl : e.on < ops.length := Nat.lt_trans hlt (List.getElem?_eq_some_iff.1 hi).1
        have ho := List.getElem?_eq_getElem hl
        have hb : ((befores ops).getD e.on 0).testBit j = true := by
          rw [List.getD_eq_getElem?_getD, List.getElem?_take, if_pos hlt] at h
          rw [List.getD_eq_getElem?_getD]
          exact h
        exact ih e.on hlt _ ho (hc e.on _ ho (he e he1 he2)) j hb
end Go.Ev
end

section
set_option linter.all false
/- Drawing regions: what is the same in every order. -/
namespace Go.Ev
variable {P : Program} {tab : Nat → Option TI} {gd : Nat → List C} {B : Nat → Nat} {vs : List Nat} {m m' m1 : Nm} {s s' : St} {a : Act} {w w' w1 : World} {v v' : V} {rd wr : List Root} {n : Nat} {f f' : List V}
variable {call : Nat → List V → List Box → Heap → Option Res} {ops : List Oper} {n1 : Nat} {t : Tr} {L : Nat → Bool}

def logOf (t : Tr) (n : Nat) : Log := (List.range' 0 n).map fun j => (t.rd j, t.wr j, locsOf (t.v j))

/-- What stands of a region's canonical run. -/
structure Base (tab : Nat → Option TI) (gd : Nat → List C) (call : Nat → List V → List Box → Heap → Option Res) (ops : List Oper) (n1 : Nat) (t : Tr) : Prop where
  form : Form ops
  ok : ∀ (j : Nat) (o : Oper), ops[j]? = some o → TrOk tab gd call (rgOf ops) n1 (t.st 0).H t j o
  log : logOk (befores ops) (logOf t ops.length) = true
  alc : allocOk ops (befores ops) (logOf t ops.length) = true
  kill : ∀ (j : Nat) (o : Oper) (e d : Nat), ops[j]? = some o → o.op = .alloc e → o.dst = some d → ∀ (y : Nat) (u : V), (t.st 0).fr[y]? = some u → d ∉ locsOf u
  lay : ∀ (j : Nat) (o : Oper) (e d : Nat), ops[j]? = some o → o.op = .alloc e → o.dst = some d → ∃ ti, tab e = some ti ∧ ∀ x, (t.st 0).L[d]? = some x → x = some (e, ti.zero)

theorem log_get {i : Nat} (h : i < n) : (logOf t n)[i]? = some (t.rd i, t.wr i, locsOf (t.v i)) := by
  unfold logOf
  rw [List.getElem?_map, List.getElem?_range' h]
  simp

def Loose (ops : List Oper) (i j : Nat) : Prop := (j < i → ((befores ops).getD i 0).testBit j = false) ∧ (i < j → ((befores ops).getD j 0).testBit i = false)

theorem log_free (hB : Base tab gd call ops n1 t) {i j : Nat} (hi : i < ops.length) (hj : j < ops.length) (hne : i ≠ j) (hl : Loose ops i j) {r : Root} (hr : r ∈ t.rd i) : r ∉ t.wr j := by
  have key : ∀ (p q : Nat), p < ops.length → q < p → ((befores ops).getD p 0).testBit q = false → (∀ r ∈ t.rd p, r ∉ t.wr q) ∧ (∀ r ∈ t.rd q, r ∉ t.wr p) := by
    intro p q hp hq hb
    have h1 := hB.log
    unfold logOk at h1
    have h2 := zip_all h1 (log_get hp)
    have h3 := zip_all h2 (i := q) (x := (t.rd q, t.wr q, locsOf (t.v q))) (by rw [List.getElem?_take, if_pos hq]; exact log_get (by omega))
    simp only [hb, Bool.false_or, Bool.and_eq_true, List.all_eq_true, Bool.not_eq_true'] at h3
    exact ⟨fun r hr hw => by have := h3.1 r hr; simp [hw] at this, fun r hr hw => by have := h3.2 r hr; simp [hw] at this⟩
  rcases Nat.lt_or_gt_of_ne hne with h | h
  · exact (key j i hj h (hl.2 h)).2 r hr
  · exact (key i j hi h (hl.1 h)).1 r hr

theorem alc_free (hB : Base tab gd call ops n1 t) {i k : Nat} (hi : i < ops.length) {o : Oper} {e d : Nat} (hk : ops[k]? = some o) (he : o.op = .alloc e) (hd : o.dst = some d) (hne : i ≠ k) (hb : ((befores ops).getD i 0).testBit k = false) :
    .l d ∉ t.rd i ∧ .l d ∉ t.wr i ∧ d ∉ locsOf (t.v i) := by
  have h1 := hB.alc
  unfold allocOk at h1
  have h2 := zip_all h1 hk
  simp only [he, hd] at h2
  have h3 := zip_all h2 (log_get hi)
  simp only [hb, Bool.or_false, Bool.or_eq_true, beq_iff_eq, hne, false_or, Bool.not_eq_true', Bool.or_eq_false_iff, List.contains_eq_mem, decide_eq_false_iff_not] at h3
  exact ⟨h3.1.1, h3.1.2, h3.2⟩

theorem canon (hB : Base tab gd call ops n1 t) {j : Nat} {o : Oper} (hj : ops[j]? = some o) : Keeps (t.st j) (t.nx j) (t.wr j) ∧ (kindOf o ≠ .eff → t.nx j = t.st j) := by
  rcases (hB.ok j o hj).act with ⟨_, h⟩ | ⟨_, _, h, _, hw⟩
  · obtain ⟨h1, h2⟩ := act_keeps h
    refine ⟨h1, fun hk => h2 ?_⟩
    have := hB.form.notbad j o hj
    cases hkk : kindOf o with
    | rd => exact .inl rfl
    | hrd => exact .inr rfl
    | eff => exact absurd hkk hk
    | bad => exact absurd hkk this
  · rw [h]; exact ⟨Keeps.refl _, fun _ => rfl⟩

def putF (f : List V) (d : Option Nat) (v : V) : List V := match d with | some d => f.set d v | none => f
theorem put_fr (s : St) (d : Option Nat) (v : V) : (s.put d v).fr = putF s.fr d v ∧ (s.put d v).L = s.L ∧ (s.put d v).R = s.R ∧ (s.put d v).H = s.H ∧ (s.put d v).n0 = s.n0 := by cases d <;> exact ⟨rfl, rfl, rfl, rfl, rfl⟩

/-- A frame that holds the results of what is listed. -/
structure FS (ops : List Oper) (t : Tr) (L : Nat → Bool) (f : List V) : Prop where
  len : f.length = (t.st 0).fr.length
  f0 : ∀ x, (∀ (j : Nat) (o : Oper), ops[j]? = some o → L j = true → o.dst ≠ some x) → f[x]? = (t.st 0).fr[x]?
  f1 : ∀ (j : Nat) (o : Oper) (d : Nat), ops[j]? = some o → L j = true → o.dst = some d → d < f.length → f[d]? = some (t.v j)

def upd (L : Nat → Bool) (i j : Nat) : Bool := if j = i then true else L j

theorem distinct (F : Form ops) {i j : Nat} {oi oj : Oper} (hi : ops[i]? = some oi) (hj : ops[j]? = some oj) (hne : i ≠ j) {d : Nat} (h1 : oi.dst = some d) (h2 : oj.dst = some d) : False := by
  rcases Nat.lt_or_gt_of_ne hne with h | h
  · exact (F.pair j i oj oi hj hi h).1 d h2 h1
  · exact (F.pair i j oi oj hi hj h).1 d h1 h2

theorem FS.put (F : Form ops) (h : FS ops t L f) {i : Nat} {o : Oper} (hi : ops[i]? = some o) : FS ops t (upd L i) (putF f o.dst (t.v i)) := by
  have hlen : (putF f o.dst (t.v i)).length = f.length := by unfold putF; split <;> simp
  refine ⟨by rw [hlen, h.len], fun x hx => ?_, fun j p d hj hl hd hlt => ?_⟩
  · have h1 : f[x]? = (t.st 0).fr[x]? := h.f0 x fun j p hj hl => hx j p hj (by unfold upd; split; rfl; exact hl)
    have h2 := hx i o hi (by simp [upd])
    rw [← h1]
    unfold putF
    split
    · rename_i d hd
      rw [List.getElem?_set, if_neg (by rintro rfl; exact h2 hd)]
    · rfl
  · rw [hlen] at hlt
    by_cases e : j = i
    · subst e
      rw [hi] at hj
      injection hj with hj
      subst hj
      simp only [putF, hd]
      rw [List.getElem?_set, if_pos rfl, if_pos hlt]
    · have hl' : L j = true := by unfold upd at hl; rw [if_neg e] at hl; exact hl
      rw [← h.f1 j p d hj hl' hd hlt]
      unfold putF
      split
      · rename_i d' hd'
        rw [List.getElem?_set, if_neg]
        rintro rfl
        exact distinct F hj hi e hd hd'
      · rfl

theorem canonFS (hB : Base tab gd call ops n1 t) : ∀ i, i ≤ ops.length → FS ops t (fun j => decide (j < i)) (t.st i).fr
  | 0, _ => ⟨rfl, fun _ _ => rfl, fun j o d _ hl => by simp at hl⟩
  | i + 1, hi => by
    have hlt : i < ops.length := by omega
    have ho := List.getElem?_eq_getElem hlt
    have h1 := canonFS hB i (by omega)
    have h2 := h1.put hB.form ho
    have h3 : (t.st (i + 1)).fr = putF (t.st i).fr ops[i].dst (t.v i) := by
      rw [(hB.ok i _ ho).next, (put_fr _ _ _).1, (canon hB ho).1.fr]
    rw [h3]
    have h4 : (fun j => decide (j < i + 1)) = upd (fun j => decide (j < i)) i := by
      funext j
      unfold upd
      by_cases e : j = i
      · subst e; simp
      · rw [if_neg e]; apply decide_eq_decide.2; omega
    rw [h4]
    exact h2

/-- Memory is the same where no effect stands between. -/
theorem mem_seg (hB : Base tab gd call ops n1 t) (p : Nat) : ∀ q, p + q ≤ ops.length → (∀ (j : Nat) (o : Oper), ops[j]? = some o → p ≤ j → j < p + q → kindOf o ≠ .eff) →
    (t.st (p + q)).L = (t.st p).L ∧ (t.st (p + q)).R = (t.st p).R ∧ (t.st (p + q)).H = (t.st p).H ∧ (t.st (p + q)).n0 = (t.st p).n0
  | 0, _, _ => ⟨rfl, rfl, rfl, rfl⟩
  | q + 1, hq, h => by
    obtain ⟨h1, h2, h3, h4⟩ := mem_seg hB p q (by omega) fun j o hj h1 h2 => h j o hj h1 (by omega)
    have hlt : p + q < ops.length := by omega
    have ho := List.getElem?_eq_getElem hlt
    have hn := (canon hB ho).2 (h _ _ ho (by omega) (by omega))
    have hs : t.st (p + (q + 1)) = (t.st (p + q)).put ops[p + q].dst (t.v (p + q)) := by rw [show p + (q + 1) = p + q + 1 from rfl, (hB.ok _ _ ho).next, hn]
    rw [hs]
    obtain ⟨_, e1, e2, e3, e4⟩ := put_fr (t.st (p + q)) ops[p + q].dst (t.v (p + q))
    exact ⟨by rw [e1, h1], by rw [e2, h2], by rw [e3, h3], by rw [e4, h4]⟩

theorem mem_eq (hB : Base tab gd call ops n1 t) {p q : Nat} (hp : p ≤ ops.length) (hq : q ≤ ops.length) (h : ∀ (j : Nat) (o : Oper), ops[j]? = some o → kindOf o = .eff → (j < p ↔ j < q)) :
    (t.st p).L = (t.st q).L ∧ (t.st p).R = (t.st q).R ∧ (t.st p).H = (t.st q).H ∧ (t.st p).n0 = (t.st q).n0 := by
  rcases Nat.le_total p q with hle | hle
  · obtain ⟨d, rfl⟩ := Nat.exists_eq_add_of_le hle
    obtain ⟨h1, h2, h3, h4⟩ := mem_seg hB p d hq fun j o hj h1 h2 he => by have := h j o hj he; omega
    exact ⟨h1.symm, h2.symm, h3.symm, h4.symm⟩
  · obtain ⟨d, rfl⟩ := Nat.exists_eq_add_of_le hle
    exact mem_seg hB q d hp fun j o hj h1 h2 he => by have := h j o hj he; omega

theorem n0_eq (hB : Base tab gd call ops n1 t) : ∀ k, k ≤ ops.length → (t.st k).n0 = (t.st 0).n0
  | 0, _ => rfl
  | k + 1, hk => by
    have hlt : k < ops.length := by omega
    have ho := List.getElem?_eq_getElem hlt
    rw [(hB.ok _ _ ho).next, (put_fr _ _ _).2.2.2.2, (canon hB ho).1.n0, n0_eq hB k (by omega)]

/-- A box is the same where no effect that writes it stands between. -/
theorem box_seg (hB : Base tab gd call ops n1 t) (p : Nat) (r : Root) : ∀ q, p + q ≤ ops.length → (∀ (j : Nat) (o : Oper), ops[j]? = some o → p ≤ j → j < p + q → kindOf o = .eff → r ∉ t.wr j) →
    match r with | .l b => (t.st (p + q)).L[b]? = (t.st p).L[b]? | .r j => (t.st (p + q)).R[j]? = (t.st p).R[j]?
  | 0, _, _ => by cases r <;> rfl
  | q + 1, hq, h => by
    have h1 := box_seg hB p r q (by omega) fun j o hj h1 h2 => h j o hj h1 (by omega)
    have hlt : p + q < ops.length := by omega
    have ho := List.getElem?_eq_getElem hlt
    obtain ⟨hk, hn⟩ := canon hB ho
    have hs : t.st (p + (q + 1)) = (t.nx (p + q)).put ops[p + q].dst (t.v (p + q)) := by rw [show p + (q + 1) = p + q + 1 from rfl, (hB.ok _ _ ho).next]
    obtain ⟨_, e1, e2, e3, e4⟩ := put_fr (t.nx (p + q)) ops[p + q].dst (t.v (p + q))
    by_cases he : kindOf ops[p + q] = .eff
    · have hw := h _ _ ho (by omega) (by omega) he
      cases r with
      | l b => simp only at h1 ⊢; rw [hs, e1, hk.L b hw, h1]
      | r j => simp only at h1 ⊢; rw [hs, e2, hk.R j hw, h1]
    · cases r with
      | l b => simp only at h1 ⊢; rw [hs, e1, hn he, h1]
      | r j => simp only at h1 ⊢; rw [hs, e2, hn he, h1]

theorem rootBox_eq {s s' : St} {r : Root} (h : match r with | .l b => s.L[b]? = s'.L[b]? | .r j => s.R[j]? = s'.R[j]?) : rootBox s r = rootBox s' r := by
  cases r with
  | l b => simp only [rootBox, List.getD_eq_getElem?_getD]; rw [h]
  | r j => exact h

theorem root_eq (hB : Base tab gd call ops n1 t) {p q : Nat} (hp : p ≤ ops.length) (hq : q ≤ ops.length) (r : Root) (h : ∀ (j : Nat) (o : Oper), ops[j]? = some o → kindOf o = .eff → (p ≤ j ∧ j < q ∨ q ≤ j ∧ j < p) → r ∉ t.wr j) : rootBox (t.st p) r = rootBox (t.st q) r := by
  rcases Nat.le_total p q with hle | hle
  · obtain ⟨d, rfl⟩ := Nat.exists_eq_add_of_le hle
    exact (rootBox_eq (box_seg hB p r d hq fun j o hj h1 h2 he => h j o hj he (.inl ⟨h1, h2⟩))).symm
  · obtain ⟨d, rfl⟩ := Nat.exists_eq_add_of_le hle
    exact rootBox_eq (box_seg hB q r d hp fun j o hj h1 h2 he => h j o hj he (.inr ⟨h1, h2⟩))

/-- What an operation looks at is the same, whatever is listed beside. -/
theorem look_eq (F : Form ops) (h : FS ops t L f) {i : Nat} {oi : Oper} (hi : ops[i]? = some oi) (h' : FS ops t (fun j => decide (j < i)) f') (hLi : L i = false) (hr : ∀ j, ((befores ops).getD i 0).testBit j = true → L j = true)
    (hc : ∀ (j : Nat) (o : Oper), ops[j]? = some o → L j = true → ((befores ops).getD j 0).testBit i = true → L i = true) {x : Nat} (hx : x ∈ looks ops oi) : f[x]? = f'[x]? := by
  by_cases hlt : x < f.length
  · by_cases he : ∃ (j : Nat) (oj : Oper), ops[j]? = some oj ∧ oj.dst = some x
    · obtain ⟨j, oj, hj, hd⟩ := he
      have huniq : ∀ (k : Nat) (ok : Oper), ops[k]? = some ok → ok.dst = some x → k = j := fun k ok hk hdk => Classical.byContradiction fun hne => distinct F hk hj hne hdk hd
      have hno : ∀ M : Nat → Bool, M j = false → ∀ (k : Nat) (ok : Oper), ops[k]? = some ok → M k = true → ok.dst ≠ some x := fun M hM k ok hk hl hdk => by
        rw [huniq k ok hk hdk, hM] at hl; cases hl
      rcases Nat.lt_trichotomy j i with hji | rfl | hij
      · rcases (F.pair i j oi oj hi hj hji).2 with hb | ⟨hap, _⟩
        · rw [h.f1 j oj x hj (hr j hb) hd hlt, h'.f1 j oj x hj (by simpa using hji) hd (by rw [h'.len, ← h.len]; exact hlt)]
        · unfold apartB at hap
          rw [hd] at hap
          simp only [Bool.and_eq_true, Bool.not_eq_true', List.contains_eq_mem, decide_eq_false_iff_not] at hap
          exact absurd hx hap.2
      · rw [h.f0 x (hno L hLi), h'.f0 x (hno _ (by simp))]
      · have hLj : L j = false := by
          cases hl : L j with
          | false => rfl
          | true =>
            rcases (F.pair j i oj oi hj hi hij).2 with hb | ⟨hap, _⟩
            · rw [hc j oj hj hl hb] at hLi; cases hLi
            · unfold apartB at hap
              rw [hd] at hap
              simp only [Bool.and_eq_true, Bool.not_eq_true', List.contains_eq_mem, decide_eq_false_iff_not] at hap
              exact absurd hx hap.1
        rw [h.f0 x (hno L hLj), h'.f0 x (hno _ (by simp; omega))]
    · have hno : ∀ M : Nat → Bool, ∀ (k : Nat) (ok : Oper), ops[k]? = some ok → M k = true → ok.dst ≠ some x := fun M k ok hk _ hdk => he ⟨k, ok, hk, hdk⟩
      rw [h.f0 x (hno L), h'.f0 x (hno _)]
  · rw [List.getElem?_eq_none (by omega), List.getElem?_eq_none (by rw [h'.len, ← h.len]; omega)]

theorem opnd_eq {o : Oper} (h : ∀ x ∈ looks ops o, f[x]? = f'[x]?) {x : Operand} (hx : x ∈ o.op.operands.toList) : opnd f x = opnd f' x := by
  cases x with
  | tmp y =>
    simp only [opnd, List.getD_eq_getElem?_getD]
    rw [h y]
    exact List.mem_append_left _ (List.mem_filterMap.2 ⟨.tmp y, hx, rfl⟩)
  | _ => rfl

theorem look_guard {o : Oper} {j d : Nat} {want : Bool} (hg : o.guard = some (j, want)) (hd : dstOf ops j = some d) : d ∈ looks ops o := by
  unfold looks
  rw [hg]
  exact List.mem_append_right _ (by simp [hd])

theorem act_eff {c : Cx} {o : Oper} (X : Heap) (hk : kindOf o = .eff) : act tab gd call (some c) o s quad = act tab gd call (some { c with H0 := X }) o s quad := by
  unfold kindOf at hk
  unfold act
  cases ho : o.op <;> rw [ho] at hk <;> first | (cases hk; done) | rfl

theorem act_hrd {c c2 : Cx} {o : Oper} {s2 : St} (hk : kindOf o = .hrd) (h : act tab gd call (some c) o s quad = some (v, s', rd, wr)) (hfr : s2.fr = s.fr) (hr : ∀ r ∈ rd, rootBox s2 r = rootBox s r)
    (hc : c.idx = true → c2.idx = true ∧ c2.H0 = c.H0) : act tab gd call (some c2) o s2 quad = some (v, s2, rd, wr) := by
  unfold kindOf at hk
  unfold act at h ⊢
  cases ho : o.op <;> rw [ho] at hk h <;> (try (cases hk; done))
  case call cl =>
    simp only at hk
    cases hcc : cl.callee with
    | builtin b => rw [hcc] at hk; cases b <;> cases hk
    | _ => rw [hcc] at hk; cases hk
  case load ty x =>
    simp only at h ⊢
    rw [hfr]
    split at h
    · rename_i p hp
      rw [loadV_bind] at h
      rw [loadV_bind]
      cases hl : loadV tab gd s (some c) ty p pair2 with
      | none => rw [hl] at h; cases h
      | some r =>
        obtain ⟨v1, rd1⟩ := r
        rw [hl] at h
        simp only [Option.bind_some, quad, Option.some.injEq, Prod.mk.injEq] at h
        obtain ⟨rfl, rfl, rfl, rfl⟩ := h
        have key : loadV tab gd s2 (some c2) ty p pair2 = some (v1, rd1) := by
          unfold loadV at hl ⊢
          cases p with
          | loc b off =>
            simp only at hl ⊢
            have hrd : Root.l b ∈ rd1 := by
              split at hl
              · rw [readC_bind] at hl
                cases hx : readC tab ty _ off some with
                | none => rw [hx] at hl; cases hl
                | some z => rw [hx] at hl; simp only [Option.bind_some, pair2, Option.some.injEq, Prod.mk.injEq] at hl; rw [← hl.2]; simp
              · cases hl
            have := hr _ hrd
            simp only [rootBox] at this
            rw [this]
            exact hl
          | ref b off =>
            simp only at hl ⊢
            have hrd : Root.r b ∈ rd1 := by
              split at hl
              · rw [readC_bind] at hl
                cases hx : readC tab ty _ off some with
                | none => rw [hx] at hl; cases hl
                | some z => rw [hx] at hl; simp only [Option.bind_some, pair2, Option.some.injEq, Prod.mk.injEq] at hl; rw [← hl.2]; simp
              · cases hl
            have := hr _ hrd
            simp only [rootBox] at this
            rw [this]
            exact hl
          | elt id i k =>
            simp only at hl ⊢
            cases ht : tab ty with
            | none => rw [ht] at hl; cases hl
            | some ti =>
              rw [ht] at hl
              simp only at hl ⊢
              split at hl
              · rename_i hcnd
                have hidx : c.idx = true := hcnd.2.2.2
                obtain ⟨h1, h2⟩ := hc hidx
                rw [if_pos ⟨hcnd.1, hcnd.2.1, hcnd.2.2.1, h1⟩]
                simp only [rdHeap] at hl ⊢
                rw [h2]
                exact hl
              · cases hl
          | glob g off => exact hl
          | nil => cases hl
        rw [key]
        rfl
    · cases h
  case lookup ty x i ok =>
    simp only at h ⊢
    rw [hfr]
    split at h
    · rename_i id k hm hx hi
      split at h
      · rename_i es hes
        split at h
        · rename_i hidx
          obtain ⟨h1, h2⟩ := hc hidx
          simp only [quad, Option.some.injEq, Prod.mk.injEq] at h
          obtain ⟨rfl, rfl, rfl, rfl⟩ := h
          simp only [rdHeap] at hes ⊢
          rw [h2, hes]
          exact if_pos h1
        · cases h
      · cases h
    · cases h

def isAlloc (o : Oper) : Bool := match o.op with | .alloc _ => true | _ => false

theorem act_class {c : Cx} {o : Oper} {r : V × St × List Root × List Root} (h : act tab gd call (some c) o s quad = some r) :
    (pureB o = true ∧ kindOf o = .rd) ∨ (memB (some c) o = true ∧ kindOf o = .hrd) ∨ (memB (some c) o = true ∧ kindOf o = .eff) ∨ (callB o = true ∧ kindOf o = .eff) ∨ (isAlloc o = true ∧ kindOf o = .rd) ∨ (isMake o = true ∧ kindOf o = .rd) := by
  unfold act at h
  unfold pureB memB callB isAlloc isMake kindOf
  cases ho : o.op <;> rw [ho] at h <;> (try (cases h; done)) <;> (try simp)
  case call cl =>
    simp only at h
    cases hc : cl.callee with
    | builtin b =>
      rw [hc] at h
      simp only at h ⊢
      unfold builtinV at h
      cases b <;> simp <;> (try (simp only at h; cases h; done))
    | value x => simp
    | invoke x y => rw [hc] at h; cases h
  case box e x =>
    simp only [Option.isSome_some, if_true] at h
    split at h <;> cases h
  case makeMap ty x =>
    simp only [Option.isSome_some, if_true] at h
    split at h <;> cases h
end Go.Ev
end

section
set_option linter.all false
/- Drawing regions: one operation more, in whatever order. -/
namespace Go.Ev
variable {P : Program} {tab : Nat → Option TI} {gd : Nat → List C} {B : Nat → Nat} {vs : List Nat} {m m' m1 : Nm} {s s' : St} {a : Act} {w w' w1 : World} {v v' : V} {rd wr : List Root} {n : Nat} {f f' : List V}
variable {call : Nat → List V → List Box → Heap → Option Res} {ops : List Oper} {n1 : Nat} {t : Tr} {L : Nat → Bool}

/-- A slice that has been made, whose block isn't in the abstract heap yet. -/
structure MadeAt (tab : Nat → Option TI) (z : Nat) (m : Nm) (w : World) (id g : Nat) (o : Oper) (v : V) : Prop where
  ex : ∃ ty x y e ti zr b sh q n tot, ∃ (xs : List Value), o.op = .makeSlice ty x y ∧ tab ty = some ⟨.slice e, zr, b, sh, q⟩ ∧ tab e = some ti ∧ v = .one (.sl id 0 n ti.zero.length) ∧ m.hp id = [⟨g, 0, (repC ti.zero n).length, tot⟩] ∧
    w.heap[g]? = some (.cells xs.toArray e (0, 0)) ∧ (repC ti.zero n).length ≤ tot ∧ tot ≤ xs.length ∧ All2 (CR (fun _ => []) 0) (repC ti.zero n) (xs.take (repC ti.zero n).length)
  own : m.own g = .none
  ge : z ≤ g

theorem MadeAt.lt {z id g : Nat} {o : Oper} (h : MadeAt tab z m w id g o v) : g < w.heap.size := by
  obtain ⟨ty, x, y, e, ti, zr, b, sh, q, n, tot, xs, _, _, _, _, _, hw, _⟩ := h.ex
  exact lt_of_get hw
theorem MadeAt.keep {z id g : Nat} {o : Oper} (h : MadeAt tab z m w id g o v) (hp : m'.hp id = m.hp id) (hs : w'.heap[g]? = w.heap[g]? ∧ m'.own g = .none) : MadeAt tab z m' w' id g o v := by
  obtain ⟨ty, x, y, e, ti, zr, b, sh, q, n, tot, xs, h1, h2, h3, h4, h5, h6, h7⟩ := h.ex
  exact ⟨⟨ty, x, y, e, ti, zr, b, sh, q, n, tot, xs, h1, h2, h3, h4, by rw [hp, h5], by rw [hs.1, h6], h7⟩, hs.2, h.ge⟩

def mid (ops : List Oper) (n1 j : Nat) : Nat := n1 + makesAhead (rgOf ops) j

/-- What stands when some operations have been carried out. -/
structure Inv (tab : Nat → Option TI) (gd : Nat → List C) (B : Nat → Nat) (ops : List Oper) (n1 : Nat) (t : Tr) (m0 : Nm) (s0 : St) (w0 : World) (L : Nat → Bool) (k : Nat) (f : List V) (vs : List Nat) (gb : Nat → Nat) (m : Nm) (a : Act) (w : World) : Prop where
  closed : Closed ops L
  kle : k ≤ ops.length
  eff : ∀ (j : Nat) (o : Oper), ops[j]? = some o → kindOf o = .eff → (L j = true ↔ j < k)
  fs : FS ops t L f
  rel : SRel gd B vs m { t.st k with fr := f } a w
  vsv : ∀ b, b ∈ vs ↔ ∃ (j : Nat) (o : Oper) (e : Nat), ops[j]? = some o ∧ o.op = .alloc e ∧ o.dst = some b ∧ L j = false
  grows : (rgOf ops).idx = true → (∃ (j : Nat) (o : Oper), ops[j]? = some o ∧ kindOf o = .hrd ∧ L j = false) → Grows (t.st 0).H (t.st k).H
  trans : Trans m0 s0 w0 { t.st k with fr := f } m w
  zle : w0.heap.size ≤ w.heap.size
  dead : ∀ (j : Nat) (o : Oper), ops[j]? = some o → isMake o = true → (t.st k).H[mid ops n1 j]? = some .dead
  pend : ∀ (j : Nat) (o : Oper), ops[j]? = some o → isMake o = true → L j = false → m.hp (mid ops n1 j) = []
  made : ∀ (j : Nat) (o : Oper), ops[j]? = some o → isMake o = true → L j = true → MadeAt tab w0.heap.size m w (mid ops n1 j) (gb j) o (t.v j)
  apart : ∀ (j j' : Nat) (o o' : Oper), ops[j]? = some o → ops[j']? = some o' → isMake o = true → isMake o' = true → L j = true → L j' = true → j ≠ j' → gb j ≠ gb j'

theorem mid_inj {j j' : Nat} {o o' : Oper} (hj : ops[j]? = some o) (hj' : ops[j']? = some o') (hm : isMake o = true) (hm' : isMake o' = true) (hne : j ≠ j') : mid ops n1 j ≠ mid ops n1 j' := by
  have key : ∀ (p q : Nat) (o : Oper), ops[p]? = some o → isMake o = true → p < q → makesAhead (rgOf ops) p < makesAhead (rgOf ops) q := by
    intro p q o hp hm hlt
    unfold makesAhead rgOf
    simp only
    obtain ⟨d, rfl⟩ := Nat.exists_eq_add_of_lt hlt
    have h1 : (ops.take (p + d + 1)) = ops.take p ++ (ops.drop p).take (d + 1) := by rw [show p + d + 1 = p + (d + 1) from by omega, List.take_add]
    have h2 : ops.drop p = o :: ops.drop (p + 1) := by
      rw [List.drop_eq_getElem_cons (List.getElem?_eq_some_iff.1 hp).1]
      congr 1
      exact (List.getElem?_eq_some_iff.1 hp).2
    rw [h1, h2, List.filter_append, List.length_append, List.take_succ_cons, List.filter_cons, hm]
    simp
  unfold mid
  rcases Nat.lt_or_gt_of_ne hne with h | h
  · have := key j j' o hj hm h; omega
  · have := key j' j o' hj' hm' h; omega

section
variable {m0 : Nm} {s0 : St} {w0 : World} {k : Nat} {gb : Nat → Nat}

theorem Inv.ready (hB : Base tab gd call ops n1 t) (I : Inv tab gd B ops n1 t m0 s0 w0 L k f vs gb m a w) {i : Nat} {o : Oper} (hi : ops[i]? = some o) (he : ∀ e ∈ o.after.toList, Region.binds .any e = true → L e.on = true) :
    (∀ j, ((befores ops).getD i 0).testBit j = true → L j = true) ∧ (∀ (j : Nat) (p : Oper), ops[j]? = some p → L j = true → ∀ q, ((befores ops).getD j 0).testBit q = true → L q = true) :=
  ⟨closed_bit hB.form I.closed i o hi he, fun j p hj hl q hq => closed_bit hB.form I.closed j p hj (I.closed j p hj hl) q hq⟩

theorem Inv.look (hB : Base tab gd call ops n1 t) (I : Inv tab gd B ops n1 t m0 s0 w0 L k f vs gb m a w) {i : Nat} {o : Oper} (hi : ops[i]? = some o) (hL : L i = false) (he : ∀ e ∈ o.after.toList, Region.binds .any e = true → L e.on = true) :
    ∀ x ∈ looks ops o, f[x]? = (t.st i).fr[x]? := by
  obtain ⟨h1, h2⟩ := I.ready hB hi he
  exact fun x hx => look_eq hB.form I.fs hi (canonFS hB i (Nat.le_of_lt (List.getElem?_eq_some_iff.1 hi).1)) hL h1 (fun j p hj hl hb => h2 j p hj hl i hb) hx

/-- No slot leads to a box that hasn't been made. -/
theorem Inv.noloc (hB : Base tab gd call ops n1 t) (I : Inv tab gd B ops n1 t m0 s0 w0 L k f vs gb m a w) {b y : Nat} (hb : b ∈ vs) {u : V} (hu : f[y]? = some u) : b ∉ locsOf u := by
  obtain ⟨j, o, e, hj, ho, hd, hl⟩ := (I.vsv b).1 hb
  by_cases hex : ∃ (i : Nat) (p : Oper), ops[i]? = some p ∧ L i = true ∧ p.dst = some y
  · obtain ⟨i, p, hi, hli, hdp⟩ := hex
    have hlt := (List.getElem?_eq_some_iff.1 hu).1
    rw [I.fs.f1 i p y hi hli hdp hlt] at hu
    injection hu with hu
    subst hu
    have hne : i ≠ j := by rintro rfl; rw [hli] at hl; cases hl
    refine (alc_free hB (List.getElem?_eq_some_iff.1 hi).1 hj ho hd hne ?_).2.2
    cases hb : ((befores ops).getD i 0).testBit j with
    | false => rfl
    | true => rw [(I.ready hB hi (I.closed i p hi hli)).1 j hb] at hl; cases hl
  · rw [I.fs.f0 y fun i p hi hli hdp => hex ⟨i, p, hi, hli, hdp⟩] at hu
    exact hB.kill j o e b hj ho hd y u hu

theorem ofValue_locs (x : Value) : locsOf (ofValue x) = [] := by
  unfold ofValue
  split <;> try rfl
  split <;> rfl

theorem Inv.noloc_opnd (hB : Base tab gd call ops n1 t) (I : Inv tab gd B ops n1 t m0 s0 w0 L k f vs gb m a w) (x : Operand) {b : Nat} (hb : b ∈ locsOf (opnd f x)) : b ∉ vs := by
  intro hv
  cases x with
  | tmp y =>
    simp only [opnd, List.getD_eq_getElem?_getD] at hb
    cases hy : f[y]? with
    | none => rw [hy] at hb; simp [und, locsOf] at hb
    | some u => rw [hy] at hb; exact I.noloc hB hv hy hb
  | const c => simp only [opnd, ofValue_locs] at hb; cases hb
  | func g => simp [opnd, locsOf] at hb
  | global g => simp [opnd, locsOf] at hb

/-- One operation more. -/
theorem Inv.fin (hB : Base tab gd call ops n1 t) (I : Inv tab gd B ops n1 t m0 s0 w0 L k f vs gb m a w) {i : Nat} {o : Oper} (hi : ops[i]? = some o) (hL : L i = false) (he : ∀ e ∈ o.after.toList, Region.binds .any e = true → L e.on = true)
    {k' : Nat} {vs' : List Nat} {gb' : Nat → Nat} {x : Value} (hk1 : kindOf o = .eff → k' = i + 1) (hk2 : kindOf o ≠ .eff → k' = k)
    (hrel : SRel gd B vs' m' { t.st k' with fr := f } a w') (hv : VR m' (t.st k').H.length (t.v i) x)
    (hvs : ∀ b, b ∈ vs' ↔ ∃ (j : Nat) (o : Oper) (e : Nat), ops[j]? = some o ∧ o.op = .alloc e ∧ o.dst = some b ∧ upd L i j = false)
    (hgr : (rgOf ops).idx = true → (∃ (j : Nat) (o : Oper), ops[j]? = some o ∧ kindOf o = .hrd ∧ upd L i j = false) → Grows (t.st 0).H (t.st k').H)
    (htr : Trans m0 s0 w0 { t.st k' with fr := f } m' w') (hz : w0.heap.size ≤ w'.heap.size)
    (hdead : ∀ (j : Nat) (o : Oper), ops[j]? = some o → isMake o = true → (t.st k').H[mid ops n1 j]? = some .dead)
    (hpend : ∀ (j : Nat) (o : Oper), ops[j]? = some o → isMake o = true → upd L i j = false → m'.hp (mid ops n1 j) = [])
    (hmade : ∀ (j : Nat) (o : Oper), ops[j]? = some o → isMake o = true → upd L i j = true → MadeAt tab w0.heap.size m' w' (mid ops n1 j) (gb' j) o (t.v j))
    (hap : ∀ (j j' : Nat) (o o' : Oper), ops[j]? = some o → ops[j']? = some o' → isMake o = true → isMake o' = true → upd L i j = true → upd L i j' = true → j ≠ j' → gb' j ≠ gb' j') :
    Inv tab gd B ops n1 t m0 s0 w0 (upd L i) k' (putF f o.dst (t.v i)) vs' gb' m' (a.put o.dst x) w' := by
  have hlt := (List.getElem?_eq_some_iff.1 hi).1
  obtain ⟨r1, r2⟩ := I.ready hB hi he
  have hst : ({ ({ t.st k' with fr := f } : St).put o.dst (t.v i) with fr := putF f o.dst (t.v i) } : St) = { t.st k' with fr := putF f o.dst (t.v i) } := by cases o.dst <;> rfl
  have hst2 : (({ t.st k' with fr := f } : St).put o.dst (t.v i)) = { t.st k' with fr := putF f o.dst (t.v i) } := by cases o.dst <;> rfl
  refine ⟨fun j p hj hl e hee hb => ?_, ?_, fun j p hj hp => ?_, I.fs.put hB.form hi, ?_, hvs, hgr, htr.of_H rfl rfl rfl rfl, hz, hdead, hpend, hmade, hap⟩
  · unfold upd at hl ⊢
    split
    · rfl
    · by_cases e1 : j = i
      · subst e1
        rw [hi] at hj
        injection hj with hj
        subst hj
        exact he e hee hb
      · rw [if_neg e1] at hl
        exact I.closed j p hj hl e hee hb
  · by_cases e : kindOf o = .eff
    · rw [hk1 e]; omega
    · rw [hk2 e]; exact I.kle
  · unfold upd
    by_cases e1 : j = i
    · subst e1
      rw [hi] at hj
      injection hj with hj
      subst hj
      rw [if_pos rfl, hk1 hp]
      simp
    · rw [if_neg e1]
      by_cases e2 : kindOf o = .eff
      · rw [hk1 e2]
        rcases Nat.lt_or_gt_of_ne e1 with h | h
        · rcases (hB.form.pair i j o p hi hj h).2 with hb | ⟨_, hb⟩
          · have := r1 j hb
            rw [this]
            simp; omega
          · exact absurd ⟨e2, hp⟩ hb
        · have : L j = false := by
            cases hl : L j with
            | false => rfl
            | true =>
              rcases (hB.form.pair j i p o hj hi h).2 with hb | ⟨_, hb⟩
              · rw [r2 j p hj hl i hb] at hL; cases hL
              · exact absurd ⟨hp, e2⟩ hb
          rw [this]
          simp; omega
      · rw [hk2 e2]; exact I.eff j p hj hp
  · rw [← hst2]; exact hrel.put hv o.dst

theorem upd_ne {i j : Nat} (h : j ≠ i) : upd L i j = L j := by unfold upd; exact if_neg h
theorem upd_same {i : Nat} : upd L i i = true := by unfold upd; exact if_pos rfl

/-- The made blocks behind a step that leaves them. -/
theorem Inv.keep (I : Inv tab gd B ops n1 t m0 s0 w0 L k f vs gb m a w) {i : Nat} {o : Oper} (hi : ops[i]? = some o) (hnm : isMake o = false) (hhp : ∀ (j : Nat) (p : Oper), ops[j]? = some p → isMake p = true → m'.hp (mid ops n1 j) = m.hp (mid ops n1 j))
    (hs : ∀ g, g < w.heap.size → m.own g = .none → w'.heap[g]? = w.heap[g]? ∧ m'.own g = .none) :
    (∀ (j : Nat) (o : Oper), ops[j]? = some o → isMake o = true → upd L i j = false → m'.hp (mid ops n1 j) = []) ∧
    (∀ (j : Nat) (o : Oper), ops[j]? = some o → isMake o = true → upd L i j = true → MadeAt tab w0.heap.size m' w' (mid ops n1 j) (gb j) o (t.v j)) ∧
    (∀ (j j' : Nat) (o o' : Oper), ops[j]? = some o → ops[j']? = some o' → isMake o = true → isMake o' = true → upd L i j = true → upd L i j' = true → j ≠ j' → gb j ≠ gb j') := by
  have hne : ∀ {j : Nat} {p : Oper}, ops[j]? = some p → isMake p = true → j ≠ i := fun hj hp e => by
    subst e; rw [hi] at hj; injection hj with hj; subst hj; rw [hnm] at hp; cases hp
  refine ⟨fun j p hj hp hl => ?_, fun j p hj hp hl => ?_, fun j j' p p' hj hj' hp hp' hl hl' => ?_⟩
  · rw [upd_ne (hne hj hp)] at hl
    rw [hhp j p hj hp]; exact I.pend j p hj hp hl
  · rw [upd_ne (hne hj hp)] at hl
    have h1 := I.made j p hj hp hl
    exact h1.keep (hhp j p hj hp) (hs _ h1.lt h1.own)
  · rw [upd_ne (hne hj hp)] at hl
    rw [upd_ne (hne hj' hp')] at hl'
    exact I.apart j j' p p' hj hj' hp hp' hl hl'

theorem Inv.vs_keep (I : Inv tab gd B ops n1 t m0 s0 w0 L k f vs gb m a w) {i : Nat} {o : Oper} (hi : ops[i]? = some o) (hna : isAlloc o = false) :
    ∀ b, b ∈ vs ↔ ∃ (j : Nat) (o : Oper) (e : Nat), ops[j]? = some o ∧ o.op = .alloc e ∧ o.dst = some b ∧ upd L i j = false := by
  intro b
  rw [I.vsv b]
  have hne : ∀ {j : Nat} {p : Oper} {e : Nat}, ops[j]? = some p → p.op = .alloc e → j ≠ i := fun hj hp e => by
    subst e; rw [hi] at hj; injection hj with hj; subst hj; simp [isAlloc, hp] at hna
  constructor
  · rintro ⟨j, p, e, h1, h2, h3, h4⟩
    exact ⟨j, p, e, h1, h2, h3, by rw [upd_ne (hne h1 h2)]; exact h4⟩
  · rintro ⟨j, p, e, h1, h2, h3, h4⟩
    exact ⟨j, p, e, h1, h2, h3, by rw [upd_ne (hne h1 h2)] at h4; exact h4⟩

/-- What stands when one more has been carried out. -/
def Next (tab : Nat → Option TI) (gd : Nat → List C) (B : Nat → Nat) (ops : List Oper) (n1 : Nat) (t : Tr) (m0 : Nm) (s0 : St) (w0 : World) (L : Nat → Bool) (a : Act) (w : World) : Prop :=
  ∃ k f vs gb m, Inv tab gd B ops n1 t m0 s0 w0 L k f vs gb m a w

theorem st_ext {s s' : St} (h1 : s.L = s'.L) (h2 : s.R = s'.R) (h3 : s.H = s'.H) (h4 : s.n0 = s'.n0) : ({ s with fr := f } : St) = { s' with fr := f } := by
  cases s; cases s'; simp only at h1 h2 h3 h4; subst h1 h2 h3 h4; rfl

/-- Ahead of an effect memory is as in the canonical run. -/
theorem Inv.mem_i (hB : Base tab gd call ops n1 t) (I : Inv tab gd B ops n1 t m0 s0 w0 L k f vs gb m a w) {i : Nat} {o : Oper} (hi : ops[i]? = some o) (hL : L i = false) (he : ∀ e ∈ o.after.toList, Region.binds .any e = true → L e.on = true) (hk : kindOf o = .eff) :
    ({ t.st k with fr := f } : St) = { t.st i with fr := f } := by
  obtain ⟨r1, r2⟩ := I.ready hB hi he
  obtain ⟨h1, h2, h3, h4⟩ := mem_eq hB I.kle (Nat.le_of_lt (List.getElem?_eq_some_iff.1 hi).1) (p := k) (q := i) (fun j p hj hp => by
    rw [← I.eff j p hj hp]
    rcases Nat.lt_trichotomy j i with h | rfl | h
    · rcases (hB.form.pair i j o p hi hj h).2 with hb | ⟨_, hb⟩
      · simp [r1 j hb, h]
      · exact absurd ⟨hk, hp⟩ hb
    · simp [hL]
    · have : L j = false := by
        cases hl : L j with
        | false => rfl
        | true =>
          rcases (hB.form.pair j i p o hj hi h).2 with hb | ⟨_, hb⟩
          · rw [r2 j p hj hl i hb] at hL; cases hL
          · exact absurd ⟨hp, hk⟩ hb
      simp [this]; omega)
  exact st_ext h1 h2 h3 h4

theorem Inv.next_st (hB : Base tab gd call ops n1 t) {i : Nat} {o : Oper} (hi : ops[i]? = some o) : ({ t.st (i + 1) with fr := f } : St) = { t.nx i with fr := f } := by
  rw [(hB.ok i o hi).next]
  cases o.dst <;> rfl

theorem upd_false {i : Nat} (h : ∃ (j : Nat) (p : Oper), ops[j]? = some p ∧ kindOf p = .hrd ∧ upd L i j = false) : ∃ (j : Nat) (p : Oper), ops[j]? = some p ∧ kindOf p = .hrd ∧ L j = false := by
  obtain ⟨j, p, h3, h4, h5⟩ := h
  refine ⟨j, p, h3, h4, ?_⟩
  unfold upd at h5
  split at h5
  · cases h5
  · exact h5

/-- Behind an effect, or one that is left out. -/
theorem Inv.effect (hB : Base tab gd call ops n1 t) (I : Inv tab gd B ops n1 t m0 s0 w0 L k f vs gb m a w) {i : Nat} {o : Oper} (hi : ops[i]? = some o) (hL : L i = false) (he : ∀ e ∈ o.after.toList, Region.binds .any e = true → L e.on = true)
    (hk : kindOf o = .eff) {x : Value} (hA : Aft gd B vs m { t.st i with fr := f } a w { t.nx i with fr := f } m' w') (hv : VR m' (t.nx i).H.length (t.v i) x)
    (hgr : (rgOf ops).idx = true → (∃ (j : Nat) (p : Oper), ops[j]? = some p ∧ kindOf p = .hrd ∧ upd L i j = false) → Grows (t.st i).H (t.nx i).H) :
    Next tab gd B ops n1 t m0 s0 w0 (upd L i) (a.put o.dst x) w' := by
  have hnm : isMake o = false := by
    cases h : isMake o with
    | false => rfl
    | true => unfold isMake at h; unfold kindOf at hk; cases ho : o.op <;> rw [ho] at h hk <;> first | (cases h; done) | (cases hk; done)
  have hna : isAlloc o = false := by
    cases h : isAlloc o with
    | false => rfl
    | true => unfold isAlloc at h; unfold kindOf at hk; cases ho : o.op <;> rw [ho] at h hk <;> first | (cases h; done) | (cases hk; done)
  have hki := I.mem_i hB hi hL he hk
  have hH : (t.st k).H = (t.st i).H := by have := congrArg St.H hki; exact this
  have hnx := next_st (f := f) hB hi
  have hHn : (t.st (i + 1)).H = (t.nx i).H := by have := congrArg St.H hnx; exact this
  obtain ⟨q1, q2, q3⟩ := I.keep (m' := m') (w' := w') hi hnm (fun j p hj hp => (hA.dead _ _ (by show (t.st i).H[_]? = _; rw [← hH]; exact I.dead j p hj hp) rfl).2) hA.same
  refine ⟨i + 1, _, vs, gb, m', I.fin hB hi hL he (fun _ => rfl) (fun h => absurd hk h) (by rw [hnx]; exact hA.rel) (by rw [hHn]; exact hv) (I.vs_keep hi hna) (fun h1 h2 => ?_) ?_ (Nat.le_trans I.zle hA.size) (fun j p hj hp => ?_) q1 q2 q3⟩
  · have h3 := I.grows h1 (upd_false h2)
    rw [hHn]
    rw [hH] at h3
    exact h3.trans (hgr h1 h2)
  · rw [hnx]
    have h1 := I.trans
    rw [hki] at h1
    exact h1.trans hA.trans
  · rw [hHn]
    exact (hA.dead _ _ (by show (t.st i).H[_]? = _; rw [← hH]; exact I.dead j p hj hp) rfl).1

/-- Operations that touch no memory, and those that are left out. -/
theorem Inv.calm (hB : Base tab gd call ops n1 t) (I : Inv tab gd B ops n1 t m0 s0 w0 L k f vs gb m a w) {i : Nat} {o : Oper} (hi : ops[i]? = some o) (hL : L i = false) (he : ∀ e ∈ o.after.toList, Region.binds .any e = true → L e.on = true)
    (hnm : isMake o = false) (hna : isAlloc o = false) (hns : t.nx i = t.st i) {x : Value} (hv : VR m (t.st k).H.length (t.v i) x) :
    Next tab gd B ops n1 t m0 s0 w0 (upd L i) (a.put o.dst x) w := by
  by_cases hk : kindOf o = .eff
  · have hki := I.mem_i hB hi hL he hk
    have hH : (t.st k).H = (t.st i).H := by have := congrArg St.H hki; exact this
    refine I.effect hB hi hL he hk (m' := m) (w' := w) ?_ (by rw [hns, ← hH]; exact hv) (fun _ _ => by rw [hns]; exact Grows.refl _)
    rw [hns, ← hki]
    exact Aft.refl I.rel
  · obtain ⟨q1, q2, q3⟩ := I.keep (m' := m) (w' := w) hi hnm (fun _ _ _ _ => rfl) (fun g _ h => ⟨rfl, h⟩)
    exact ⟨k, _, vs, gb, m, I.fin hB hi hL he (fun h => absurd h hk) (fun _ => rfl) I.rel hv (I.vs_keep hi hna) (fun h1 h2 => I.grows h1 (upd_false h2)) I.trans I.zle I.dead q1 q2 q3⟩

/-- A box that is made. -/
theorem Inv.alloc (hT : TabOk P tab) (hB : Base tab gd call ops n1 t) (I : Inv tab gd B ops n1 t m0 s0 w0 L k f vs gb m a w) {i : Nat} {o : Oper} (hi : ops[i]? = some o) (hL : L i = false) (he : ∀ e ∈ o.after.toList, Region.binds .any e = true → L e.on = true)
    {e : Nat} (ho : o.op = .alloc e) {c : Cx} (hact : act tab gd call (some c) o (t.st i) quad = some (t.v i, t.nx i, t.rd i, t.wr i)) :
    Goes P o a w fun x w' => Next tab gd B ops n1 t m0 s0 w0 (upd L i) (a.put o.dst x) w' := by
  have hlt := (List.getElem?_eq_some_iff.1 hi).1
  obtain ⟨_, d, hd⟩ := hB.form.made i o hi (.inl ⟨e, ho⟩)
  obtain ⟨ti, ht, hlay⟩ := hB.lay i o e d hi ho hd
  unfold act at hact
  rw [ho] at hact
  simp only [hd, ht] at hact
  split at hact
  · cases hact
  · rename_i hz
    simp only [Option.isSome_some, if_true, quad, Option.some.injEq, Prod.mk.injEq] at hact
    obtain ⟨hvv, _, _, _⟩ := hact
    obtain ⟨zs, z1, z2⟩ := alloc_run (P := P) (w := w) hT ht hz m.hp (t.st k).H.length
    have u := New.alloc w (.cells zs.toArray e (0, 0))
    have hdv : d ∈ vs := (I.vsv d).2 ⟨i, o, e, hi, ho, hd, hL⟩
    have hS := I.rel.newBox' (vs' := vs.filter (· ≠ d)) (d := d) (t := e) z2 u (fun b hb hbv => by simp [hb, hbv])
    have hbox : ∀ x, (t.st k).L[d]? = some x → x = some (e, ti.zero) := by
      intro x hx
      apply hlay x
      have h1 := box_seg hB 0 (.l d) k (by have := I.kle; omega) fun j p hj _ h2 hk hw => by
        have hlj := (I.eff j p hj hk).2 (by omega)
        have hne : j ≠ i := by rintro rfl; rw [hL] at hlj; cases hlj
        refine (alc_free hB (List.getElem?_eq_some_iff.1 hj).1 hi ho hd hne ?_).2.1 hw
        cases hb : ((befores ops).getD j 0).testBit i with
        | false => rfl
        | true => rw [(I.ready hB hj (I.closed j p hj hlj)).1 i hb] at hL; cases hL
      simp only [Nat.zero_add] at h1
      rw [← h1]; exact hx
    have hsame : newBox { t.st k with fr := f } d e ti.zero = { t.st k with fr := f } := by
      have e1 : f.map (killV d) = f := by
        apply List.ext_getElem?
        intro y
        rw [List.getElem?_map]
        cases hy : f[y]? with
        | none => rfl
        | some u =>
          have hu := I.noloc hB hdv hy
          simp only [Option.map_some, Option.some.injEq]
          cases u with
          | ptr p => cases p with
            | loc b off => simp only [locsOf, List.mem_singleton] at hu; simp only [killV]; rw [if_neg (Ne.symm hu)]
            | _ => rfl
          | clo g caps => simp only [locsOf] at hu; simp only [killV]; rw [if_neg (by simpa using hu)]
          | _ => rfl
      have e2 : (t.st k).L.set d (some (e, ti.zero)) = (t.st k).L := by
        apply List.ext_getElem?
        intro y
        rw [List.getElem?_set]
        by_cases hy : d = y
        · subst hy
          rw [if_pos rfl]
          split
          · rename_i hl
            have := List.getElem?_eq_getElem hl
            rw [this, hbox _ this]
          · rename_i hl; rw [List.getElem?_eq_none (by omega)]
        · rw [if_neg hy]
      unfold newBox
      simp only [e1, e2]
    rw [hsame] at hS
    obtain ⟨q1, q2, q3⟩ := I.keep (m' := m.box d w.heap.size) (w' := w.alloc (.cells zs.toArray e (0, 0))) hi (by simp [isMake, ho]) (fun _ _ _ _ => rfl) (fun g hg h => ⟨u.other g hg, by
      simp only [Nm.box]; rw [if_neg (by omega)]; split; rfl; exact h⟩)
    refine .inl ⟨_, _, _, val_run z1 (by simp only [execOp, ho]), .inl rfl, k, _, _, gb, m.box d w.heap.size, I.fin hB hi hL he (fun h => by simp [kindOf, ho] at h) (fun _ => rfl) hS ?_ ?_ (fun h1 h2 => I.grows h1 (upd_false h2)) ?_ (by rw [u.size]; have := I.zle; omega) I.dead q1 q2 q3⟩
    · rw [← hvv]
      show _ = _
      simp [Nm.box]
    · intro b
      simp only [List.mem_filter, decide_eq_true_eq]
      constructor
      · rintro ⟨hb, hne⟩
        obtain ⟨j, p, e', h1, h2, h3, h4⟩ := (I.vsv b).1 hb
        refine ⟨j, p, e', h1, h2, h3, ?_⟩
        rw [upd_ne]
        · exact h4
        · rintro rfl
          rw [hi] at h1
          injection h1 with h1
          subst h1
          rw [hd] at h3
          injection h3 with h3
          simp [h3] at hne
      · rintro ⟨j, p, e', h1, h2, h3, h4⟩
        have hji : j ≠ i := by rintro rfl; rw [upd_same] at h4; cases h4
        rw [upd_ne hji] at h4
        refine ⟨(I.vsv b).2 ⟨j, p, e', h1, h2, h3, h4⟩, ?_⟩
        have : b ≠ d := by rintro rfl; exact distinct hB.form h1 hi hji h3 hd
        simpa using this
    · exact I.trans.trans ⟨fun m0 w0 hk => hk.box u, Nat.le_refl _, fun id b hb _ => ⟨hb, rfl⟩, fun _ _ hb => hb, rfl⟩

/-- A slice that is made. -/
theorem Inv.make (hT : TabOk P tab) (hB : Base tab gd call ops n1 t) (hn1 : n1 = s0.H.length) (I : Inv tab gd B ops n1 t m0 s0 w0 L k f vs gb m a w) {i : Nat} {o : Oper} (hi : ops[i]? = some o) (hL : L i = false) (he : ∀ e ∈ o.after.toList, Region.binds .any e = true → L e.on = true)
    {ty : Nat} {lo co : Operand} (ho : o.op = .makeSlice ty lo co) {c : Cx} (hcid : c.id = mid ops n1 i) (hact : act tab gd call (some c) o (t.st i) quad = some (t.v i, t.nx i, t.rd i, t.wr i)) :
    Goes P o a w fun x w' => Next tab gd B ops n1 t m0 s0 w0 (upd L i) (a.put o.dst x) w' := by
  have hlt := (List.getElem?_eq_some_iff.1 hi).1
  have hlook := I.look hB hi hL he
  have hop : ∀ x ∈ o.op.operands.toList, VR m (t.st k).H.length (opnd (t.st i).fr x) (a.eval x) := fun x hx => by rw [← opnd_eq hlook hx]; exact I.rel.opnd x
  rw [ho] at hop
  unfold act at hact
  rw [ho] at hact
  simp only at hact
  split at hact
  · rename_i e zr b sh q k1 i1 k2 i2 ht hl hc
    split at hact
    · rename_i ti hte
      have hl' := hop lo (by simp [Op.operands])
      have hc' := hop co (by simp [Op.operands])
      rw [hl] at hl'
      rw [hc] at hc'
      have hl2 : a.eval lo = .int k1 i1 := hl'
      have hc2 : a.eval co = .int k2 i2 := hc'
      unfold makeV at hact
      cases hb : (decide (0 ≤ i1) && decide (i1 ≤ i2) && decide (i2 ≤ 2 ^ 40) && decide (i2 * ti.bytes ≤ 2 ^ 40) && !ti.zero.isEmpty) with
      | false => rw [hb] at hact; cases hact
      | true =>
        rw [hb, cond_true] at hact
        simp only [quad, Option.some.injEq, Prod.mk.injEq] at hact
        obtain ⟨hvv, _, _, _⟩ := hact
        obtain ⟨xs, hr, x1, x2, x3, x4⟩ := make_run (P := P) (w := w) (k := k1) (k' := k2) hT ht hte hb (fun _ => []) 0
        have u := New.alloc w (.cells xs.toArray e (0, 0))
        have hm : isMake o = true := by simp [isMake, ho]
        have hdead := I.dead i o hi hm
        have hpend := I.pend i o hi hm hL
        have hown : m.own w.heap.size = .none := Classical.byContradiction fun h => by have := I.rel.lt _ h; omega
        have hS := I.rel.pend (id := mid ops n1 i) (by exact hdead) hpend u ⟨w.heap.size, 0, (repC ti.zero i1.toNat).length, xs.length⟩
        have hidlt : mid ops n1 i < (t.st k).H.length := (List.getElem?_eq_some_iff.1 hdead).1
        have hge : n1 ≤ mid ops n1 i := by unfold mid; omega
        rw [← hl2, ← hc2] at hr
        have hne : ∀ {j : Nat} {p : Oper}, ops[j]? = some p → isMake p = true → j ≠ i → (m.more (mid ops n1 i) ⟨w.heap.size, 0, (repC ti.zero i1.toNat).length, xs.length⟩).hp (mid ops n1 j) = m.hp (mid ops n1 j) := fun hj hp hne => by
          simp only [Nm.more]; rw [if_neg (mid_inj hj hi hp hm hne)]
        refine .inl ⟨_, _, _, val_run hr (by simp only [execOp, ho]), .inl rfl, k, _, vs, (fun j => if j = i then w.heap.size else gb j), _, I.fin hB hi hL he (fun h => by simp [kindOf, ho] at h) (fun _ => rfl) hS ?_ (I.vs_keep hi (by simp [isAlloc, ho])) (fun h1 h2 => I.grows h1 (upd_false h2)) ?_
          (by rw [u.size]; have := I.zle; omega) I.dead (fun j p hj hp hl => ?_) (fun j p hj hp hl => ?_) (fun j j' p p' hj hj' hp hp' hl hl' hjj => ?_)⟩
        · rw [← hvv, hcid]
          refine ⟨hidlt, by omega, ⟨w.heap.size, 0, (repC ti.zero i1.toNat).length, xs.length⟩, by simp [Nm.more], i2.toNat, 0, rfl, .inl rfl, ?_, ?_, x3⟩
          · show 0 + i1.toNat * ti.zero.length ≤ (repC ti.zero i1.toNat).length
            rw [repC_len]; omega
          · show 0 + i2.toNat * ti.zero.length ≤ xs.length
            rw [x1]; omega
        · refine ⟨fun m9 w9 hk => ?_, I.trans.len, fun id bb hb hst => ?_, I.trans.ro, I.trans.n0⟩
          · have hk1 := I.trans.kept m9 w9 hk
            exact {
              same := fun g hg h0 => by rw [u.other g (Nat.lt_of_lt_of_le hg hk1.size)]; exact hk1.same g hg h0
              os := by rw [u.os, hk1.os]
              tape := by rw [u.tape, hk1.tape]
              output := by rw [u.output, hk1.output]
              size := by rw [u.size]; have := hk1.size; omega
              own := fun g hg => hk1.own g hg
              nobox := hk1.nobox
              rf := hk1.rf
              hp := fun id hid c hc => by
                have h9 := hk1.hp id hid c hc
                simp only [Nm.more]
                split
                · rename_i e9; rw [e9, hpend] at h9; cases h9
                · exact h9 }
          · obtain ⟨h8, h9⟩ := I.trans.dead id bb hb hst
            refine ⟨h8, ?_⟩
            rw [← h9]
            have := (List.getElem?_eq_some_iff.1 hb).1
            simp only [Nm.more]
            rw [if_neg (by omega)]
        · have hji : j ≠ i := by rintro rfl; rw [upd_same] at hl; cases hl
          rw [upd_ne hji] at hl
          rw [hne hj hp hji]; exact I.pend j p hj hp hl
        · by_cases e1 : j = i
          · subst e1
            rw [hi] at hj
            injection hj with hj
            subst hj
            simp only [if_true]
            exact ⟨⟨ty, lo, co, e, ti, zr, b, sh, q, i1.toNat, xs.length, xs, ho, ht, hte, by rw [← hvv, hcid], by simp [Nm.more], u.at_, by rw [x1, repC_len]; exact Nat.mul_le_mul_right _ x3, Nat.le_refl _, x2⟩, hown, I.zle⟩
          · rw [upd_ne e1] at hl
            have h1 := I.made j p hj hp hl
            simp only [if_neg e1]
            exact h1.keep (hne hj hp e1) ⟨u.other _ h1.lt, h1.own⟩
        · by_cases e1 : j = i
          · subst e1
            have hj'i : j' ≠ j := fun e => hjj e.symm
            rw [upd_ne hj'i] at hl'
            simp only [if_true, if_neg hj'i]
            have := (I.made j' p' hj' hp' hl').lt
            omega
          · by_cases e2 : j' = i
            · subst e2
              rw [upd_ne e1] at hl
              simp only [if_true, if_neg e1]
              have := (I.made j p hj hp hl).lt
              omega
            · rw [upd_ne e1] at hl
              rw [upd_ne e2] at hl'
              simp only [if_neg e1, if_neg e2]
              exact I.apart j j' p p' hj hj' hp hp' hl hl' hjj
    · cases hact
  · cases hact
end
end Go.Ev
end

section
set_option linter.all false
/- Drawing regions: all orders. -/
namespace Go.Ev
variable {P : Program} {tab : Nat → Option TI} {gd : Nat → List C} {B : Nat → Nat} {vs : List Nat} {m m' m1 : Nm} {s s' : St} {a : Act} {w w' w1 : World} {v v' : V} {rd wr : List Root} {n : Nat} {f f' : List V}
variable {call : Nat → List V → List Box → Heap → Option Res} {ops : List Oper} {n1 : Nat} {t : Tr} {L : Nat → Bool} {m0 : Nm} {s0 : St} {w0 : World} {k : Nat} {gb : Nat → Nat}

theorem Inv.locked (hB : Base tab gd call ops n1 t) (I : Inv tab gd B ops n1 t m0 s0 w0 L k f vs gb m a w) {i : Nat} {o : Oper} (hi : ops[i]? = some o) (he : ∀ e ∈ o.after.toList, Region.binds .any e = true → L e.on = true)
    (h1 : (rgOf ops).idx = true) (h2 : ∃ (j : Nat) (p : Oper), ops[j]? = some p ∧ kindOf p = .hrd ∧ upd L i j = false) {H0 : Heap} : (cxOf (rgOf ops) n1 H0 i).lk = true := by
  obtain ⟨j, p, h3, h4, h5⟩ := h2
  have hji : j ≠ i := by rintro rfl; rw [upd_same] at h5; cases h5
  rw [upd_ne hji] at h5
  show ((rgOf ops).idx && !hrdsAhead (rgOf ops) i) = true
  rw [h1, Bool.true_and]
  cases hh : hrdsAhead (rgOf ops) i with
  | false => rfl
  | true =>
    have h6 := zip_all hh h3
    simp only [h4, decide_true, Bool.not_true, Bool.false_or] at h6
    rw [(I.ready hB hi he).1 j h6] at h5
    cases h5

theorem Inv.step (hT : TabOk P tab) (hC : CallOK P gd call) {opsA : Array Oper} (hB : Base tab gd call opsA.toList n1 t) (hn1 : n1 = s0.H.length) (I : Inv tab gd B opsA.toList n1 t m0 s0 w0 L k f vs gb m a w) {i : Nat} {o : Oper} (hi : opsA.toList[i]? = some o) (hL : L i = false)
    (he : ∀ e ∈ o.after.toList, Region.binds .any e = true → L e.on = true) {Q : Exit → Act → World → Prop} : wpOp P opsA Q i (Next tab gd B opsA.toList n1 t m0 s0 w0 (upd L i)) a w := by
  have hok := hB.ok i o hi
  have hlook := I.look hB hi hL he
  have hlt := (List.getElem?_eq_some_iff.1 hi).1
  have hiA : opsA[i]? = some o := by rw [← Array.getElem?_toList]; exact hi
  have hop : ∀ x ∈ o.op.operands.toList, VR m (t.st k).H.length (opnd (t.st i).fr x) (a.eval x) := fun x hx => by rw [← opnd_eq hlook hx]; exact I.rel.opnd x
  unfold wpOp
  simp only [hiA]
  rcases guard_cases (m := m) (n := (t.st k).H.length) (a := a) hok.guard (fun j want y hg hd => by
    have h1 := frame_rel I.rel.fr y
    have h2 := hlook y (look_guard hg hd)
    rw [List.getD_eq_getElem?_getD, ← h2, ← List.getD_eq_getElem?_getD]
    exact h1) with ⟨h1, h2⟩ | ⟨h1, h2⟩
  · rw [if_pos h1]
    left
    rcases hok.act with ⟨_, hact⟩ | ⟨h3, _⟩
    · refine (?_ : Goes P o a w fun x w' => Next tab gd B opsA.toList n1 t m0 s0 w0 (upd L i) (a.put o.dst x) w').wp fun x w' h => h
      have hkn := canon hB hi
      rcases act_class hact with ⟨hk, hkd⟩ | ⟨hk, hkd⟩ | ⟨hk, hkd⟩ | ⟨hk, hkd⟩ | ⟨hk, hkd⟩ | ⟨hk, hkd⟩
      · obtain ⟨⟨x, k1, k2⟩, k3, _, _⟩ := pure_run (P := P) (w := w) (n := (t.st k).H.length) hT hk hop hact
        refine .inl ⟨_, x, w, k1, .inl rfl, I.calm hB hi hL he ?_ ?_ k3 k2⟩
        · cases hm : isMake o with
          | false => rfl
          | true => unfold pureB at hk; unfold isMake at hm; cases ho : o.op <;> rw [ho] at hk hm <;> first | (cases hm; done) | (cases hk; done)
        · cases hm : isAlloc o with
          | false => rfl
          | true => unfold pureB at hk; unfold isAlloc at hm; cases ho : o.op <;> rw [ho] at hk hm <;> first | (cases hm; done) | (cases hk; done)
      · -- what may read elements
        have hne : kindOf o ≠ .eff := by rw [hkd]; simp
        obtain ⟨r1, r2⟩ := I.ready hB hi he
        have hroot : ∀ r ∈ t.rd i, rootBox (t.st k) r = rootBox (t.st i) r := fun r hr => by
          refine root_eq hB I.kle (Nat.le_of_lt hlt) r fun j p hj hp hb => ?_
          have hji : j ≠ i := by rintro rfl; rw [hi] at hj; injection hj with hj; subst hj; exact hne hp
          refine log_free hB hlt (List.getElem?_eq_some_iff.1 hj).1 (Ne.symm hji) ⟨fun hlt' => ?_, fun hlt' => ?_⟩ hr
          · cases hbb : ((befores opsA.toList).getD i 0).testBit j with
            | false => rfl
            | true => have := (I.eff j p hj hp).1 (r1 j hbb); omega
          · cases hbb : ((befores opsA.toList).getD j 0).testBit i with
            | false => rfl
            | true =>
              have := r2 j p hj ((I.eff j p hj hp).2 (by omega)) i hbb
              rw [hL] at this
              cases this
        let c2 : Cx := if (rgOf opsA.toList).idx = true then cxOf (rgOf opsA.toList) n1 (t.st 0).H i else { cxOf (rgOf opsA.toList) n1 (t.st 0).H i with H0 := (t.st k).H }
        have hc2 : (cxOf (rgOf opsA.toList) n1 (t.st 0).H i).idx = true → c2.idx = true ∧ c2.H0 = (cxOf (rgOf opsA.toList) n1 (t.st 0).H i).H0 := fun h => by
          have h' : (rgOf opsA.toList).idx = true := h
          have : c2 = cxOf (rgOf opsA.toList) n1 (t.st 0).H i := if_pos h'
          rw [this]; exact ⟨h, rfl⟩
        have hact2 := act_hrd (s2 := { t.st k with fr := (t.st i).fr }) (c2 := c2) hkd hact rfl (fun r hr => by rw [← hroot r hr]; cases r <;> rfl) hc2
        obtain ⟨r, x, w', m', k1, k2, k3, k4, _, _⟩ := mem_run (P := P) (f := f) (s := { t.st k with fr := (t.st i).fr }) hT (by
          unfold memB at hk ⊢; cases ho : o.op <;> rw [ho] at hk <;> simp at hk ⊢ <;> exact hk) I.rel hop (fun x hx b off hb hv => by
            have hb' : opnd f x = .ptr (.loc b off) := by rw [opnd_eq hlook hx]; exact hb
            exact I.noloc_opnd hB x (by rw [hb']; simp [locsOf]) hv) (fun c hc => by
            injection hc with hc
            subst hc
            show Grows c2.H0 (t.st k).H
            by_cases hidx : (rgOf opsA.toList).idx = true
            · have : c2 = cxOf (rgOf opsA.toList) n1 (t.st 0).H i := if_pos hidx
              rw [this]
              exact I.grows hidx ⟨i, o, hi, hkd, hL⟩
            · have : c2 = { cxOf (rgOf opsA.toList) n1 (t.st 0).H i with H0 := (t.st k).H } := if_neg hidx
              rw [this]
              exact Grows.refl _) hact2
        have hnm : isMake o = false := by
          cases hm : isMake o with
          | false => rfl
          | true => unfold memB at hk; unfold isMake at hm; cases ho : o.op <;> rw [ho] at hk hm <;> first | (cases hm; done) | (cases hk; done)
        have hna : isAlloc o = false := by
          cases hm : isAlloc o with
          | false => rfl
          | true => unfold memB at hk; unfold isAlloc at hm; cases ho : o.op <;> rw [ho] at hk hm <;> first | (cases hm; done) | (cases hk; done)
        obtain ⟨q1, q2, q3⟩ := I.keep (m' := m') (w' := w') hi hnm (fun j p hj hp => (k4.dead _ _ (I.dead j p hj hp) rfl).2) k4.same
        exact .inl ⟨r, x, w', k1, k2, k, _, vs, gb, m', I.fin hB hi hL he (fun h => absurd h hne) (fun _ => rfl) k4.rel k3 (I.vs_keep hi hna) (fun h1 h2 => I.grows h1 (upd_false h2)) (I.trans.trans k4.trans) (Nat.le_trans I.zle k4.size) I.dead q1 q2 q3⟩
      · -- effects on memory
        have hki := I.mem_i hB hi hL he hkd
        have hH : (t.st k).H = (t.st i).H := by have := congrArg St.H hki; exact this
        have hrel := I.rel
        rw [hki] at hrel
        rw [act_eff (t.st i).H hkd] at hact
        obtain ⟨r, x, w', m', k1, k2, k3, k4, k5, _⟩ := mem_run (P := P) (f := f) (s := t.st i) hT (by
          unfold memB at hk ⊢; cases ho : o.op <;> rw [ho] at hk <;> simp at hk ⊢ <;> exact hk) hrel (by rw [← hH]; exact hop) (fun x hx b off hb hv => by
            have hb' : opnd f x = .ptr (.loc b off) := by rw [opnd_eq hlook hx]; exact hb
            exact I.noloc_opnd hB x (by rw [hb']; simp [locsOf]) hv) (fun c hc => by injection hc with hc; subst hc; exact Grows.refl _) hact
        exact .inl ⟨r, x, w', k1, k2, I.effect hB hi hL he hkd k4 k3 (fun h1 h2 => k5 (I.locked hB hi he h1 h2))⟩
      · -- calls
        have hki := I.mem_i hB hi hL he hkd
        have hH : (t.st k).H = (t.st i).H := by have := congrArg St.H hki; exact this
        have hrel := I.rel
        rw [hki] at hrel
        refine (callop_run (P := P) (f := f) (s := t.st i) hC hk hrel (by rw [← hH]; exact hop) (fun x hx b hb hv => ?_) hact).mono fun x w' hE => ?_
        · have hx' := opnd_eq hlook hx
          refine I.noloc_opnd hB x ?_ hv
          rw [hx']
          rcases hb with ⟨off, hb⟩ | hb
          · rw [hb]; simp [locsOf]
          · cases ho : opnd (t.st i).fr x <;> rw [ho] at hb <;> first | (simp [capsOf] at hb; done) | exact hb
        · obtain ⟨m', k3, k4, k5, _⟩ := hE
          exact I.effect hB hi hL he hkd k4 k3 (fun h1 h2 => k5 (I.locked hB hi he h1 h2))
      · unfold isAlloc at hk
        cases ho : o.op <;> rw [ho] at hk <;> first | (cases hk; done) | skip
        exact I.alloc hT hB hi hL he ho hact
      · unfold isMake at hk
        cases ho : o.op <;> rw [ho] at hk <;> first | (cases hk; done) | skip
        exact I.make hT hB hn1 hi hL he ho rfl hact
    · rw [h3] at h2; cases h2
  · rw [if_neg (by rw [h1]; simp)]
    rcases hok.act with ⟨h3, _⟩ | ⟨_, h4, h5, _⟩
    · rw [h3] at h2; cases h2
    · have hgu : o.guard ≠ none := by
        intro h
        unfold Region.wanted at h1
        rw [h] at h1
        cases h1
      refine I.calm hB hi hL he ?_ ?_ h5 (by rw [h4]; exact undef_rel)
      · cases hm : isMake o with
        | false => rfl
        | true =>
          unfold isMake at hm
          cases ho : o.op <;> rw [ho] at hm <;> first | (cases hm; done) | exact absurd (hB.form.made i o hi (.inr ⟨_, _, _, ho⟩)).1 hgu
      · cases hm : isAlloc o with
        | false => rfl
        | true =>
          unfold isAlloc at hm
          cases ho : o.op <;> rw [ho] at hm <;> first | (cases hm; done) | exact absurd (hB.form.made i o hi (.inl ⟨_, ho⟩)).1 hgu
end Go.Ev
end

section
set_option linter.all false
/- Drawing regions: from their start to their end. -/
namespace Go.Ev
variable {P : Program} {tab : Nat → Option TI} {gd : Nat → List C} {B : Nat → Nat} {vs : List Nat} {m m' m1 : Nm} {s s' : St} {a : Act} {w w' w1 : World} {v v' : V} {rd wr : List Root} {n : Nat} {f f' : List V}
variable {call : Nat → List V → List Box → Heap → Option Res} {ops : List Oper} {n1 : Nat} {t : Tr} {L : Nat → Bool} {m0 : Nm} {s0 : St} {w0 : World} {k : Nat} {gb : Nat → Nat}

/-- How many are left. -/
def unl (L : Nat → Bool) : Nat → Nat
  | 0 => 0
  | n + 1 => unl L n + if L n then 0 else 1
theorem unl_congr {L M : Nat → Bool} : ∀ n, (∀ j, j < n → L j = M j) → unl L n = unl M n
  | 0, _ => rfl
  | n + 1, h => by simp only [unl]; rw [unl_congr n fun j hj => h j (by omega), h n (by omega)]
theorem unl_upd {i : Nat} : ∀ n, i < n → L i = false → unl (upd L i) n + 1 = unl L n
  | 0, h, _ => by omega
  | n + 1, h, hL => by
    simp only [unl]
    by_cases e : i = n
    · subst e
      rw [unl_congr (M := L) i fun j hj => upd_ne (by omega), upd_same, hL]
      simp
    · have := unl_upd n (by omega) hL
      rw [upd_ne (fun h => e h.symm)]
      omega
theorem unl_zero : ∀ n, unl L n = 0 → ∀ j, j < n → L j = true
  | 0, _, j, hj => by omega
  | n + 1, h, j, hj => by
    simp only [unl] at h
    by_cases e : j = n
    · subst e
      cases hl : L j with
      | true => rfl
      | false => rw [hl] at h; simp at h
    · exact unl_zero n (by omega) j (by omega)

theorem any_run (hT : TabOk P tab) (hC : CallOK P gd call) {opsA : Array Oper} (hB : Base tab gd call opsA.toList n1 t) (hn1 : n1 = s0.H.length) {Q : Exit → Act → World → Prop}
    (hend : ∀ (L : Nat → Bool) a w, (∀ j, j < opsA.size → L j = true) → Next tab gd B opsA.toList n1 t m0 s0 w0 L a w → Q .normal a w) :
    ∀ (fuel : Nat) (listed : Array Bool) (L : Nat → Bool) (a : Act) (w : World), listed.size = opsA.size → (∀ j, listed.getD j false = L j) → unl L opsA.size ≤ fuel → Next tab gd B opsA.toList n1 t m0 s0 w0 L a w → wpAny P .any opsA Q fuel listed a w := by
  intro fuel
  have all_of_none : ∀ (listed : Array Bool) (L : Nat → Bool), listed.size = opsA.size → (∀ j, listed.getD j false = L j) → Region.ready .any opsA listed = [] → ∀ j, j < opsA.size → L j = true := by
    intro listed L hsz hL hr j
    induction j using Nat.strongRecOn with
    | _ j ih =>
      intro hj
      cases hl : L j with
      | true => rfl
      | false =>
        have hjA := Array.getElem?_eq_getElem hj
        have hjl : opsA.toList[j]? = some opsA[j] := by rw [Array.getElem?_toList]; exact hjA
        have hmem : j ∈ Region.ready .any opsA listed := by
          rw [mem_ready]
          refine ⟨?_, opsA[j], hjA, fun e he hb => ?_⟩
          · have h1 := hL j
            rw [hl] at h1
            rw [Array.getD_eq_getD_getElem?] at h1 ⊢
            have hjs : j < listed.size := by omega
            rw [Array.getElem?_eq_getElem hjs] at h1 ⊢
            exact h1
          · have hlt := hB.form.back j _ hjl e (by simpa using he) hb
            rw [hL e.on]
            exact ih e.on hlt (by omega)
        rw [hr] at hmem
        cases hmem
  induction fuel with
  | zero =>
    intro listed L a w hsz hL hu hN
    have hall := unl_zero (L := L) opsA.size (by omega)
    refine ⟨?_, hend L a w hall hN⟩
    cases hr : Region.ready .any opsA listed with
    | nil => rfl
    | cons i rest =>
      have hm : i ∈ Region.ready .any opsA listed := by rw [hr]; simp
      rw [mem_ready] at hm
      obtain ⟨h0, o, ho, _⟩ := hm
      have hi : i < opsA.size := (Array.getElem?_eq_some_iff.1 ho).1
      have h1 := hL i
      rw [hall i hi] at h1
      rw [Array.getD_eq_getD_getElem?] at h0 h1
      rw [Array.getElem?_eq_getElem (by omega), Option.getD_some] at h0 h1
      rw [h0] at h1
      cases h1
  | succ fuel ih =>
    intro listed L a w hsz hL hu hN
    refine ⟨fun hr => hend L a w (all_of_none listed L hsz hL hr) hN, fun i hm => ?_⟩
    rw [mem_ready] at hm
    obtain ⟨h0, o, ho, he⟩ := hm
    have hi : i < opsA.size := (Array.getElem?_eq_some_iff.1 ho).1
    have hLi : L i = false := by
      rw [← hL i]
      rw [Array.getD_eq_getD_getElem?] at h0 ⊢
      rw [Array.getElem?_eq_getElem (by omega)] at h0 ⊢
      exact h0
    obtain ⟨k, f, vs, gb, m, I⟩ := hN
    refine wpOp_mono (fun a' w' hN' => ih _ (upd L i) a' w' (by simpa using hsz) (fun j => ?_) ?_ hN') (I.step hT hC hB hn1 (by rw [Array.getElem?_toList]; exact ho) hLi (fun e hem hb => by rw [← hL]; exact he e (by simpa using hem) hb))
    · by_cases e : j = i
      · subst e
        rw [upd_same]
        simp [hsz, hi]
      · rw [upd_ne e, ← hL j]
        exact getD_set_ne false (Ne.symm e)
    · have := unl_upd (L := L) opsA.size hi hLi
      omega

/-! The boxes that are laid at a region's start. -/
theorem newBox_locs {d e b : Nat} {cs : List C} (h : ∀ (y : Nat) (u : V), s.fr[y]? = some u → b ∉ locsOf u) (y : Nat) (u : V) (hu : (newBox s d e cs).fr[y]? = some u) : b ∉ locsOf u := by
  simp only [newBox, List.getElem?_map] at hu
  cases hy : s.fr[y]? with
  | none => rw [hy] at hu; cases hu
  | some z =>
    rw [hy] at hu
    simp only [Option.map_some, Option.some.injEq] at hu
    subst hu
    have := h y z hy
    cases z with
    | ptr p => cases p with
      | loc c o => simp only [killV]; split; simp [und, locsOf]; exact this
      | _ => exact this
    | clo g caps => simp only [killV]; split; simp [und, locsOf]; exact this
    | _ => exact this
theorem newBox_kill {d e : Nat} {cs : List C} (y : Nat) (u : V) (hu : (newBox s d e cs).fr[y]? = some u) : d ∉ locsOf u := by
  simp only [newBox, List.getElem?_map] at hu
  cases hy : s.fr[y]? with
  | none => rw [hy] at hu; cases hu
  | some z =>
    rw [hy] at hu
    simp only [Option.map_some, Option.some.injEq] at hu
    subst hu
    cases z with
    | ptr p => cases p with
      | loc c o =>
        simp only [killV]
        split
        · simp [und, locsOf]
        · rename_i hne; simp [locsOf]; exact fun h => hne h.symm
      | _ => simp [killV, locsOf]
    | clo g caps =>
      simp only [killV]
      split
      · simp [und, locsOf]
      · rename_i hne; simpa [locsOf] using hne
    | _ => simp [killV, locsOf]

theorem lay_run : ∀ (as : List (Nat × Nat)) (s sL : St) (vs : List Nat), layAllocs tab as s some = some sL → SRel gd B vs m s a w →
    ∃ vs', SRel gd B vs' m sL a w ∧ (∀ b, b ∈ vs' ↔ b ∈ vs ∨ b ∈ as.map (·.1)) ∧ sL.H = s.H ∧ sL.n0 = s.n0 ∧ sL.R = s.R ∧
      (∀ d ∈ as.map (·.1), ∃ e ti, (d, e) ∈ as ∧ tab e = some ti ∧ ∀ x, sL.L[d]? = some x → x = some (e, ti.zero)) ∧ (∀ d, d ∉ as.map (·.1) → sL.L[d]? = s.L[d]?) ∧
      (∀ d ∈ as.map (·.1), ∀ (y : Nat) (u : V), sL.fr[y]? = some u → d ∉ locsOf u) ∧ (∀ d, (∀ (y : Nat) (u : V), s.fr[y]? = some u → d ∉ locsOf u) → ∀ (y : Nat) (u : V), sL.fr[y]? = some u → d ∉ locsOf u)
  | [], s, sL, vs, h, hS => by
    simp only [layAllocs, Option.some.injEq] at h
    subst h
    exact ⟨vs, hS, by simp, rfl, rfl, rfl, by simp, fun _ _ => rfl, by simp, fun _ h => h⟩
  | (d0, e0) :: as, s, sL, vs, h, hS => by
    simp only [layAllocs] at h
    cases ht : tab e0 with
    | none => rw [ht] at h; cases h
    | some ti =>
      rw [ht] at h
      simp only at h
      obtain ⟨vs', h1, h2, h3, h4, h5, h6, h7, h8, h9⟩ := lay_run as _ sL (d0 :: vs) h (hS.layBox d0 e0 ti.zero)
      refine ⟨vs', h1, fun b => ?_, h3, h4, h5, fun d hd => ?_, fun d hd => ?_, fun d hd => ?_, fun d hd => h9 d fun y u hu => newBox_locs hd y u hu⟩
      · rw [h2 b]; simp [or_assoc, or_left_comm, or_comm]
      · by_cases hm : d ∈ as.map (·.1)
        · obtain ⟨e, ti', q1, q2, q3⟩ := h6 d hm
          exact ⟨e, ti', by simp [q1], q2, q3⟩
        · have hdd : d = d0 := by simpa [hm] using hd
          subst hdd
          refine ⟨e0, ti, by simp, ht, fun x hx => ?_⟩
          rw [h7 d hm] at hx
          simp only [newBox, List.getElem?_set, if_true] at hx
          split at hx
          · injection hx with hx; exact hx.symm
          · cases hx
      · simp only [List.map_cons, List.mem_cons, not_or] at hd
        rw [h7 d hd.2]
        simp only [newBox, List.getElem?_set]
        rw [if_neg (Ne.symm hd.1)]
      · by_cases hm : d ∈ as.map (·.1)
        · exact h8 d hm
        · have hdd : d = d0 := by simpa [hm] using hd
          subst hdd
          exact h9 d fun y u hu => newBox_kill y u hu

theorem alloc_mem {d e : Nat} : (d, e) ∈ allocsOf ops ↔ ∃ (j : Nat) (o : Oper), ops[j]? = some o ∧ o.op = .alloc e ∧ o.dst = some d := by
  unfold allocsOf
  rw [List.mem_filterMap]
  constructor
  · rintro ⟨o, ho, h⟩
    obtain ⟨j, hj⟩ := List.getElem?_of_mem ho
    split at h
    · rename_i e' d' h1 h2
      simp only [Option.some.injEq, Prod.mk.injEq] at h
      obtain ⟨rfl, rfl⟩ := h
      exact ⟨j, o, hj, h1, h2⟩
    · cases h
  · rintro ⟨j, o, hj, h1, h2⟩
    exact ⟨o, List.mem_of_getElem? hj, by rw [h1, h2]⟩

theorem alloc_mem1 {d : Nat} : d ∈ (allocsOf ops).map (·.1) ↔ ∃ (j : Nat) (o : Oper) (e : Nat), ops[j]? = some o ∧ o.op = .alloc e ∧ o.dst = some d := by
  rw [List.mem_map]
  constructor
  · rintro ⟨⟨d', e⟩, h, rfl⟩
    obtain ⟨j, o, h1, h2, h3⟩ := alloc_mem.1 h
    exact ⟨j, o, e, h1, h2, h3⟩
  · rintro ⟨j, o, e, h1, h2, h3⟩
    exact ⟨(d, e), alloc_mem.2 ⟨j, o, h1, h2, h3⟩, rfl⟩

/-! The made slices. -/
theorem make_op {o : Oper} (h : isMake o = true) : ∃ ty x y, o.op = .makeSlice ty x y := by
  obtain ⟨dst, op, _, _, _, _⟩ := o
  cases op <;> first | (cases h; done) | exact ⟨_, _, _, rfl⟩
theorem makes_not {o : Oper} {l : List Oper} (h : isMake o = false) : makesOf (o :: l) = makesOf l := by
  obtain ⟨dst, op, _, _, _, _⟩ := o
  cases op <;> first | (cases h; done) | rfl
theorem makes_cons {o : Oper} {l : List Oper} {ty d : Nat} {x y : Operand} (ho : o.op = .makeSlice ty x y) (hd : o.dst = some d) : makesOf (o :: l) = (d, ty) :: makesOf l := by
  obtain ⟨dst, op, _, _, _, _⟩ := o
  simp only at ho hd
  subst ho hd
  rfl
theorem makes_len (F : Form ops) : ∀ (l : List Oper), (∀ o ∈ l, o ∈ ops) → (makesOf l).length = (l.filter isMake).length
  | [], _ => rfl
  | o :: l, h => by
    have ih := makes_len F l fun p hp => h p (by simp [hp])
    rw [List.filter_cons]
    cases hm : isMake o with
    | false => rw [makes_not hm]; simpa using ih
    | true =>
      obtain ⟨i, hi⟩ := List.getElem?_of_mem (h o (by simp))
      obtain ⟨ty, x, y, ho⟩ := make_op hm
      obtain ⟨_, d, hd⟩ := F.made i o hi (.inr ⟨_, _, _, ho⟩)
      rw [makes_cons ho hd]
      simpa using ih

theorem ahead_lt (F : Form ops) {j : Nat} {o : Oper} (hj : ops[j]? = some o) (hm : isMake o = true) : makesAhead (rgOf ops) j < (makesOf ops).length := by
  rw [makes_len F ops fun _ h => h]
  unfold makesAhead rgOf
  simp only
  have hlt := (List.getElem?_eq_some_iff.1 hj).1
  have h1 : ops = ops.take j ++ o :: ops.drop (j + 1) := by
    rw [← (List.getElem?_eq_some_iff.1 hj).2, ← List.drop_eq_getElem_cons hlt, List.take_append_drop]
  conv => rhs; rw [h1]
  rw [List.filter_append, List.length_append, List.filter_cons, hm]
  simp

theorem ahead_succ {j : Nat} {o : Oper} (hj : ops[j]? = some o) : makesAhead (rgOf ops) (j + 1) = makesAhead (rgOf ops) j + if isMake o then 1 else 0 := by
  unfold makesAhead rgOf
  simp only
  rw [List.take_succ, hj]
  simp only [Option.toList_some, List.filter_append, List.length_append]
  cases h : isMake o <;> simp [h]

/-- The state when made blocks come in. -/
structure Fil (tab : Nat → Option TI) (gd : Nat → List C) (B : Nat → Nat) (ops : List Oper) (n1 : Nat) (t : Tr) (m0 : Nm) (s0 : St) (w0 : World) (gb : Nat → Nat) (S : St) (a : Act) (w : World) (j : Nat) (m : Nm) (H : Heap) : Prop where
  rel : SRel gd B [] m { S with H := H } a w
  trans : Trans m0 s0 w0 { S with H := H } m w
  dead : ∀ (i : Nat) (o : Oper), ops[i]? = some o → isMake o = true → j ≤ i → H[mid ops n1 i]? = some .dead
  made : ∀ (i : Nat) (o : Oper), ops[i]? = some o → isMake o = true → j ≤ i → MadeAt tab w0.heap.size m w (mid ops n1 i) (gb i) o (t.v i)

theorem fillM_run (F : Form ops) (hn1 : n1 = s0.H.length) (hglob : ∀ g, gd g ≠ [] → g < w0.heap.size) (hro : ∀ (id : Nat) (cs : List C), s0.H[id]? = some (.mem 0 cs) → ∀ c ∈ m0.hp id, c.g < w0.heap.size)
    (hap : ∀ (j j' : Nat) (o o' : Oper), ops[j]? = some o → ops[j']? = some o' → isMake o = true → isMake o' = true → j ≠ j' → gb j ≠ gb j') {S : St}
    (hfr : ∀ (i : Nat) (o : Oper) (d : Nat), ops[i]? = some o → isMake o = true → o.dst = some d → S.fr.getD d und = t.v i ∨ S.fr.getD d und = und) :
    ∀ (c j : Nat) (m : Nm) (H H2 : Heap), ops.length - j = c → fillMade tab S.fr (n1 + makesAhead (rgOf ops) j) (makesOf (ops.drop j)) H = some H2 → Fil tab gd B ops n1 t m0 s0 w0 gb S a w j m H →
      ∃ m2, SRel gd B [] m2 { S with H := H2 } a w ∧ Trans m0 s0 w0 { S with H := H2 } m2 w
  | 0, j, m, H, H2, hc, h, hF => by
    rw [List.drop_eq_nil_of_le (by omega)] at h
    simp only [makesOf, List.filterMap_nil, fillMade, Option.some.injEq] at h
    subst h
    exact ⟨m, hF.rel, hF.trans⟩
  | c + 1, j, m, H, H2, hc, h, hF => by
    have hlt : j < ops.length := by omega
    have hj := List.getElem?_eq_getElem hlt
    rw [List.drop_eq_getElem_cons hlt] at h
    have hs := ahead_succ hj
    cases hm : isMake ops[j] with
    | false =>
      rw [makes_not hm] at h
      rw [hm] at hs
      simp only [Bool.false_eq_true, if_false, Nat.add_zero] at hs
      rw [← hs] at h
      exact fillM_run F hn1 hglob hro hap hfr c (j + 1) m H H2 (by omega) h ⟨hF.rel, hF.trans, fun i o hi hio hle => hF.dead i o hi hio (by omega), fun i o hi hio hle => hF.made i o hi hio (by omega)⟩
    | true =>
      rw [hm] at hs
      simp only [if_true] at hs
      have hM := hF.made j _ hj hm (Nat.le_refl _)
      have hdead := hF.dead j _ hj hm (Nat.le_refl _)
      obtain ⟨ty, x, y, e, ti, zr, b, sh, q, n, tot, xs, ho, ht, hte, hv, hp, hw, hl1, hl2, hcs⟩ := hM.ex
      obtain ⟨_, d, hd⟩ := F.made j _ hj (.inr ⟨_, _, _, ho⟩)
      rw [makes_cons ho hd] at h
      have hmid : n1 + makesAhead (rgOf ops) j = mid ops n1 j := rfl
      simp only [fillMade, ht] at h
      rcases hfr j _ d hj hm hd with hfd | hfd
      · rw [hfd, hv] at h
        simp only [hte] at h
        rw [show n1 + makesAhead (rgOf ops) j + 1 = n1 + makesAhead (rgOf ops) (j + 1) from by omega, hmid] at h
        have hgl : gd (gb j) = [] := Classical.byContradiction fun hne => by have := hglob _ hne; have := hM.ge; omega
        have hror : ∀ (k : Nat) (ds : List C), H[k]? = some (.mem 0 ds) → ∀ c ∈ m.hp k, c.g ≠ gb j := fun k ds hk c hcm => by
          have h1 := hF.trans.ro k ds hk
          have h2 := (hF.trans.dead k _ h1 rfl).2
          rw [h2] at hcm
          have := hro k ds h1 c hcm
          have := hM.ge
          omega
        have hA := hF.rel.adopt (id := mid ops n1 j) (g := gb j) (cs := repC ti.zero n) hdead hp hM.own hw hl1 hl2 (fun hp n => hcs.mono fun _ _ h => h.mono (Nat.zero_le _) (fun _ h => absurd h (by omega))) hror hgl
        have hhp : (m.heap (mid ops n1 j) (gb j) (m.hp (mid ops n1 j))).hp = m.hp := by
          funext k; simp only [Nm.heap]; split
          · rename_i e; rw [e]
          · rfl
        have hge : n1 ≤ mid ops n1 j := by unfold mid; omega
        refine fillM_run F hn1 hglob hro hap hfr c (j + 1) _ _ H2 (by omega) h ⟨hA, ⟨fun m9 w9 hk => ?_, ?_, fun id bb hb hst => ?_, fun id ds hi => hF.trans.ro id ds (ro_set (by simp) id ds hi), hF.trans.n0⟩, fun i o hi hio hle => ?_, fun i o hi hio hle => ?_⟩
        · have hk1 := hF.trans.kept m9 w9 hk
          exact {
            same := hk1.same
            os := hk1.os
            tape := hk1.tape
            output := hk1.output
            size := hk1.size
            own := fun g hg => by
              simp only [Nm.heap]
              rw [if_neg (by have := hk.size; have := hM.ge; omega)]
              exact hk1.own g hg
            nobox := hk1.nobox
            rf := hk1.rf
            hp := fun id hid c hc => by rw [hhp]; exact hk1.hp id hid c hc }
        · have := hF.trans.len
          simpa using this
        · obtain ⟨q1, q2⟩ := hF.trans.dead id bb hb hst
          have := (List.getElem?_eq_some_iff.1 hb).1
          refine ⟨?_, by rw [hhp]; exact q2⟩
          show (H.set _ _)[id]? = _
          rw [set_get (by omega)]
          exact q1
        · have hne := mid_inj (n1 := n1) hi hj hio hm (by omega)
          rw [set_get hne]
          exact hF.dead i o hi hio (by omega)
        · have h1 := hF.made i o hi hio (by omega)
          refine h1.keep (by rw [hhp]) ⟨rfl, ?_⟩
          simp only [Nm.heap]
          rw [if_neg (hap i j o _ hi hj hio hm (by omega))]
          exact h1.own
      · rw [hfd] at h
        cases h
end Go.Ev
end
