/- The abstract machine, tenth text: one operation that enters no Go function. -/
import Derived.Test.YtlfobfhklmndkaaGreatDoorA8
import Derived.Laws.IdiomStrings
import Derived.Laws.BytesString
namespace Go.AM
open Go.RowKit Go.MapKept

variable {B0 : Nat} {w0 w : World} {E : Env} {S S' : AS} {P : Program}

theorem flat_one : ∀ (rows : List (List AV)), (rows.all fun r => r.all AV.one) = true → rows.flatten.all AV.one = true
  | [], _ => rfl
  | r :: rows, h => by
    simp only [List.all_cons, Bool.and_eq_true] at h
    simp only [List.flatten_cons, List.all_append, Bool.and_eq_true]
    exact ⟨h.1, flat_one rows h.2⟩

/-- What stands behind the elements of a slice. -/
theorem rowsOf_sound (h : SR B0 w0 E S w) {sz : Nat} (_hz : 0 < sz) {x : AV} {y : Value} {rows : List (List AV)} (hv : VR E w x y) (hr : rowsOf S sz x = some rows) :
    (rows = [] ∧ ∃ a : Option Addr, y = .slice a 0 0) ∨ ∃ g b c, y = .slice (some ⟨g, b, none⟩) rows.length c ∧ rows.length ≤ c ∧ Stand E w rows.flatten g b ∧ (∀ r ∈ rows, r.length = sz) ∧ rows.flatten.all AV.one = true := by
  unfold rowsOf at hr
  split at hr
  · cases hr; obtain ⟨_, rfl⟩ := hv.flat_inv; exact .inl ⟨rfl, _, rfl⟩
  · rename_i c rows'
    split at hr
    · rename_i hc
      cases hr
      rcases hv.lst_inv with ⟨rfl, a, rfl, _⟩ | ⟨g, b, cap, sz', rfl, k1, k2, k3, k4, k5, _⟩
      · exact .inl ⟨rfl, a, rfl⟩
      refine .inr ⟨g, b, cap, rfl, k1, k5.stand, fun r hr => ?_, flat_one rows ?_⟩
      · have := List.all_eq_true.1 hc r hr; simp at this; exact this.1
      · refine List.all_eq_true.2 fun r hr => ?_
        have := List.all_eq_true.1 hc r hr; simp only [Bool.and_eq_true] at this; exact this.2
    · cases hr
  · rename_i o sz' off len cap
    split at hr
    · rename_i hsz
      subst hsz
      obtain ⟨p, hp, hr1⟩ := Option.bind_eq_some_iff.1 hr
      split at hr1
      · rename_i hc
        cases hr1
        obtain ⟨g, c, hj, rfl, k1, k2, k3, k4, k5⟩ := hv.slc_inv
        have hst := (h.obj o _ g (cellsAt_some hp) hj).stand.drop off (len * sz')
        rw [Nat.zero_add] at hst
        refine .inr ⟨g, off, c, by rw [chunks_length], by rw [chunks_length]; omega, ?_, chunks_mem _ _ _ hc.1, ?_⟩
        · rw [chunks_flatten _ _ _ hc.1]; exact hst
        · rw [chunks_flatten _ _ _ hc.1]; exact hc.2
      · cases hr1
    · cases hr
  · cases hr

theorem u8s_pair : ∀ {rows : List (List AV)} {ns : List Int} {ys : List Value}, u8s rows = some ns → Pair (VR E w) rows.flatten ys → ys = ns.map (Value.int .u8) ∧ ns.length = rows.length
  | [], ns, ys, h, hp => by
    simp only [u8s] at h; cases h
    have := hp.1
    simp at this
    exact ⟨List.length_eq_zero_iff.1 this.symm, rfl⟩
  | r :: rows, ns, ys, h, hp => by
    unfold u8s at h
    split at h
    · rename_i heq; cases heq
    · rename_i n l heq
      cases heq
      split at h
      · rename_i ns1 h1
        cases h
        simp only [List.flatten_cons, List.singleton_append] at hp
        cases ys with
        | nil => have := hp.1; simp at this
        | cons y ys =>
          have h0 := hp.2 0 _ y rfl rfl
          obtain ⟨_, rfl⟩ := h0.flat_inv
          have hp' : Pair (VR E w) rows.flatten ys := ⟨by have := hp.1; simpa using this, fun i a b ha hb => hp.2 (i + 1) a b (by simpa using ha) (by simpa using hb)⟩
          obtain ⟨e1, e2⟩ := u8s_pair h1 hp'
          exact ⟨by rw [e1]; rfl, by simp [e2]⟩
      · cases h
    · cases h

theorem astr_sound (h : SR B0 w0 E S w) {src dst : TypeId} {x y : AV} {x' : Value} (hv : VR E w x x') (hy : astr P S src dst x = some y) : ∃ z, (convert src dst x').run P w = .ok z w ∧ VR E w y z := by
  unfold astr at hy
  split at hy
  · rename_i e hs hd
    split at hy
    · rename_i he
      obtain ⟨rows, hr, hy1⟩ := Option.bind_eq_some_iff.1 hy
      obtain ⟨ns, hn, rfl⟩ := Option.map_eq_some_iff.1 hy1
      rcases rowsOf_sound h (by omega) hv hr with ⟨rfl, ad, rfl⟩ | ⟨g, b, c, rfl, hle, hst, hl, hone⟩
      · simp only [u8s] at hn; cases hn
        cases ad with
        | none => exact ⟨_, by rw [run_convert_bytes_string w src dst e _ _ _ hs he hd]; simp [Conv.bytesToString], VR.of_flat rfl⟩
        | some a1 => exact ⟨_, by rw [run_convert_bytes_string w src dst e _ _ _ hs he hd]; simp [Conv.bytesToString, loadCells, loadCellsFrom], VR.of_flat rfl⟩
      · obtain ⟨ys, hp, hc⟩ := hst.list
        obtain ⟨e1, e2⟩ := u8s_pair hn hp
        have hlc := run_loadCells_list (P := P) (w := w) ⟨g, b, none⟩ ys (fun j v hv => by rw [addr_add]; exact hc j v hv)
        have hlen : ys.length = rows.length := by rw [e1, List.length_map, e2]
        rw [hlen, e1] at hlc
        exact ⟨_, by rw [run_convert_bytes_string w src dst e _ _ _ hs he hd]; exact run_bytesToString w _ _ _ ns (by simpa using hlc), VR.of_flat rfl⟩
    · cases hy
  · cases hy

theorem rep_pair (zv : Value) (n sz : Nat) (hf : zv.cells.toList.all flat = true) (hs : zv.cells.size = sz) : Pair (VR E w) (List.replicate n (zv.cells.toList.map AV.v)).flatten (madeCells zv.cells (n * sz)).toList := by
  have := zeros_pair (E := E) (w := w) zv n sz hf hs
  refine ⟨by simp [hs, size_madeCells], fun i x y hx hy => ?_⟩
  refine this.2 i x y hx ?_
  simpa [madeCells] using hy

theorem makeSlice_sound (h : SR B0 w0 E S w) {mu : Bool} {t : TypeId} {l c x : AV} {l' c' : Value} (hl : VR E w l l') (hc : VR E w c c') (hx : amakeSlice P mu S t l c = some (x, S')) :
    ∃ y w' E', (Instr.makeSlice t l' c').run P w = .ok y w' ∧ SR B0 w0 E' S' w' ∧ Step S.objs.length S.ends.length E w E' w' ∧ VR E' w' x y := by
  unfold amakeSlice at hx
  obtain ⟨p, hp, hx1⟩ := Option.bind_eq_some_iff.1 hx; clear hx
  obtain ⟨z, hz, hx2⟩ := Option.bind_eq_some_iff.1 hx1; clear hx1
  obtain ⟨i, hi, hx3⟩ := Option.bind_eq_some_iff.1 hx2; clear hx2
  obtain ⟨ln, hln, hx4⟩ := Option.bind_eq_some_iff.1 hx3; clear hx3
  obtain ⟨cn, hcn, hx5⟩ := Option.bind_eq_some_iff.1 hx4; clear hx4
  obtain ⟨hu, hs, hpos⟩ := isRow_some hp
  obtain ⟨i', zv, hi', hzv, hf, rfl⟩ := azero_some hz
  rw [hi] at hi'; cases hi'
  obtain ⟨kl, rfl⟩ := aintOf_some hln hl
  obtain ⟨kc, rfl⟩ := aintOf_some hcn hc
  split at hx5
  · rename_i hcc
    obtain ⟨hzl, h0, h1, h2, h3⟩ := hcc
    have hzs : zv.cells.size = p.2 := by simpa using hzl
    have his : i.size = p.2 := by obtain ⟨i2, hi2, hs2⟩ := szOf_some hs; rw [hi] at hi2; cases hi2; exact hs2
    have hrun := run_make (P := P) w t p.1 i zv hu hi hzv kl kc ln cn h0 h1 (by omega) (by omega)
    rw [his] at hrun
    have hpair := rep_pair (E := E) (w := w) zv cn.toNat p.2 hf hzs
    have hml : cn.toNat ≤ maxLen := by unfold maxLen; omega
    split at hx5
    · cases hx5
      obtain ⟨E', k1, k2, k3, k4⟩ := h.newCells (madeCells zv.cells (cn.toNat * p.2)) p.1 _ (by rw [hpair.1]; simp) (fun i x y hx hy => hpair.2 i x y hx (by simpa using hy))
      refine ⟨_, _, E', hrun, k1, k2, 1, _, cn.toNat, k3, rfl, by omega, Nat.le_refl _, hml, hpos, by rw [k4, size_madeCells]; omega⟩
    · split at hx5
      · rename_i elc
        cases hx5
        subst elc
        obtain ⟨k1, k2, k3⟩ := h.newRow (madeCells zv.cells (ln.toNat * p.2)) p.1 (madeCells zv.cells (ln.toNat * p.2)).size (Nat.le_refl _) _ (by rw [hpair.1]; simp) (fun i x y hx hy => hpair.2 i x y hx (by simpa using hy))
        refine ⟨_, _, _, hrun, k1, k2, ?_⟩
        have := VR.lst (c := .exact) (cap := ln.toNat) (sz := p.2) (rows := List.replicate ln.toNat (zv.cells.toList.map AV.v)) (by simp) hml hpos (by intro r hr; simp at hr; rw [hr.2]; simpa using hzs) k3 (by simp [LstCap])
        simpa using this
      · cases hx5
  · cases hx5

theorem index_sound {t : TypeId} {a i x : AV} {a' i' : Value} (ha : VR E w a a') (hi : VR E w i i') (hx : aindex P t a i = some x) : ∃ y, (Instr.index t a' i').run P w = .ok y w ∧ VR E w x y := by
  unfold aindex at hx
  obtain ⟨n, hn, hx1⟩ := Option.bind_eq_some_iff.1 hx; clear hx
  obtain ⟨k, rfl⟩ := aintOf_some hn hi
  split at hx1
  · rename_i s hu
    split at hx1
    · rename_i h0
      obtain ⟨b, hb, rfl⟩ := Option.map_eq_some_iff.1 hx1
      obtain ⟨_, rfl⟩ := ha.flat_inv
      exact ⟨_, by simp [Instr.index, asIntOf, run_underlying hu, h0, hb], VR.of_flat rfl⟩
    · cases hx1
  · rename_i len e l hu
    split at hx1
    · rename_i hc
      obtain ⟨sz, hs, hx2⟩ := Option.bind_eq_some_iff.1 hx1
      obtain ⟨ys, rfl, hp⟩ := ha.agg_inv
      obtain ⟨y, hy, hv⟩ := part_sound (P := P) hp hx2
      exact ⟨y, by simp [Instr.index, asIntOf, run_underlying hu, hc.1, hc.2, run_sizeOf hs, hy], hv⟩
    · cases hx1
  · cases hx1

theorem extract_sound {a x : AV} {a' : Value} {i : Nat} (ha : VR E w a a') (hx : aextract a i = some x) : ∃ y, (Instr.extract a' i).run P w = .ok y w ∧ VR E w x y := by
  cases a with
  | tup l =>
    obtain ⟨ys, rfl, hp⟩ := ha.tup_inv
    have hx' : l[i]? = some x := hx
    have hlt : i < ys.length := by rw [← hp.1]; exact (List.getElem?_eq_some_iff.1 hx').1
    exact ⟨ys[i], by simp [Instr.extract, hlt], hp.2 i _ _ hx' (by simp [hlt])⟩
  | _ => simp [aextract] at hx

theorem opt_rel {ρ : Operand → AV} {ρ' : Operand → Value} (hρ : ∀ x, VR E w (ρ x) (ρ' x)) (o : Option Operand) : OptR E w (o.map ρ) (o.map ρ') := by
  cases o with
  | none => trivial
  | some x => exact hρ x

theorem map_pair {ρ : Operand → AV} {ρ' : Operand → Value} (hρ : ∀ x, VR E w (ρ x) (ρ' x)) (l : List Operand) : Pair (VR E w) (l.map ρ) (l.map ρ') :=
  ⟨by simp, fun i x y hx hy => by
    rw [List.getElem?_map] at hx hy
    cases hl : l[i]? with
    | none => rw [hl] at hx; cases hx
    | some o => rw [hl] at hx hy; cases hx; cases hy; exact hρ o⟩

theorem nilI_some {x : AV} {y : Value} {b : Bool} (h : nilI x = some b) (hv : VR E w x y) : (y = .nilIface ∧ b = true) ∨ ∃ t z, y = .iface t z ∧ b = false := by
  unfold nilI at h
  split at h
  · cases h; exact .inl ⟨hv.flat_inv.2, rfl⟩
  · cases h; obtain ⟨z, hz, _⟩ := hv.ifc_inv; exact .inr ⟨_, z, hz, rfl⟩
  · cases h

theorem binI_sound (h : SR B0 w0 E S w) {op : BinOp} {t : TypeId} {x y r : AV} {x' y' : Value} {X Y : Operand} (hx : VR E w x x') (hy : VR E w y y') (hr : abinI P S (constOp X || constOp Y) op t x y = some r) :
    ∃ z, ((do eqGuard op t X Y x' y'; binOp op t x' y') : Sem Value).run P w = .ok z w ∧ VR E w r z := by
  unfold abinI at hr
  split at hr
  · rename_i v hv
    cases hr
    unfold aifc at hv
    split at hv
    · rename_i ms hu
      obtain ⟨p, hp, h1⟩ := Option.bind_eq_some_iff.1 hv
      obtain ⟨q, hq, h2⟩ := Option.bind_eq_some_iff.1 h1
      split at h2
      · rename_i hc
        have heq : (∀ d, (Op.equalIn (d + 1) t x' y').run P w = .ok (p && q) w) ∧ (op = .eql ∨ op = .neq → (eqGuard op t X Y x' y').run P w = .ok () w) := by
          rcases nilI_some hp hx with ⟨rfl, rfl⟩ | ⟨t1, z1, rfl, rfl⟩ <;> rcases nilI_some hq hy with ⟨rfl, rfl⟩ | ⟨t2, z2, rfl, rfl⟩
          · refine ⟨fun d => by simp [Op.equalIn, run_underlying hu], fun ho => ?_⟩
            simp only [Bool.and_self, Bool.true_and, bne_self_eq_false, Bool.or_false, Bool.or_eq_true] at hc
            rcases ho with rfl | rfl <;> rcases hc with hc | hc
            · cases X <;> first | (cases hc; done) | (simp [eqGuard]; done)
            · cases Y <;> first | (cases hc; done) | (simp [eqGuard]; done)
            · cases X <;> first | (cases hc; done) | (simp [eqGuard]; done)
            · cases Y <;> first | (cases hc; done) | (simp [eqGuard]; done)
          · exact ⟨fun d => by simp [Op.equalIn, run_underlying hu], fun ho => by rcases ho with rfl | rfl <;> simp [eqGuard]⟩
          · exact ⟨fun d => by simp [Op.equalIn, run_underlying hu], fun ho => by rcases ho with rfl | rfl <;> simp [eqGuard]⟩
          · simp at hc
        have hx'' : (∀ k n, x' ≠ .int k n) ∧ (∀ k n, x' ≠ .float k n) ∧ (∀ k n m, x' ≠ .complex k n m) ∧ (∀ s, x' ≠ .string s) := by
          rcases nilI_some hp hx with ⟨rfl, _⟩ | ⟨t1, z1, rfl, _⟩ <;> simp
        obtain ⟨n1, n2, n3, n4⟩ := hx''
        obtain ⟨e0, e2⟩ := heq
        have e1 : (Op.equal t x' y').run P w = .ok (p && q) w := e0 9999
        clear e0
        split at h2
        · cases h2
          refine ⟨.bool (p && q), ?_, VR.of_flat rfl⟩
          rw [Sem.run_bind, e2 (.inl rfl), Result.andThen_ok]
          cases x' <;> first | exact absurd rfl (n1 _ _) | exact absurd rfl (n2 _ _) | exact absurd rfl (n3 _ _ _) | exact absurd rfl (n4 _) | (simp [binOp, e1])
        · cases h2
          refine ⟨.bool (!(p && q)), ?_, VR.of_flat rfl⟩
          rw [Sem.run_bind, e2 (.inr rfl), Result.andThen_ok]
          cases x' <;> first | exact absurd rfl (n1 _ _) | exact absurd rfl (n2 _ _) | exact absurd rfl (n3 _ _ _) | exact absurd rfl (n4 _) | (simp [binOp, e1])
        · cases h2
      · cases h2
    · cases hv
  · exact bin_sound h hx hy hr

theorem exec_sound (h : SR B0 w0 E S w) {mu : Bool} {o : Oper} {x : AV} {ρ : Operand → AV} {ρ' : Operand → Value} (hρ : ∀ x, VR E w (ρ x) (ρ' x))
    (hx : aexec P mu S ρ o.op = some (x, S')) : Did B0 w0 E w S S' x ((execOp ρ' o).run P w) := by
  obtain ⟨dst, op, ty, pos, after, guard⟩ := o
  have same : ∀ {r : Option AV} {q : AV × AS}, (r.map fun x => (x, S)) = some q → r = some q.1 ∧ q.2 = S := by
    intro r q hq
    obtain ⟨a, ha, rfl⟩ := Option.map_eq_some_iff.1 hq
    exact ⟨ha, rfl⟩
  have upd : ∀ {r : Option AS} {q : AV × AS}, (r.map fun S => (undefA, S)) = some q → r = some q.2 ∧ q.1 = undefA := by
    intro r q hq
    obtain ⟨a, ha, rfl⟩ := Option.map_eq_some_iff.1 hq
    exact ⟨ha, rfl⟩
  cases op with
  | move a => simp only [aexec, Option.some.injEq, Prod.mk.injEq] at hx; obtain ⟨rfl, rfl⟩ := hx; exact Did.val h rfl (hρ a)
  | assign a => simp only [aexec, Option.some.injEq, Prod.mk.injEq] at hx; obtain ⟨rfl, rfl⟩ := hx; exact Did.val h rfl (hρ a)
  | pick c a b =>
    simp only [aexec] at hx
    split at hx
    · rename_i t hc
      cases hx
      have hcv := hρ c
      rw [hc] at hcv
      obtain ⟨_, hcv⟩ := hcv.flat_inv
      refine Did.val h (y := if t then ρ' a else ρ' b) (by simp [execOp, hcv, asBool]) ?_
      cases t
      · exact hρ b
      · exact hρ a
    · cases hx
  | alloc e =>
    obtain ⟨z, hz, he⟩ := Option.map_eq_some_iff.1 hx
    cases he
    obtain ⟨y, w', E', h1, h2, h3, h4⟩ := alloc_sound h hz
    exact ⟨_, w', E', by simp [execOp, h1], h2, h3, .inl ⟨y, rfl, h4⟩⟩
  | box e a =>
    simp only [aexec] at hx
    split at hx
    · cases hx
    · rename_i hj
      cases hx
      obtain ⟨y, w', E', h1, h2, h3, h4⟩ := box_sound (P := P) (t := e) h (hρ a) (fun e => by rw [e] at hj; simp at hj)
      exact ⟨_, w', E', by simp [execOp, h1], h2, h3, .inl ⟨y, rfl, h4⟩⟩
  | build t parts =>
    obtain ⟨h1, h2⟩ := same hx
    simp only at h2; subst h2
    obtain ⟨y, hy, hv⟩ := build_sound (P := P) hρ h1
    exact Did.val h (by simp only [execOp]; simp [hy]) hv
  | buildSlice t len parts =>
    obtain ⟨y, w', E', h1, h2, h3, h4⟩ := buildSlice_sound (P := P) h hρ hx
    exact ⟨_, w', E', by simp only [execOp]; simp [h1], h2, h3, .inl ⟨y, rfl, h4⟩⟩
  | load t a =>
    obtain ⟨h1, h2⟩ := same hx
    simp only at h2; subst h2
    obtain ⟨y, hy, hv⟩ := load_sound h (hρ a) h1
    exact Did.val h (by simp [execOp, hy]) hv
  | store t a v =>
    obtain ⟨h1, h2⟩ := upd hx
    simp only at h2; subst h2
    obtain ⟨w', k1, k2, k3⟩ := store_sound h (hρ a) (hρ v) h1
    exact ⟨.skip, w', E, by simp [execOp, k1], k2, k3, .inr ⟨rfl, rfl⟩⟩
  | nilCheck a =>
    simp only [aexec] at hx
    have hv := hρ a
    split at hx
    · rename_i o b ha
      cases hx
      rw [ha] at hv
      obtain ⟨g, hj, e⟩ := hv.ptr_inv
      exact Did.val h (y := ρ' a) (by simp [execOp, e]) hv
    · rename_i l b ha
      cases hx
      rw [ha] at hv
      obtain ⟨g, b', e, _⟩ := hv.eptr_inv
      exact Did.val h (y := ρ' a) (by simp [execOp, e]) hv
    · cases hx
  | binOp op t a b ty' =>
    obtain ⟨h1, h2⟩ := same hx
    simp only at h2; subst h2
    obtain ⟨y, hy, hv⟩ := binI_sound (X := a) (Y := b) h (hρ a) (hρ b) h1
    refine Did.val h (y := y) ?_ hv
    show ((do pure (.value (← (do eqGuard op t a b (ρ' a) (ρ' b); binOp op t (ρ' a) (ρ' b))))) : Sem Next).run P w = _
    rw [Sem.run_bind, hy]; rfl
  | unOp op t a =>
    obtain ⟨h1, h2⟩ := same hx
    simp only at h2; subst h2
    have hv := hρ a
    split at h1
    · rename_i v ha
      rw [ha] at hv
      obtain ⟨_, e⟩ := hv.flat_inv
      obtain ⟨z, hz, hp⟩ := Option.bind_eq_some_iff.1 h1
      obtain ⟨hf, rfl⟩ := ofV_some hp
      exact Did.val h (y := z) (by simp [execOp, e, peval_sound _ hz]) (VR.of_flat hf)
    · cases h1
  | convert s d a =>
    obtain ⟨h1, h2⟩ := same hx
    simp only at h2; subst h2
    have hv := hρ a
    split at h1
    · rename_i y0 hy0
      cases h1
      obtain ⟨z, hz, hvz⟩ := astr_sound h hv hy0
      exact Did.val h (y := z) (by simp [execOp, hz]) hvz
    unfold aconvert at h1
    split at h1
    · rename_i y hy
      cases h1
      obtain ⟨q, hq⟩ : ∃ q, ρ a = q := ⟨_, rfl⟩
      rw [hq] at hy hv
      unfold abytes at hy
      split at hy
      · rename_i str
        split at hy
        · rename_i e hs hd
          split at hy
          · rename_i he
            split at hy
            · rename_i hm
              cases hy
              obtain ⟨_, e1⟩ := hv.flat_inv
              have hrun := run_bytes_of_string (P := P) w s d e str hs hd he
              obtain ⟨cp, hcp⟩ : ∃ cp, grownCap w str.size 0 e = cp := ⟨_, rfl⟩
              have hge : str.size ≤ cp := by have := grownCap_ge w str.size 0 e; omega
              have hle : cp ≤ maxLen := by have := grownCap_le_maxLen w str.size 0 e hm; omega
              rw [hcp] at hrun
              have hfl : (str.data.toList.map fun b => [AV.v (.int .u8 b.toNat)]).flatten = str.data.toList.map fun b => AV.v (.int .u8 b.toNat) := by
                induction str.data.toList with
                | nil => rfl
                | cons b l ih => simp [ih]
              have hsz : (bytesRow str cp).size = cp := by
                have hsz0 : str.data.size = str.size := rfl
                simp [bytesRow, hsz0]; omega
              have hsl : str.data.toList.length = str.size := Array.length_toList
              obtain ⟨k1, k2⟩ := h.later (w' := w.drew) ⟨rfl, rfl, rfl, Nat.le_refl _, fun _ _ _ => rfl⟩
              obtain ⟨k3, k4, k5⟩ := k1.newRow (bytesRow str cp) e str.size (by rw [hsz]; exact hge) (str.data.toList.map fun b => AV.v (.int .u8 b.toNat)) (by simp [hsl]) (fun i x y hx hy => by
                have hi : i < str.data.toList.length := by have := (List.getElem?_eq_some_iff.1 hx).1; simpa using this
                have hi2 : i < str.data.size := by simpa using hi
                simp [List.getElem?_eq_getElem hi] at hx
                unfold bytesRow at hy
                rw [Array.getElem?_append_left (by simpa using hi2)] at hy
                subst hx
                have hy2 : y = Value.int .u8 str.data[i].toNat := by
                  rw [Array.getElem?_map, Array.getElem?_eq_getElem hi2] at hy
                  exact (Option.some.inj hy).symm
                subst hy2
                exact VR.of_flat rfl) ((bytesRow str cp).size, (bytesRow str cp).size + 1)
              have hlen : (str.data.toList.map fun b => [AV.v (.int .u8 b.toNat)]).length = str.size := by simp [hsl]
              have hvr := VR.lst (c := .unk) (rows := str.data.toList.map fun b => [AV.v (.int .u8 b.toNat)]) (cap := cp) (sz := 1) (by rw [hlen]; exact hge) hle (by omega) (by simp) (by rw [hfl]; exact k5) trivial
              rw [hlen] at hvr
              exact ⟨_, _, _, by simp [execOp, e1, hrun], k3, k2.trans k4 (Nat.le_refl _) (Nat.le_refl _), .inl ⟨_, rfl, hvr⟩⟩
            · cases hy
          · cases hy
        · cases hy
      · cases hy
    split at h1
    · rename_i v ha
      rw [ha] at hv
      obtain ⟨_, e⟩ := hv.flat_inv
      obtain ⟨z, hz, hp⟩ := Option.bind_eq_some_iff.1 h1
      obtain ⟨hf, rfl⟩ := ofV_some hp
      exact Did.val h (y := z) (by simp [execOp, e, peval_sound _ hz]) (VR.of_flat hf)
    · cases h1
  | makeFunc f a b =>
    simp only [aexec, Option.some.injEq, Prod.mk.injEq] at hx
    obtain ⟨rfl, rfl⟩ := hx
    refine Did.val h (y := .func f (a.toList.map ρ').toArray (b.toList.map ρ').toArray) ?_ (VR.fn (map_pair hρ _) (map_pair hρ _))
    simp [execOp, Instr.makeFunc]
    exact ⟨by apply Array.ext'; simp, by apply Array.ext'; simp⟩
  | makeMap t r =>
    cases r with
    | some r => simp [aexec] at hx
    | none =>
      simp only [aexec, Option.some.injEq, Prod.mk.injEq] at hx
      obtain ⟨rfl, rfl⟩ := hx
      obtain ⟨E', h1, h2, h3⟩ := h.newMap
      exact ⟨_, _, E', by simp only [execOp]; simp [run_makeMap], h1, h2, .inl ⟨_, rfl, VR.mp h3⟩⟩
  | makeSlice t l c =>
    obtain ⟨y, w', E', h1, h2, h3, h4⟩ := makeSlice_sound (P := P) h (hρ l) (hρ c) hx
    exact ⟨_, w', E', by simp [execOp, h1], h2, h3, .inl ⟨y, rfl, h4⟩⟩
  | slice t a lo hi mx =>
    obtain ⟨h1, h2⟩ := same hx
    simp only at h2; subst h2
    obtain ⟨y, hy, hv⟩ := slice_sound (P := P) (hρ a) (opt_rel hρ lo) (opt_rel hρ hi) (opt_rel hρ mx) h1
    exact Did.val h (by simp [execOp, hy]) hv
  | fieldAddr s a f =>
    obtain ⟨h1, h2⟩ := same hx
    simp only at h2; subst h2
    obtain ⟨y, hy, hv⟩ := fieldAddr_sound (P := P) (hρ a) h1
    exact Did.val h (by simp [execOp, hy]) hv
  | field t a f =>
    obtain ⟨h1, h2⟩ := same hx
    simp only at h2; subst h2
    have hv := hρ a
    split at h1
    · rename_i l ha
      rw [ha] at hv
      obtain ⟨ys, e, hp⟩ := hv.agg_inv
      obtain ⟨p, hp1, h3⟩ := Option.bind_eq_some_iff.1 h1
      obtain ⟨fs, x', n, hu, hf, hn, _, rfl⟩ := afield_some hp1
      obtain ⟨y, hy, hv'⟩ := part_sound (P := P) hp h3
      exact Did.val h (y := y) (by simp [execOp, Instr.field, run_underlying hu, hf, e, asAgg, hy]) hv'
    · cases h1
  | indexAddr t a i =>
    obtain ⟨h1, h2⟩ := same hx
    simp only at h2; subst h2
    obtain ⟨y, hy, hv⟩ := indexAddr_sound (P := P) (hρ a) (hρ i) h1
    exact Did.val h (by simp [execOp, hy]) hv
  | index t a i =>
    obtain ⟨h1, h2⟩ := same hx
    simp only at h2; subst h2
    obtain ⟨y, hy, hv⟩ := index_sound (P := P) (hρ a) (hρ i) h1
    exact Did.val h (by simp [execOp, hy]) hv
  | lookup t m k ok =>
    obtain ⟨h1, h2⟩ := same hx
    simp only at h2; subst h2
    obtain ⟨y, hy, hv⟩ := lookup_sound h (hρ m) (hρ k) h1
    exact Did.val h (by simp [execOp, hy]) hv
  | mapUpdate t m k v =>
    obtain ⟨h1, h2⟩ := upd hx
    simp only at h2; subst h2
    obtain ⟨w', k1, k2, k3⟩ := mapUpdate_sound h (hρ m) (hρ k) (hρ v) h1
    exact ⟨.skip, w', E, by simp [execOp, k1], k2, k3, .inr ⟨rfl, rfl⟩⟩
  | insert t m k v =>
    obtain ⟨h1, h2⟩ := upd hx
    simp only at h2; subst h2
    obtain ⟨w', k1, k2, k3⟩ := mapUpdate_sound h (hρ m) (hρ k) (hρ v) h1
    exact ⟨.skip, w', E, by simp [execOp, k1], k2, k3, .inr ⟨rfl, rfl⟩⟩
  | range t a =>
    simp only [aexec] at hx
    have ha := hρ a
    obtain ⟨q, hq⟩ : ∃ q, ρ a = q := ⟨_, rfl⟩
    rw [hq] at hx ha
    unfold arange0 at hx
    split at hx
    · rename_i s
      split at hx
      · rename_i hu
        cases hx
        obtain ⟨_, e1⟩ := ha.flat_inv
        obtain ⟨k1, k2⟩ := h.newObj (.stringIter s 0) 0 (.iter s 0) (World.alloc_heap_new _ _)
        refine ⟨.value (.pointer (some ⟨w.heap.size, 0, none⟩)), _, _, ?_, k1, k2, .inl ⟨_, rfl, VR.ptr (by simp [Env.obj])⟩⟩
        simp [execOp, Instr.range, run_underlying hu, e1]
      · cases hx
    · cases hx
  | next it b =>
    simp only [aexec] at hx
    have ha := hρ it
    obtain ⟨q, hq⟩ : ∃ q, ρ it = q := ⟨_, rfl⟩
    rw [hq] at hx ha
    unfold anext at hx
    split at hx
    · rename_i o
      obtain ⟨g, hj, e1⟩ := ha.ptr_inv
      split at hx
      · rename_i s pos ho
        have hg : w.heap[g]? = some (.stringIter s pos) := h.obj o _ g ho hj
        have hget : (getObj g).run P w = .ok (.stringIter s pos) w := by simp [getObj, Sem.run, hg]
        split at hx
        · rename_i hlt
          cases hx
          have hset : (setObj g (.stringIter s (pos + (Utf8.decode s pos).2))).run P w = .ok () { w with heap := w.heap.setIfInBounds g (.stringIter s (pos + (Utf8.decode s pos).2)) } := by simp [setObj, Sem.run, hg]
          obtain ⟨k1, k2⟩ := h.setObj hj (by unfold AS.live; rw [ho]; simp) (grownBy_setObj (w := w) (o' := .stringIter s (pos + (Utf8.decode s pos).2)) hg) (.iter s (pos + (Utf8.decode s pos).2)) (heap_set hg).1
          refine ⟨.value (.tuple #[.bool true, .int .i64 pos, .int .i32 (Utf8.decode s pos).1]), _, _, ?_, k1, k2, .inl ⟨_, rfl, VR.tup (ys := [.bool true, .int .i64 pos, .int .i32 (Utf8.decode s pos).1]) (flats_pair [.bool true, .int .i64 pos, .int .i32 (Utf8.decode s pos).1] rfl)⟩⟩
          simp [execOp, Instr.next, e1, hget, hset, hlt, goInt]
        · rename_i hlt
          cases hx
          refine Did.val h (y := .tuple #[.bool false]) ?_ (VR.tup (ys := [.bool false]) (flats_pair [.bool false] rfl))
          simp [execOp, Instr.next, e1, hget, hlt]
      · cases hx
    · cases hx
  | extract t i =>
    obtain ⟨h1, h2⟩ := same hx
    simp only at h2; subst h2
    obtain ⟨y, hy, hv⟩ := extract_sound (P := P) (hρ t) h1
    exact Did.val h (by simp [execOp, hy]) hv
  | makeInterface t a =>
    simp only [aexec] at hx
    split at hx
    · cases hx
    · cases hx
    · rename_i hu1 hu2
      cases hx
      refine Did.val h (y := .iface t (ρ' a)) ?_ (VR.ifc (hρ a))
      cases hu : P.underlying t with
      | none => exact absurd hu hu2
      | some d => cases d <;> first | exact absurd hu (hu1 _) | simp [execOp, Instr.makeInterface, run_underlying hu]
  | _ => simp [aexec] at hx

end Go.AM
