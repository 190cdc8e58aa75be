/- The abstract machine, nineteenth text: a region that draws its order: every order that it may take does what the order of the text does. -/
import Derived.Test.YtamemdhmjglifaaGreatDoorP4
namespace Go.AM
open Go.RowKit Go.MapKept

variable {B0 : Nat} {w0 w : World} {E : Env} {S S' : AS} {P : Program} {C : Cfg} {L : Lw}

theorem pairs_congr {ρ ρ' : Operand → AV} (ps : Array (Nat × Operand)) (h : ∀ x ∈ (ps.toList.map (·.2)).toArray, ρ x = ρ' x) : (ps.toList.map fun p => (p.1, ρ p.2)) = ps.toList.map fun p => (p.1, ρ' p.2) :=
  List.map_congr_left fun p hp => by rw [h p.2 (by simp; exact ⟨p.1, by simpa using hp⟩)]

theorem opt_congr {ρ ρ' : Operand → AV} (o : Option Operand) (h : ∀ x ∈ o.toArray, ρ x = ρ' x) : o.map ρ = o.map ρ' := by
  cases o with
  | none => rfl
  | some x => simp [h x (by simp)]

theorem aexec_congr {mu : Bool} {ρ ρ' : Operand → AV} (op : Op) (h : ∀ x ∈ op.operands, ρ x = ρ' x) : aexec P mu S ρ op = aexec P mu S ρ' op := by
  cases op with
  | build t ps => simp only [aexec]; rw [pairs_congr ps (fun x hx => h x (by simpa [Op.operands] using hx))]
  | buildSlice t n ps => simp only [aexec]; rw [pairs_congr ps (fun x hx => h x (by simpa [Op.operands] using hx))]
  | makeFunc f a b =>
    have h1 : a.toList.map ρ = a.toList.map ρ' := List.map_congr_left fun x hx => h x (by simp [Op.operands]; exact .inl (by simpa using hx))
    have h2 : b.toList.map ρ = b.toList.map ρ' := List.map_congr_left fun x hx => h x (by simp [Op.operands]; exact .inr (by simpa using hx))
    simp only [aexec, h1, h2]
  | slice t x lo hi mx =>
    have h1 := h x (by simp [Op.operands])
    have h2 := opt_congr lo (fun x hx => h x (by simp [Op.operands] at hx ⊢; simp [hx]))
    have h3 := opt_congr hi (fun x hx => h x (by simp [Op.operands] at hx ⊢; simp [hx]))
    have h4 := opt_congr mx (fun x hx => h x (by simp [Op.operands] at hx ⊢; simp [hx]))
    simp only [aexec, h1, h2, h3, h4]
  | makeMap t o => cases o <;> rfl
  | move x | assign x | box e x | load t x | nilCheck x | unOp a b x | convert a b x | fieldAddr a x b | field a x b | extract x a | makeInterface a x =>
    have h1 := h x (by simp [Op.operands])
    simp only [aexec, h1]
  | pick c a b =>
    have h1 := h c (by simp [Op.operands]); have h2 := h a (by simp [Op.operands]); have h3 := h b (by simp [Op.operands])
    simp only [aexec, h1, h2, h3]
  | insert t c a b =>
    have h1 := h c (by simp [Op.operands]); have h2 := h a (by simp [Op.operands]); have h3 := h b (by simp [Op.operands])
    simp only [aexec, h1, h2, h3]
  | range t x | next x t =>
    have h1 := h x (by simp [Op.operands])
    simp only [aexec, h1]
  | mapUpdate t c a b =>
    have h1 := h c (by simp [Op.operands]); have h2 := h a (by simp [Op.operands]); have h3 := h b (by simp [Op.operands])
    simp only [aexec, h1, h2, h3]
  | store t a b | binOp t a' a b c | makeSlice t a b | indexAddr t a b | index t a b | lookup t a b c =>
    have h1 := h a (by simp [Op.operands]); have h2 := h b (by simp [Op.operands])
    simp only [aexec, h1, h2]
  | _ => rfl

theorem isPure_congr {mu : Bool} {ρ ρ' : Operand → AV} (op : Op) (h : ∀ x ∈ op.operands, ρ x = ρ' x) : isPure mu ρ op = isPure mu ρ' op := by
  cases op with
  | binOp t a' a b c => have h1 := h a (by simp [Op.operands]); have h2 := h b (by simp [Op.operands]); simp only [isPure, h1, h2]
  | load t a => have h1 := h a (by simp [Op.operands]); simp only [isPure, h1]
  | convert s d a => have h1 := h a (by simp [Op.operands]); simp only [isPure, h1]
  | _ => rfl

theorem aexec_pure {mu : Bool} {ρ : Operand → AV} {op : Op} {x : AV} (hp : isPure mu ρ op = true) (hx : aexec P mu S ρ op = some (x, S')) : S' = S ∧ ∀ S2, aexec P mu S2 ρ op = some (x, S2) := by
  have same : ∀ {r : Option AV}, (r.map fun x => (x, S)) = some (x, S') → S' = S ∧ ∀ S2 : AS, (r.map fun x => (x, S2)) = some (x, S2) := by
    intro r hq
    obtain ⟨a, ha, he⟩ := Option.map_eq_some_iff.1 hq
    cases he
    exact ⟨rfl, fun S2 => by rw [ha]; rfl⟩
  cases op with
  | move y => simp only [aexec, Option.some.injEq, Prod.mk.injEq] at hx ⊢; exact ⟨hx.2.symm, fun _ => ⟨hx.1, trivial⟩⟩
  | assign y => simp only [aexec, Option.some.injEq, Prod.mk.injEq] at hx ⊢; exact ⟨hx.2.symm, fun _ => ⟨hx.1, trivial⟩⟩
  | makeFunc f a b => simp only [aexec, Option.some.injEq, Prod.mk.injEq] at hx ⊢; exact ⟨hx.2.symm, fun _ => ⟨hx.1, trivial⟩⟩
  | pick c a b =>
    simp only [aexec] at hx ⊢
    split at hx
    · cases hx; exact ⟨rfl, fun _ => by simp [*]⟩
    · cases hx
  | build t ps => exact same hx
  | fieldAddr t y f => exact same hx
  | field t y f => exact same hx
  | indexAddr t y f => exact same hx
  | index t y f => exact same hx
  | convert s d y =>
    have hq : ∀ S2, astr P S2 s d (ρ y) = astr P S s d (ρ y) := fun S2 => by
      have hr : rowsOf S2 1 (ρ y) = rowsOf S 1 (ρ y) := by
        simp only [isPure] at hp
        cases hy : ρ y with
        | slc _ _ _ _ _ => rw [hy] at hp; cases hp
        | v z => unfold rowsOf; split <;> first | rfl | contradiction
        | _ => rfl
      unfold astr
      rw [hr]
    simp only [aexec] at hx ⊢
    obtain ⟨h1, h2⟩ := same hx
    refine ⟨h1, fun S2 => ?_⟩
    rw [hq S2]
    exact h2 S2
  | unOp u t y => exact same hx
  | extract y i => exact same hx
  | slice t y lo hi mx => exact same hx
  | nilCheck y =>
    simp only [aexec] at hx ⊢
    split at hx
    · cases hx; exact ⟨rfl, fun _ => by simp [*]⟩
    · cases hx; exact ⟨rfl, fun _ => by simp [*]⟩
    · cases hx
  | makeInterface t y =>
    simp only [aexec] at hx ⊢
    split at hx
    · cases hx
    · cases hx
    · rename_i h1 h2
      cases hx
      exact ⟨rfl, fun S2 => rfl⟩
  | binOp op t a b t2 =>
    have key : ∀ S2, abin P S2 op t (ρ a) (ρ b) = abin P S op t (ρ a) (ρ b) := by
      intro S2
      have heq : ∀ u v, (match u, v with | .ptr _ _, .ptr _ _ => false | _, _ => true) = true → aeq P S2 t u v = aeq P S t u v := by
        intro u v huv
        unfold aeq
        split
        · cases u <;> cases v <;> first | rfl | cases huv
        · rfl
        · rfl
        · rfl
        · rfl
      have h2 := heq _ _ hp
      unfold abin
      rw [h2]
    have key : ∀ S2, abinI P S2 (constOp a || constOp b) op t (ρ a) (ρ b) = abinI P S (constOp a || constOp b) op t (ρ a) (ρ b) := fun S2 => by unfold abinI; rw [key S2]
    obtain ⟨r, hr⟩ : ∃ r, abinI P S (constOp a || constOp b) op t (ρ a) (ρ b) = r := ⟨_, rfl⟩
    simp only [aexec, hr] at hx
    obtain ⟨h1, h2⟩ := same hx
    exact ⟨h1, fun S2 => by simp only [aexec, key S2, hr]; exact h2 S2⟩
  | buildSlice t n ps =>
    simp only [isPure, Bool.not_eq_true'] at hp
    subst hp
    simp only [aexec] at hx ⊢
    unfold abuildSlice at hx ⊢
    obtain ⟨p, hp, hx⟩ := Option.bind_eq_some_iff.1 hx
    obtain ⟨z, hz, hx⟩ := Option.bind_eq_some_iff.1 hx
    split at hx
    · rename_i hc
      obtain ⟨cs, hcs, hx⟩ := Option.map_eq_some_iff.1 hx
      simp only [Bool.false_eq_true, if_false, Prod.mk.injEq] at hx
      obtain ⟨rfl, rfl⟩ := hx
      refine ⟨rfl, fun S2 => ?_⟩
      rw [hp]
      simp only [Option.bind_some, hz, if_pos hc, hcs, Option.map_some, Bool.false_eq_true, if_false]
    · cases hx
  | load t a =>
    simp only [isPure] at hp
    split at hp
    · rename_i row off hrow
      have : ∀ S2, aload P S2 t (ρ a) = aload P S t (ρ a) := fun S2 => by rw [hrow]; rfl
      obtain ⟨r, hr⟩ : ∃ r, aload P S t (ρ a) = r := ⟨_, rfl⟩
      simp only [aexec, hr] at hx
      obtain ⟨h1, h2⟩ := same hx
      exact ⟨h1, fun S2 => by simp only [aexec, this S2, hr]; exact h2 S2⟩
    · cases hp
  | _ => cases hp

/-! ### What an operation looks at -/
theorem aeval_congr {l l' : List AV} {ops : Array Oper} {o : Oper} (h : ∀ t ∈ o.looksAt ops, l[t]? = l'[t]?) : ∀ x ∈ o.op.operands, aeval l x = aeval l' x := by
  intro x hx
  cases x with
  | tmp t =>
    simp only [aeval]
    rw [h t (List.mem_append_left _ (List.mem_filterMap.2 ⟨.tmp t, by simpa using hx, rfl⟩))]
  | _ => rfl

theorem awanted_congr {l l' : List AV} {ops : Array Oper} {o : Oper} (h : ∀ t ∈ o.looksAt ops, l[t]? = l'[t]?) : awanted ops l o = awanted ops l' o := by
  unfold awanted
  cases hg : o.guard with
  | none => rfl
  | some p =>
    obtain ⟨j, b⟩ := p
    simp only
    have : aslot ops l j = aslot ops l' j := by
      unfold aslot
      cases hd : (ops[j]?).bind (·.dst) with
      | none => rfl
      | some d =>
        simp only [Option.bind_some]
        rw [h d (List.mem_append_right _ (by rw [hg]; simp [hd]))]
    rw [this]

theorem acallOp_congr {mu : Bool} {ty : TypeId} {c : Call} {ρ ρ' : Operand → AV} (h : ∀ x ∈ c.operands, ρ x = ρ' x) : acallOp C L mu ty c ρ S = acallOp C L mu ty c ρ' S := by
  have h1 : c.args.toList.map ρ = c.args.toList.map ρ' := List.map_congr_left fun x hx => h x (by unfold Call.operands; simp; exact .inr (by simpa using hx))
  unfold acallOp
  cases hc : c.callee with
  | builtin b => simp only [h1]
  | value f => simp only [h1, h f (by unfold Call.operands; simp [hc])]
  | invoke r m => rfl

theorem adoOp_congr {mu : Bool} {o : Oper} {ρ ρ' : Operand → AV} (h : ∀ x ∈ o.op.operands, ρ x = ρ' x) : adoOp C L mu o ρ S = adoOp C L mu o ρ' S := by
  unfold adoOp
  split
  · rename_i c hc; exact acallOp_congr (fun x hx => h x (by rw [hc]; exact hx))
  · exact aexec_congr _ h

theorem astep_congr {mu : Bool} {ops : Array Oper} {o : Oper} {l l' : List AV} (h : ∀ t ∈ o.looksAt ops, l[t]? = l'[t]?) : astep C L mu ops o l S = astep C L mu ops o l' S := by
  unfold astep
  rw [awanted_congr h]
  split
  · exact adoOp_congr (aeval_congr h)
  · rfl
  · rfl

theorem stabOp_congr {o : Oper} {ρ ρ' : Operand → AV} (h : ∀ x ∈ o.op.operands, ρ x = ρ' x) : stabOp C ρ o = stabOp C ρ' o := by
  unfold stabOp
  split
  · rfl
  · rename_i c ho
    split
    · rename_i f hc
      have := h f (by rw [ho]; simp [Op.operands, Call.operands, hc])
      rw [this]
    · rfl
  · rfl

theorem rwOf_congr {ops : Array Oper} {o : Oper} {l l' : List AV} (h : ∀ t ∈ o.looksAt ops, l[t]? = l'[t]?) : rwOf ops l o = rwOf ops l' o := by
  have ha := aeval_congr h
  unfold rwOf
  rw [awanted_congr h]
  split
  · split
    · rename_i T a ho; rw [ha a (by rw [ho]; simp [Op.operands])]
    · rename_i T a v ho; rw [ha a (by rw [ho]; simp [Op.operands])]
    · rfl
  · rfl

theorem atag_congr {mu : Bool} {ops : Array Oper} {o : Oper} {l l' : List AV} (h : ∀ t ∈ o.looksAt ops, l[t]? = l'[t]?) : atag C L mu ops o l S = atag C L mu ops o l' S := by
  unfold atag
  rw [astep_congr h]
  unfold apu
  rw [awanted_congr h, isPure_congr _ (aeval_congr h), stabOp_congr (aeval_congr h), rwOf_congr h]

theorem aput_get {l : List AV} {d : Option Tmp} {x : AV} {t : Nat} (h : d ≠ some t) : (aput l d x)[t]? = l[t]? := by
  cases d with
  | none => rfl
  | some d => exact List.getElem?_set_ne (fun e => h (by rw [e]))

theorem aput_comm {l : List AV} {d e : Option Tmp} {x y : AV} (h : ∀ t, d = some t → e ≠ some t) : aput (aput l d x) e y = aput (aput l e y) d x := by
  cases d with
  | none => rfl
  | some d =>
    cases e with
    | none => rfl
    | some e => exact List.set_comm _ _ (fun q => h d rfl (by rw [q]))

theorem amark_objs : (amark S).objs = S.objs := rfl

theorem atag_pure {mu : Bool} {ops : Array Oper} {o : Oper} {l : List AV} {x : AV} {t : Tag} (h : atag C L mu ops o l S = some (x, S', t)) (ht : t.1 = true) : S' = S ∧ ∀ S2, atag C L mu ops o l S2 = some (x, S2, t) := by
  unfold atag at h ⊢
  cases hs : astep C L mu ops o l (amark S) with
  | none => rw [hs] at h; cases h
  | some q =>
    obtain ⟨x', S1⟩ := q
    rw [hs] at h
    dsimp only at h
    cases hw : awanted ops l o with
    | none => unfold astep at hs; rw [hw] at hs; cases hs
    | some b =>
      cases b with
      | false =>
        have hpu : apu mu ops o l = true := by unfold apu; rw [hw]
        have hs2 : ∀ S2, astep C L mu ops o l (amark S2) = some (undefA, amark S2) := fun S2 => by unfold astep; rw [hw]
        rw [hs2] at hs
        cases hs
        simp only [hpu, Bool.true_or, if_true, Option.some.injEq, Prod.mk.injEq] at h
        obtain ⟨rfl, rfl, rfl⟩ := h
        refine ⟨rfl, fun S2 => ?_⟩
        rw [hs2]; simp [hpu]
      | true =>
        cases hpu : apu mu ops o l with
        | false =>
          rw [hpu] at h
          split at h
          · cases h; cases ht
          · cases h; cases ht
        | true =>
          have hp : isPure mu (aeval l) o.op = true := by unfold apu at hpu; rw [hw] at hpu; exact hpu
          simp only [hpu, Bool.true_or, if_true, Option.some.injEq, Prod.mk.injEq] at h
          obtain ⟨rfl, rfl, rfl⟩ := h
          refine ⟨rfl, fun S2 => ?_⟩
          unfold astep at hs
          rw [hw] at hs
          have hnc : ∀ S, adoOp C L mu o (aeval l) S = aexec C.P mu S (aeval l) o.op := fun S => by
            unfold adoOp
            split
            · rename_i c hc; rw [hc] at hp; cases hp
            · rfl
          dsimp only at hs
          rw [hnc] at hs
          have h2 := (aexec_pure hp hs).2 (amark S2)
          have : astep C L mu ops o l (amark S2) = some (x', amark S2) := by unfold astep; rw [hw]; dsimp only; rw [hnc]; exact h2
          rw [this]; simp

theorem atag_same {mu : Bool} {ops : Array Oper} {o : Oper} {l : List AV} {x : AV} {t : Tag} (h : atag C L mu ops o l S = some (x, S', t)) (ht : t.2.1 = true) : S' = S := by
  unfold atag at h
  split at h
  · split at h
    · cases h; rfl
    · cases h; cases ht
  · cases h

theorem asame_mark' (S : AS) : asame S (amark S) = true := by simp [asame, akept, amark]

theorem atag_stab (hL : LwOK C L) {mu : Bool} {ops : Array Oper} {o : Oper} {l : List AV} {x : AV} {t : Tag} (h : atag C L mu ops o l S = some (x, S', t)) (ht : t.2.2.1 = true) : S' = S ∧ ∀ S2 : AS, (∃ e, S2.objs = S.objs ++ e) → atag C L mu ops o l S2 = some (x, S2, t) := by
  unfold atag at h ⊢
  cases hs : astep C L mu ops o l (amark S) with
  | none => rw [hs] at h; cases h
  | some q =>
    obtain ⟨x', S1⟩ := q
    rw [hs] at h
    dsimp only at h
    split at h
    · simp only [Option.some.injEq, Prod.mk.injEq] at h
      obtain ⟨rfl, rfl, rfl⟩ := h
      refine ⟨rfl, fun S2 he => ?_⟩
      dsimp only at ht
      have key : astep C L mu ops o l (amark S2) = some (x', amark S2) := by
        unfold astep at hs ⊢
        cases hw : awanted ops l o with
        | none => rw [hw] at hs; cases hs
        | some b =>
          rw [hw] at hs
          cases b with
          | false => dsimp only at hs ⊢; cases hs; rfl
          | true =>
            dsimp only at hs ⊢
            unfold stabOp at ht
            split at ht
            · rename_i T a ho
              unfold adoOp at hs ⊢
              rw [ho] at hs ⊢
              dsimp only at hs ⊢
              simp only [aexec] at hs ⊢
              obtain ⟨y, hy, hpq⟩ := Option.map_eq_some_iff.1 hs
              cases hpq
              refine Option.map_eq_some_iff.2 ⟨_, ?_, rfl⟩
              obtain ⟨e, he⟩ := he
              unfold aload at hy ⊢
              split at hy
              · obtain ⟨p, hp, hy⟩ := Option.bind_eq_some_iff.1 hy
                refine Option.bind_eq_some_iff.2 ⟨p, ?_, hy⟩
                unfold AS.cellsAt at hp ⊢
                have e1 : (amark S2).objs = S2.objs := rfl
                have e2 : (amark S).objs = S.objs := rfl
                rw [e1, he]
                rw [e2] at hp
                split at hp
                · rename_i ll TT hq
                  have hlt := (List.getElem?_eq_some_iff.1 hq).1
                  rw [List.getElem?_append_left hlt, hq]
                  exact hp
                · cases hp
              · exact hy
              · cases hy
            · rename_i c ho
              unfold adoOp at hs ⊢
              rw [ho] at hs ⊢
              dsimp only at hs ⊢
              unfold acallOp at hs ⊢
              split at ht
              · rename_i f hc
                rw [hc] at hs ⊢
                dsimp only at hs ⊢
                split at ht
                · rename_i g first caps hv
                  rw [hv] at hs ⊢
                  dsimp only at hs ⊢
                  split at ht
                  · rename_i e hE
                    rw [hE] at hs
                    dsimp only at hs ⊢
                    obtain ⟨vs, hvs, hs1⟩ := Option.bind_eq_some_iff.1 hs
                    obtain ⟨y, hy, hs2⟩ := Option.bind_eq_some_iff.1 hs1
                    obtain ⟨x2, hx2, hs3⟩ := Option.map_eq_some_iff.1 hs2
                    cases hs3
                    exact Option.bind_eq_some_iff.2 ⟨vs, hvs, Option.bind_eq_some_iff.2 ⟨y, hy, Option.map_eq_some_iff.2 ⟨_, hx2, rfl⟩⟩⟩
                  rename_i hE
                  rw [hE] at hs
                  dsimp only at hs ⊢
                  split at ht
                  · rename_i hX
                    obtain ⟨_, h2⟩ := hL.st hX ht hs
                    exact h2 (amark S2) he
                  · cases ht
                · cases ht
              · cases ht
            · cases ht
      rw [key]
      simp only [asame_mark', Bool.or_true, if_true]
    · cases h; cases ht

theorem atag_alloc {mu : Bool} {ops : Array Oper} {o : Oper} {l : List AV} {x : AV} {t : Tag} (ha : isAlloc o.op = true) (h : atag C L mu ops o l S = some (x, S', t)) : ∃ e, S'.objs = S.objs ++ e := by
  unfold isAlloc at ha
  split at ha
  · rename_i T ho
    unfold atag at h
    split at h
    · rename_i y S1 hs
      have hS1 : ∃ e, S1.objs = S.objs ++ e := by
        unfold astep at hs
        split at hs
        · unfold adoOp at hs
          rw [ho] at hs
          dsimp only at hs
          simp only [aexec, Option.map_eq_some_iff, Prod.mk.injEq] at hs
          obtain ⟨z, _, _, rfl⟩ := hs
          exact ⟨_, rfl⟩
        · cases hs; exact ⟨[], by simp [amark]⟩
        · cases hs
      split at h
      · cases h; exact ⟨[], by simp⟩
      · cases h; exact hS1
    · cases h
  · cases ha

def setS (S : AS) (o : Nat) (ob : AObj) : AS := aunmark S ((amark S).set o ob)

theorem asame_set {S : AS} {o : Nat} {ob : AObj} (h : o < S.objs.length) : asame S ((amark S).set o ob) = false := by
  have : Nat.beq (min S.objs.length o) S.objs.length = false := by
    have e : min S.objs.length o = o := Nat.min_eq_right (Nat.le_of_lt h)
    rw [e]
    cases hb : Nat.beq o S.objs.length with
    | false => rfl
    | true => have := Nat.eq_of_beq_eq_true hb; omega
  simp [asame, akept, amark, AS.set, this]

/-- A step that reads or writes one object is told by what stands there. -/
theorem atag_one {mu : Bool} {ops : Array Oper} {o : Oper} {l : List AV} {x : AV} {t : Tag} {b : Bool} {ob : Nat} (h : atag C L mu ops o l S = some (x, S', t)) (ht : t.2.2.2 = some (b, ob)) :
    (b = false ∧ S' = S ∧ ∀ S2 : AS, S2.objs[ob]? = S.objs[ob]? → atag C L mu ops o l S2 = some (x, S2, t)) ∨
    (b = true ∧ ∃ c, ob < S.objs.length ∧ S' = setS S ob c ∧ ∀ S2 : AS, S2.objs[ob]? = S.objs[ob]? → atag C L mu ops o l S2 = some (x, setS S2 ob c, t)) := by
  have hrw : rwOf ops l o = some (b, ob) := by
    unfold atag at h
    split at h
    · split at h
      · cases h; exact ht
      · cases h; exact ht
    · cases h
  have hcell : ∀ {S2 : AS}, S2.objs[ob]? = S.objs[ob]? → (amark S2).cellsAt ob = (amark S).cellsAt ob := fun he => by
    unfold AS.cellsAt
    have e1 : ∀ S : AS, (amark S).objs = S.objs := fun _ => rfl
    rw [e1, e1, he]
  unfold rwOf at hrw
  split at hrw
  · rename_i hw
    split at hrw
    · rename_i T a ho
      split at hrw
      · rename_i ob' off hv
        cases hrw
        left
        refine ⟨rfl, ?_⟩
        have hpu : apu mu ops o l = false := by unfold apu; rw [hw]; simp only [ho, isPure, hv]
        have key : ∀ S2 : AS, S2.objs[ob]? = S.objs[ob]? → astep C L mu ops o l (amark S2) = (aload C.P (amark S) T (.ptr ob off)).map fun x => (x, amark S2) := fun S2 he => by
          unfold astep
          rw [hw]
          unfold adoOp
          rw [ho]
          simp only [aexec, hv, aload, hcell he]
        unfold atag at h ⊢
        have k0 := key S rfl
        rw [k0] at h
        cases hl : aload C.P (amark S) T (.ptr ob off) with
        | none => rw [hl] at h; cases h
        | some y =>
          rw [hl] at h
          simp only [Option.map_some, asame_mark', Bool.or_true, if_true, Option.some.injEq, Prod.mk.injEq] at h
          obtain ⟨rfl, rfl, rfl⟩ := h
          refine ⟨rfl, fun S2 he => ?_⟩
          rw [key S2 he, hl]
          simp only [Option.map_some, asame_mark', Bool.or_true, if_true]
      · cases hrw
    · rename_i T a v ho
      split at hrw
      · rename_i ob' off hv
        cases hrw
        right
        refine ⟨rfl, ?_⟩
        have hpu : apu mu ops o l = false := by unfold apu; rw [hw]; simp only [ho, isPure]
        have key : ∀ S2 : AS, astep C L mu ops o l (amark S2) = ((amark S2).cellsAt ob).bind fun p => (if (aeval l v).cells.all AV.one && szOf C.P T == some (aeval l v).cells.length && decide (off + (aeval l v).cells.length ≤ p.1.length) then some (undefA, (amark S2).set ob (.cells (splice p.1 off (aeval l v).cells) p.2)) else none) := fun S2 => by
          unfold astep
          rw [hw]
          unfold adoOp
          rw [ho]
          simp only [aexec, hv, astore]
          cases (amark S2).cellsAt ob with
          | none => rfl
          | some p => dsimp only [Option.bind_some]; split <;> rfl
        unfold atag at h ⊢
        rw [key S] at h
        cases hc : (amark S).cellsAt ob with
        | none => rw [hc] at h; cases h
        | some p =>
          rw [hc] at h
          simp only [Option.bind_some] at h
          have hlt : ob < S.objs.length := by
            unfold AS.cellsAt at hc
            split at hc
            · rename_i hq; exact (List.getElem?_eq_some_iff.1 hq).1
            · cases hc
          split at h
          · rename_i hcond
            split at hcond
            · rename_i hok
              cases hcond
              rw [hpu, asame_set hlt] at h
              simp only [Bool.or_self, Bool.false_eq_true, if_false, Option.some.injEq, Prod.mk.injEq] at h
              obtain ⟨rfl, rfl, rfl⟩ := h
              refine ⟨_, hlt, rfl, fun S2 he => ?_⟩
              have hlt2 : ob < S2.objs.length := by
                have : S2.objs[ob]? = some S.objs[ob] := by rw [he]; exact List.getElem?_eq_getElem hlt
                exact (List.getElem?_eq_some_iff.1 this).1
              rw [key S2, hcell he, hc]
              simp only [Option.bind_some, hok, if_true, hpu, asame_set hlt2, Bool.or_self, Bool.false_eq_true, if_false]
              rfl
            · cases hcond
          · cases h
      · cases hrw
    · cases hrw
  · cases hrw

theorem setS_get {S : AS} {o p : Nat} {c : AObj} (h : o ≠ p) : (setS S o c).objs[p]? = S.objs[p]? := by
  show (S.objs.set o c)[p]? = _
  rw [List.getElem?_set, if_neg h]

theorem setS_comm {S : AS} {o p : Nat} {c d : AObj} (h : o ≠ p) : setS (setS S o c) p d = setS (setS S p d) o c := by
  simp only [setS, aunmark, amark, AS.set, List.length_set]
  congr 1
  · exact List.set_comm _ _ h
  · omega

theorem atag_rw {mu : Bool} {ops : Array Oper} {p q : Oper} {l : List AV} {x y : AV} {t u : Tag} {S1 S2 : AS} (hk : apartRW t.2.2.2 u.2.2.2 = true) (h1 : atag C L mu ops p l S = some (x, S1, t)) (h2 : atag C L mu ops q l S1 = some (y, S2, u)) :
    ∃ S3, atag C L mu ops q l S = some (y, S3, u) ∧ atag C L mu ops p l S3 = some (x, S2, t) := by
  unfold apartRW at hk
  split at hk
  · rename_i b1 o1 b2 o2 e1 e2
    have hne : o1 ≠ o2 := by intro e; subst e; simp at hk
    rcases atag_one h1 e1 with ⟨rfl, rfl, k1⟩ | ⟨rfl, c, hl1, rfl, k1⟩
    · rcases atag_one h2 e2 with ⟨rfl, rfl, k2⟩ | ⟨rfl, d, hl2, rfl, k2⟩
      · exact ⟨_, h2, h1⟩
      · exact ⟨_, h2, k1 _ (setS_get hne.symm)⟩
    · rcases atag_one h2 e2 with ⟨rfl, rfl, k2⟩ | ⟨rfl, d, hl2, rfl, k2⟩
      · exact ⟨S, k2 S (setS_get hne).symm, h1⟩
      · refine ⟨setS S o2 d, k2 S (setS_get hne).symm, ?_⟩
        rw [setS_comm hne]
        exact k1 _ (setS_get hne.symm)
  · cases hk

abbrev Ent := Nat × Oper × Tag

def TRun (C : Cfg) (L : Lw) (mu : Bool) (ops : Array Oper) : List Ent → List AV → AS → List AV → AS → Prop
  | [], l, S, l', S' => l' = l ∧ S' = S
  | e :: rest, l, S, l', S' => ∃ x S1, atag C L mu ops e.2.1 l S = some (x, S1, e.2.2) ∧ TRun C L mu ops rest (aput l e.2.1.dst x) S1 l' S'

def okPair (ops : Array Oper) (p q : Ent) : Prop := p.2.1.apart ops q.2.1 = true ∧ (p.2.2.1 = true ∨ q.2.2.1 = true ∨ (p.2.2.2.1 = true ∧ q.2.2.2.1 = true) ∨ (isAlloc q.2.1.op = true ∧ p.2.2.2.2.1 = true) ∨ apartRW p.2.2.2.2.2 q.2.2.2.2.2 = true)

theorem TRun.swap (hL : LwOK C L) {mu : Bool} {ops : Array Oper} {p q : Ent} {rest : List Ent} {l l' : List AV} (h : TRun C L mu ops (p :: q :: rest) l S l' S') (ho : okPair ops p q) : TRun C L mu ops (q :: p :: rest) l S l' S' := by
  obtain ⟨x, S1, h1, y, S2, h2, h3⟩ := h
  obtain ⟨hap, hk⟩ := ho
  obtain ⟨a1, a2, a3⟩ := Oper.apart_spec hap
  have hq : atag C L mu ops q.2.1 (aput l p.2.1.dst x) S1 = atag C L mu ops q.2.1 l S1 := atag_congr fun t ht => aput_get fun e => a1 t e ht
  have hp : ∀ S y, atag C L mu ops p.2.1 (aput l q.2.1.dst y) S = atag C L mu ops p.2.1 l S := fun S y => atag_congr fun t ht => aput_get fun e => a3 t e ht
  rw [hq] at h2
  have hc := aput_comm (l := l) (x := x) (y := y) a2
  rw [hc] at h3
  rcases hk with hk | hk | ⟨k1, k2⟩ | ⟨k1, k2⟩ | hk
  · obtain ⟨rfl, hall⟩ := atag_pure h1 hk
    exact ⟨y, S2, h2, x, S2, (hp _ _).trans (hall S2), h3⟩
  · obtain ⟨rfl, hall⟩ := atag_pure h2 hk
    exact ⟨y, S, hall S, x, S2, (hp _ _).trans h1, h3⟩
  · have e1 := atag_same h1 k1
    subst e1
    have e2 := atag_same h2 k2
    subst e2
    exact ⟨y, S2, h2, x, S2, (hp _ _).trans h1, h3⟩
  · obtain ⟨rfl, hall⟩ := atag_stab hL h1 k2
    exact ⟨y, S2, h2, x, S2, (hp _ _).trans (hall S2 (atag_alloc k1 h2)), h3⟩
  · obtain ⟨S3, k1, k2⟩ := atag_rw hk h1 h2
    exact ⟨y, S3, k1, x, S2, (hp _ _).trans k2, h3⟩

theorem TRun.front (hL : LwOK C L) {mu : Bool} {ops : Array Oper} {p : Ent} {rest : List Ent} {l' : List AV} : ∀ (c1 : List Ent) {l : List AV} {S : AS}, TRun C L mu ops (c1 ++ p :: rest) l S l' S' → (∀ q ∈ c1, okPair ops q p) → TRun C L mu ops (p :: (c1 ++ rest)) l S l' S'
  | [], _, _, h, _ => h
  | q :: c1, l, S, h, hq => by
    obtain ⟨x, S1, h1, h2⟩ := h
    have h3 := TRun.front hL c1 h2 (fun q' hq' => hq q' (by simp [hq']))
    exact TRun.swap hL (p := q) (q := p) ⟨x, S1, h1, h3⟩ (hq q (by simp))

def ents : Nat → List Oper → List Tag → List Ent
  | k, o :: os, t :: ts => (k, o, t) :: ents (k + 1) os ts
  | _, _, _ => []

theorem aTags_run {mu : Bool} {ops : Array Oper} : ∀ (os : List Oper) (k : Nat) {l l' : List AV} {S S' : AS} {ts : List Tag}, aTags C L mu ops os l S = some (l', S', ts) → TRun C L mu ops (ents k os ts) l S l' S' ∧ ts.length = os.length
  | [], k, l, l', S, S', ts, h => by simp only [aTags] at h; cases h; exact ⟨⟨rfl, rfl⟩, rfl⟩
  | o :: os, k, l, l', S, S', ts, h => by
    simp only [aTags] at h
    split at h
    · rename_i x S1 t h1
      split at h
      · rename_i l2 S2 ts2 h2
        cases h
        obtain ⟨h3, h4⟩ := aTags_run os (k + 1) h2
        exact ⟨⟨x, S1, h1, h3⟩, by simp [h4]⟩
      · cases h
    · cases h

theorem ents_get : ∀ (os : List Oper) (ts : List Tag) (k m : Nat) (e : Ent), ts.length = os.length → ((ents k os ts)[m]? = some e ↔ ∃ o t, os[m]? = some o ∧ ts[m]? = some t ∧ e = (k + m, o, t))
  | [], [], k, m, e, _ => by simp [ents]
  | [], _ :: _, _, _, _, h => by simp at h
  | _ :: _, [], _, _, _, h => by simp at h
  | o :: os, t :: ts, k, 0, e, _ => by simp [ents, eq_comm]
  | o :: os, t :: ts, k, m + 1, e, h => by
    simp only [ents, List.getElem?_cons_succ]
    rw [ents_get os ts (k + 1) m e (by simpa using h)]
    simp only [show k + 1 + m = k + (m + 1) by omega]

theorem ents_len : ∀ (os : List Oper) (ts : List Tag) (k : Nat), ts.length = os.length → (ents k os ts).length = os.length
  | [], [], _, _ => rfl
  | [], _ :: _, _, h => by simp at h
  | _ :: _, [], _, h => by simp at h
  | _ :: os, _ :: ts, k, h => by simp [ents, ents_len os ts (k + 1) (by simpa using h)]

structure DInv (ops : Array Oper) (listed : Array Bool) (c : List Ent) : Prop where
  size : listed.size = ops.size
  mem : ∀ e ∈ c, ops[e.1]? = some e.2.1 ∧ listed.getD e.1 true = false
  all : ∀ i, i < ops.size → listed.getD i true = false → ∃ e ∈ c, e.1 = i
  pair : c.Pairwise fun p q => p.1 < q.1 ∧ (okPair ops p q ∨ areach ops ops.size q.1 p.1 = true)
  closed : ∀ j oj, ops[j]? = some oj → listed.getD j false = true → ∀ e ∈ oj.after, Region.binds .any e = true → listed.getD e.on false = true

theorem getD_two {listed : Array Bool} {i : Nat} (hi : i < listed.size) : listed.getD i true = listed.getD i false := by simp [Array.getD, hi]

theorem reach_listed {ops : Array Oper} {listed : Array Bool} (hc : ∀ j oj, ops[j]? = some oj → listed.getD j false = true → ∀ e ∈ oj.after, Region.binds .any e = true → listed.getD e.on false = true) :
    ∀ (k j i : Nat) (oj : Oper), ops[j]? = some oj → (∀ e ∈ oj.after, Region.binds .any e = true → listed.getD e.on false = true) → areach ops k j i = true → listed.getD i false = true
  | 0, _, _, _, _, _, h => by simp [areach] at h
  | k + 1, j, i, oj, hj, hall, h => by
    simp only [areach, hj, List.any_eq_true, Bool.and_eq_true, Bool.or_eq_true] at h
    obtain ⟨e, he, hb, h1⟩ := h
    have hl := hall e (by simpa using he) hb
    rcases h1 with h1 | h1
    · rw [Nat.eq_of_beq_eq_true h1] at hl; exact hl
    · cases ho : ops[e.on]? with
      | none => cases k <;> simp [areach, ho] at h1
      | some o2 => exact reach_listed hc k e.on i o2 ho (hc e.on o2 ho hl) h1

theorem SR.of_eq {S2 : AS} (h : SR B0 w0 E S w) (h1 : S2.objs = S.objs) (h2 : S2.ends = S.ends) : SR B0 w0 E S2 w :=
  { below := h.below, base := h.base, obj := by rw [h1]; exact h.obj, jlt := by rw [h1]; exact h.jlt, inj := fun o o' g a b c d => h.inj o o' g a b (by unfold AS.live at *; rw [← h1]; exact c) (by unfold AS.live at *; rw [← h1]; exact d),
    jb := h.jb, fzc := h.fzc, en := by rw [h2]; exact h.en, tok := h.tok, tinj := h.tinj }

theorem Low.eq_of_same {S1 : AS} (h : Low (amark S) S1) (hs : asame S S1 = true) : S1.objs = S.objs ∧ S1.ends = S.ends := by
  simp only [asame, akept, Bool.and_eq_true] at hs
  obtain ⟨⟨⟨h1, h2⟩, h3⟩, h4⟩ := hs
  have h1 := Nat.eq_of_beq_eq_true h1
  have h2 := Nat.eq_of_beq_eq_true h2
  have h3 := Nat.eq_of_beq_eq_true h3
  have h4 := Nat.eq_of_beq_eq_true h4
  constructor
  · apply List.ext_getElem?
    intro i
    by_cases hi : i < S.objs.length
    · exact h.objs i hi (by omega)
    · rw [List.getElem?_eq_none (by omega), List.getElem?_eq_none (by omega)]
  · apply List.ext_getElem?
    intro i
    by_cases hi : i < S.ends.length
    · exact h.ends i hi (by omega)
    · rw [List.getElem?_eq_none (by omega), List.getElem?_eq_none (by omega)]

theorem atag_step (hL : LwOK C L) {mu : Bool} {ops : Array Oper} {o : Oper} {l : List AV} {x : AV} {t : Tag} (h : atag C L mu ops o l S = some (x, S', t)) :
    ∃ S1, astep C L mu ops o l (amark S) = some (x, S1) ∧ S'.objs = S1.objs ∧ S'.ends = S1.ends ∧ Low S S' := by
  have h0 := h
  unfold atag at h
  cases hs : astep C L mu ops o l (amark S) with
  | none => rw [hs] at h; cases h
  | some q =>
    obtain ⟨x', S1⟩ := q
    rw [hs] at h
    dsimp only at h
    have hl := astep_low hL hs
    split at h
    · rename_i hc
      cases h
      simp only [Bool.or_eq_true] at hc
      rcases hc with hc | hc
      · -- pure: the store is as marked
        refine ⟨S1, rfl, ?_⟩
        cases hw : awanted ops l o with
        | none => unfold astep at hs; rw [hw] at hs; cases hs
        | some b =>
          unfold apu at hc
          rw [hw] at hc
          cases b with
          | false => unfold astep at hs; rw [hw] at hs; cases hs; exact ⟨rfl, rfl, Low.refl _⟩
          | true =>
            dsimp only at hc
            unfold astep at hs; rw [hw] at hs
            dsimp only at hs
            have hnc : adoOp C L mu o (aeval l) (amark S) = aexec C.P mu (amark S) (aeval l) o.op := by
              unfold adoOp
              split
              · rename_i c hc'; rw [hc'] at hc; cases hc
              · rfl
            rw [hnc] at hs
            rw [(aexec_pure hc hs).1]
            exact ⟨rfl, rfl, Low.refl _⟩
      · obtain ⟨h1, h2⟩ := hl.eq_of_same hc
        exact ⟨S1, rfl, h1.symm, h2.symm, Low.refl _⟩
    · cases h
      refine ⟨S1, rfl, rfl, rfl, ?_⟩
      exact ⟨hl.len, hl.tlen, Nat.min_le_left _ _, Nat.min_le_left _ _, fun o ho hlo => hl.objs o ho (Nat.lt_of_lt_of_le hlo (Nat.min_le_right _ _)), fun t ht hlt => hl.ends t ht (Nat.lt_of_lt_of_le hlt (Nat.min_le_right _ _))⟩

section
variable {r : Option Nat} {Q : Exit → Act → World → Prop}

theorem draw_any (hN : NamesOK C.P) (hL : LwOK C L) {mu : Bool} {ops : Array Oper} (hb : aback ops = true) {l' : List AV} : ∀ (fuel : Nat) {listed : Array Bool} {c : List Ent} {l : List AV} {S : AS} {act : Act} {w : World} {E : Env},
    c.length ≤ fuel → DInv ops listed c → TRun C L mu ops c l S l' S' → SR B0 w0 E S w → Pair (VR E w) l act.tmps.toList →
    (∀ act' w' E', SR B0 w0 E' S' w' → Step S.objs.length S.ends.length E w E' w' → Low S S' → Pair (VR E' w') l' act'.tmps.toList → act'.defers = act.defers → Q .normal act' w') →
    wpAnyIn (fenceOf r) 0 C.P .any ops Q fuel listed act w := by
  have ready_nil : ∀ {listed : Array Bool} {c : List Ent}, DInv ops listed c → Region.ready .any ops listed = [] → c = [] := by
    intro listed c hd hr
    cases c with
    | nil => rfl
    | cons e c =>
      obtain ⟨ho, hl⟩ := hd.mem e (by simp)
      have hlt : e.1 < ops.size := (Array.getElem?_eq_some_iff.1 ho).1
      have : e.1 ∈ Region.ready .any ops listed := by
        refine mem_ready.2 ⟨hl, e.2.1, ho, fun x hx hbx => ?_⟩
        have hback := List.all_eq_true.1 hb e.1 (by simpa using hlt)
        rw [ho] at hback
        have h1 := List.all_eq_true.1 hback x (by simpa using hx)
        rw [hbx] at h1
        have h2 : x.on < e.1 := by simpa using h1
        cases hq : listed.getD x.on true with
        | true => rw [← getD_two (by rw [hd.size]; omega)]; exact hq
        | false =>
          obtain ⟨e', he', hi⟩ := hd.all x.on (by omega) hq
          rcases List.mem_cons.1 he' with rfl | he'
          · omega
          · have := (List.pairwise_cons.1 hd.pair).1 e' he'
            omega
      rw [hr] at this
      cases this
  have ready_sub : ∀ {listed : Array Bool} {c : List Ent} {i : Nat}, DInv ops listed c → i ∈ Region.ready .any ops listed → ∃ e ∈ c, e.1 = i := by
    intro listed c i hd hi
    obtain ⟨h1, o, ho, _⟩ := mem_ready.1 hi
    exact hd.all i (Array.getElem?_eq_some_iff.1 ho).1 h1
  intro fuel
  induction fuel with
  | zero =>
    intro listed c l S act w E hlen hd ht h hp hQ
    have hc : c = [] := List.length_eq_zero_iff.1 (by omega)
    subst hc
    refine ⟨?_, ?_⟩
    · cases hr : Region.ready .any ops listed with
      | nil => rfl
      | cons i rs =>
        obtain ⟨e, he, _⟩ := ready_sub hd (show i ∈ Region.ready .any ops listed by rw [hr]; simp)
        cases he
    · obtain ⟨rfl, rfl⟩ := ht
      exact hQ act w E h (Step.refl _ _ _ _) (Low.refl _) hp rfl
  | succ fuel ih =>
    intro listed c l S act w E hlen hd ht h hp hQ
    refine ⟨fun hr => ?_, fun i hi => ?_⟩
    · have hc := ready_nil hd hr
      subst hc
      obtain ⟨rfl, rfl⟩ := ht
      exact hQ act w E h (Step.refl _ _ _ _) (Low.refl _) hp rfl
    · obtain ⟨e, he, rfl⟩ := ready_sub hd hi
      obtain ⟨hl0, o', ho', hdeps⟩ := mem_ready.1 hi
      obtain ⟨ho, hl⟩ := hd.mem e he
      have : o' = e.2.1 := Option.some.inj (ho'.symm.trans ho)
      subst this
      have hlt : e.1 < ops.size := (Array.getElem?_eq_some_iff.1 ho).1
      obtain ⟨c1, c2, rfl⟩ := List.append_of_mem he
      have hpw := hd.pair
      rw [List.pairwise_append] at hpw
      obtain ⟨p1, p2, p3⟩ := hpw
      have hfront : ∀ q ∈ c1, okPair ops q e := fun q hq => by
        rcases (p3 q hq e (by simp)).2 with k | k
        · exact k
        · have := reach_listed hd.closed ops.size e.1 q.1 e.2.1 ho hdeps k
          obtain ⟨hoq, hlq⟩ := hd.mem q (by simp [hq])
          have hltq : q.1 < ops.size := (Array.getElem?_eq_some_iff.1 hoq).1
          rw [getD_two (by rw [hd.size]; omega), this] at hlq
          cases hlq
      obtain ⟨x, S1, h1, h2⟩ := TRun.front hL c1 ht hfront
      obtain ⟨S1', k1, k2, k3, k4⟩ := atag_step hL h1
      have hd' : DInv ops (listed.setIfInBounds e.1 true) (c1 ++ c2) := by
        refine ⟨by simp [hd.size], fun q hq => ?_, fun j hj hlj => ?_, ?_, ?_⟩
        · have hq' : q ∈ c1 ++ e :: c2 := by simp only [List.mem_append, List.mem_cons] at hq ⊢; rcases hq with hq | hq <;> simp [hq]
          obtain ⟨a, b⟩ := hd.mem q hq'
          refine ⟨a, ?_⟩
          have hne : e.1 ≠ q.1 := by
            rcases List.mem_append.1 hq with hq | hq
            · have := (p3 q hq e (by simp)).1; omega
            · have := (List.pairwise_cons.1 p2).1 q hq; omega
          rw [getD_set_ne true hne]; exact b
        · have hne : e.1 ≠ j := fun q => by
            subst q
            simp [Array.getD, hd.size, hlt] at hlj
          rw [getD_set_ne true hne] at hlj
          obtain ⟨q, hq, rfl⟩ := hd.all j hj hlj
          refine ⟨q, ?_, rfl⟩
          simp only [List.mem_append, List.mem_cons] at hq ⊢
          rcases hq with hq | rfl | hq
          · exact .inl hq
          · exact absurd rfl hne
          · exact .inr hq
        · exact hd.pair.sublist (List.Sublist.append (List.Sublist.refl _) (List.sublist_cons_self _ _))
        · intro j oj hj hlj x hx hbx
          by_cases hij : e.1 = j
          · subst hij
            have : oj = e.2.1 := Option.some.inj (hj.symm.trans ho)
            subst this
            exact getD_set_true (hdeps x hx hbx)
          · rw [getD_set_ne false hij] at hlj
            exact getD_set_true (hd.closed j oj hj hlj x hx hbx)
      unfold wpOpIn
      rw [ho]
      refine astep_sound hN hL (h.of_eq (S2 := amark S) rfl rfl) hp k1 fun y E' w' q2 q3 q4 => ?_
      have q2' : SR B0 w0 E' S1 w' := q2.of_eq k2 k3
      have hp' : Pair (VR E' w') (aput l e.2.1.dst x) (act.put e.2.1.dst y).tmps.toList := by
        cases hdst : e.2.1.dst with
        | none => exact hp.ext q3.toExt
        | some d => exact (hp.ext q3.toExt).put q4 d
      have q3' : Step S.objs.length S.ends.length E w E' w' := q3
      refine ih (by simp only [List.length_append, List.length_cons] at hlen ⊢; omega) hd' h2 q2' hp' fun act' w'' E'' r1 r2 r3 r4 r5 => hQ act' w'' E'' r1 (q3'.trans r2 k4.len k4.tlen) (k4.trans r3) r4 (r5.trans ?_)
      cases e.2.1.dst <;> rfl

theorem getD_replicate_false' (m j : Nat) : (Array.replicate m false).getD j false = false := by
  rcases Nat.lt_or_ge j m with h | h
  · simp [h]
  · simp [h]

theorem grownBy_drew (w : World) : w.grownBy w.drew none := ⟨rfl, rfl, rfl, Nat.le_refl _, fun _ _ _ => rfl⟩

theorem aDraw_sound (hN : NamesOK C.P) (hL : LwOK C L) (hm : C.P.follows .mixedOrders = true) {mu : Bool} {ops : Array Oper} {id : Nat} {l l' : List AV} {act : Act} (hx : aDraw C L mu ops l S = some (l', S')) (h : SR B0 w0 E S w) (hp : Pair (VR E w) l act.tmps.toList)
    (hQ : ∀ act' w' E', SR B0 w0 E' S' w' → Step S.objs.length S.ends.length E w E' w' → Low S S' → Pair (VR E' w') l' act'.tmps.toList → act'.defers = act.defers → Q .normal act' w') :
    (Code.region id ops true).wpIn (fenceOf r) 0 C.P Q act w := by
  refine wpIn_region_any hm ?_
  rw [World.drew_eq]
  obtain ⟨k1, k2⟩ := h.later (grownBy_drew w)
  unfold aDraw at hx
  split at hx
  · rename_i l2 S2 ts ht
    split at hx
    · rename_i hc
      cases hx
      simp only [Bool.and_eq_true] at hc
      obtain ⟨⟨hc1, hc2⟩, hc3⟩ := hc
      obtain ⟨t1, t2⟩ := aTags_run ops.toList 0 ht
      refine draw_any hN hL hc2 ops.size (c := ents 0 ops.toList ts) ?_ ?_ t1 k1 (hp.ext k2.toExt) fun act' w' E' r1 r2 r3 r4 r5 => hQ act' w' E' r1 (k2.trans r2 (Nat.le_refl _) (Nat.le_refl _)) r3 r4 r5
      · rw [ents_len _ _ _ t2]; simp
      · refine ⟨by simp, fun e he => ?_, fun i hi _ => ?_, ?_, fun j oj _ hl => ?_⟩
        · obtain ⟨m, hm'⟩ := List.getElem?_of_mem he
          obtain ⟨o, t, a, b, rfl⟩ := (ents_get _ _ _ _ _ t2).1 hm'
          have hlt : m < ops.size := by simpa using (List.getElem?_eq_some_iff.1 a).1
          refine ⟨by simpa using a, by simp [hlt]⟩
        · have h1 : ops.toList[i]? = some ops[i] := by simp [hi]
          have h2 : i < ts.length := by rw [t2]; simpa using hi
          refine ⟨(0 + i, ops[i], ts[i]), List.mem_of_getElem? ((ents_get _ _ _ i _ t2).2 ⟨_, _, h1, by simp [h2], rfl⟩), by simp⟩
        · rw [List.pairwise_iff_getElem]
          intro i j hi hj hij
          have e1 := List.getElem?_eq_getElem hi
          have e2 := List.getElem?_eq_getElem hj
          obtain ⟨oi, ti, a1, b1, c1⟩ := (ents_get _ _ _ _ _ t2).1 e1
          obtain ⟨oj, tj, a2, b2, c2⟩ := (ents_get _ _ _ _ _ t2).1 e2
          rw [c1, c2]
          refine ⟨by simpa using hij, ?_⟩
          have hlt : j < ops.size := by simpa using (List.getElem?_eq_some_iff.1 a2).1
          have hpr := List.all_eq_true.1 (List.all_eq_true.1 hc3 j (by simpa using hlt)) i (by simpa using hij)
          have a1' : ops[i]? = some oi := by simpa using a1
          have a2' : ops[j]? = some oj := by simpa using a2
          rw [a1', a2', b1, b2] at hpr
          simp only [Bool.or_eq_true, Bool.and_eq_true] at hpr
          rcases hpr with ⟨q1, q2⟩ | q
          · left
            refine ⟨q1, ?_⟩
            rcases q2 with (((q2 | q2) | q2) | q2) | q2
            · exact .inl q2
            · exact .inr (.inl q2)
            · exact .inr (.inr (.inl q2))
            · exact .inr (.inr (.inr (.inl q2)))
            · exact .inr (.inr (.inr (.inr q2)))
          · right; simpa using q
        · rw [show (Array.replicate ops.size false).getD j false = false from getD_replicate_false' ops.size j] at hl
          cases hl
    · cases hx
  · cases hx

end
end Go.AM
