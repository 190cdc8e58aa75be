/- The abstract machine, nineteenth text: a region that draws its order: every order that it may take does what the order of the text does. -/
import Derived.Test.YtlfobfhklmndkaaGreatDoorA17
namespace Go.AM
open Go.RowKit Go.MapKept

variable {B0 : Nat} {w0 w : World} {E : Env} {S S' : AS} {P : Program} {C : Cfg} {L : Lw}

theorem pairs_congr {ρ ρ' : Operand → AV} (ps : Array (Nat × Operand)) (h : ∀ x ∈ (ps.toList.map (·.2)).toArray, ρ x = ρ' x) : (ps.toList.map fun p => (p.1, ρ p.2)) = ps.toList.map fun p => (p.1, ρ' p.2) :=
  List.map_congr_left fun p hp => by rw [h p.2 (by simp; exact ⟨p.1, by simpa using hp⟩)]

theorem opt_congr {ρ ρ' : Operand → AV} (o : Option Operand) (h : ∀ x ∈ o.toArray, ρ x = ρ' x) : o.map ρ = o.map ρ' := by
  cases o with
  | none => rfl
  | some x => simp [h x (by simp)]

theorem aexec_congr {mu : Bool} {ρ ρ' : Operand → AV} (op : Op) (h : ∀ x ∈ op.operands, ρ x = ρ' x) : aexec P mu S ρ op = aexec P mu S ρ' op := by
  cases op with
  | build t ps => simp only [aexec]; rw [pairs_congr ps (fun x hx => h x (by simpa [Op.operands] using hx))]
  | buildSlice t n ps => simp only [aexec]; rw [pairs_congr ps (fun x hx => h x (by simpa [Op.operands] using hx))]
  | makeFunc f a b =>
    have h1 : a.toList.map ρ = a.toList.map ρ' := List.map_congr_left fun x hx => h x (by simp [Op.operands]; exact .inl (by simpa using hx))
    have h2 : b.toList.map ρ = b.toList.map ρ' := List.map_congr_left fun x hx => h x (by simp [Op.operands]; exact .inr (by simpa using hx))
    simp only [aexec, h1, h2]
  | slice t x lo hi mx =>
    have h1 := h x (by simp [Op.operands])
    have h2 := opt_congr lo (fun x hx => h x (by simp [Op.operands] at hx ⊢; simp [hx]))
    have h3 := opt_congr hi (fun x hx => h x (by simp [Op.operands] at hx ⊢; simp [hx]))
    have h4 := opt_congr mx (fun x hx => h x (by simp [Op.operands] at hx ⊢; simp [hx]))
    simp only [aexec, h1, h2, h3, h4]
  | makeMap t o => cases o <;> rfl
  | move x | assign x | box e x | load t x | nilCheck x | unOp a b x | convert a b x | fieldAddr a x b | field a x b | extract x a | makeInterface a x =>
    have h1 := h x (by simp [Op.operands])
    simp only [aexec, h1]
  | pick c a b =>
    have h1 := h c (by simp [Op.operands]); have h2 := h a (by simp [Op.operands]); have h3 := h b (by simp [Op.operands])
    simp only [aexec, h1, h2, h3]
  | insert t c a b =>
    have h1 := h c (by simp [Op.operands]); have h2 := h a (by simp [Op.operands]); have h3 := h b (by simp [Op.operands])
    simp only [aexec, h1, h2, h3]
  | range t x | next x t =>
    have h1 := h x (by simp [Op.operands])
    simp only [aexec, h1]
  | mapUpdate t c a b =>
    have h1 := h c (by simp [Op.operands]); have h2 := h a (by simp [Op.operands]); have h3 := h b (by simp [Op.operands])
    simp only [aexec, h1, h2, h3]
  | store t a b | binOp t a' a b c | makeSlice t a b | indexAddr t a b | index t a b | lookup t a b c =>
    have h1 := h a (by simp [Op.operands]); have h2 := h b (by simp [Op.operands])
    simp only [aexec, h1, h2]
  | _ => rfl

theorem isPure_congr {mu : Bool} {ρ ρ' : Operand → AV} (op : Op) (h : ∀ x ∈ op.operands, ρ x = ρ' x) : isPure mu ρ op = isPure mu ρ' op := by
  cases op with
  | binOp t a' a b c => have h1 := h a (by simp [Op.operands]); have h2 := h b (by simp [Op.operands]); simp only [isPure, h1, h2]
  | load t a => have h1 := h a (by simp [Op.operands]); simp only [isPure, h1]
  | convert s d a => have h1 := h a (by simp [Op.operands]); simp only [isPure, h1]
  | _ => rfl

theorem aexec_pure {mu : Bool} {ρ : Operand → AV} {op : Op} {x : AV} (hp : isPure mu ρ op = true) (hx : aexec P mu S ρ op = some (x, S')) : S' = S ∧ ∀ S2, aexec P mu S2 ρ op = some (x, S2) := by
  have same : ∀ {r : Option AV}, (r.map fun x => (x, S)) = some (x, S') → S' = S ∧ ∀ S2 : AS, (r.map fun x => (x, S2)) = some (x, S2) := by
    intro r hq
    obtain ⟨a, ha, he⟩ := Option.map_eq_some_iff.1 hq
    cases he
    exact ⟨rfl, fun S2 => by rw [ha]; rfl⟩
  cases op with
  | move y => simp only [aexec, Option.some.injEq, Prod.mk.injEq] at hx ⊢; exact ⟨hx.2.symm, fun _ => ⟨hx.1, trivial⟩⟩
  | assign y => simp only [aexec, Option.some.injEq, Prod.mk.injEq] at hx ⊢; exact ⟨hx.2.symm, fun _ => ⟨hx.1, trivial⟩⟩
  | makeFunc f a b => simp only [aexec, Option.some.injEq, Prod.mk.injEq] at hx ⊢; exact ⟨hx.2.symm, fun _ => ⟨hx.1, trivial⟩⟩
  | pick c a b =>
    simp only [aexec] at hx ⊢
    split at hx
    · cases hx; exact ⟨rfl, fun _ => by simp [*]⟩
    · cases hx
  | build t ps => exact same hx
  | fieldAddr t y f => exact same hx
  | field t y f => exact same hx
  | indexAddr t y f => exact same hx
  | index t y f => exact same hx
  | convert s d y =>
    have hq : ∀ S2, astr P S2 s d (ρ y) = astr P S s d (ρ y) := fun S2 => by
      have hr : rowsOf S2 1 (ρ y) = rowsOf S 1 (ρ y) := by
        simp only [isPure] at hp
        cases hy : ρ y with
        | slc _ _ _ _ _ => rw [hy] at hp; cases hp
        | v z => unfold rowsOf; split <;> first | rfl | contradiction
        | _ => rfl
      unfold astr
      rw [hr]
    simp only [aexec] at hx ⊢
    obtain ⟨h1, h2⟩ := same hx
    refine ⟨h1, fun S2 => ?_⟩
    rw [hq S2]
    exact h2 S2
  | unOp u t y => exact same hx
  | extract y i => exact same hx
  | slice t y lo hi mx => exact same hx
  | nilCheck y =>
    simp only [aexec] at hx ⊢
    split at hx
    · cases hx; exact ⟨rfl, fun _ => by simp [*]⟩
    · cases hx; exact ⟨rfl, fun _ => by simp [*]⟩
    · cases hx
  | makeInterface t y =>
    simp only [aexec] at hx ⊢
    split at hx
    · cases hx
    · cases hx
    · rename_i h1 h2
      cases hx
      exact ⟨rfl, fun S2 => rfl⟩
  | binOp op t a b t2 =>
    have key : ∀ S2, abin P S2 op t (ρ a) (ρ b) = abin P S op t (ρ a) (ρ b) := by
      intro S2
      have heq : ∀ u v, (match u, v with | .ptr _ _, .ptr _ _ => false | _, _ => true) = true → aeq P S2 t u v = aeq P S t u v := by
        intro u v huv
        unfold aeq
        split
        · cases u <;> cases v <;> first | rfl | cases huv
        · rfl
        · rfl
        · rfl
        · rfl
      have h2 := heq _ _ hp
      unfold abin
      rw [h2]
    have key : ∀ S2, abinI P S2 (constOp a || constOp b) op t (ρ a) (ρ b) = abinI P S (constOp a || constOp b) op t (ρ a) (ρ b) := fun S2 => by unfold abinI; rw [key S2]
    obtain ⟨r, hr⟩ : ∃ r, abinI P S (constOp a || constOp b) op t (ρ a) (ρ b) = r := ⟨_, rfl⟩
    simp only [aexec, hr] at hx
    obtain ⟨h1, h2⟩ := same hx
    exact ⟨h1, fun S2 => by simp only [aexec, key S2, hr]; exact h2 S2⟩
  | buildSlice t n ps =>
    simp only [isPure, Bool.not_eq_true'] at hp
    subst hp
    simp only [aexec] at hx ⊢
    unfold abuildSlice at hx ⊢
    obtain ⟨p, hp, hx⟩ := Option.bind_eq_some_iff.1 hx
    obtain ⟨z, hz, hx⟩ := Option.bind_eq_some_iff.1 hx
    split at hx
    · rename_i hc
      obtain ⟨cs, hcs, hx⟩ := Option.map_eq_some_iff.1 hx
      simp only [Bool.false_eq_true, if_false, Prod.mk.injEq] at hx
      obtain ⟨rfl, rfl⟩ := hx
      refine ⟨rfl, fun S2 => ?_⟩
      rw [hp]
      simp only [Option.bind_some, hz, if_pos hc, hcs, Option.map_some, Bool.false_eq_true, if_false]
    · cases hx
  | load t a =>
    simp only [isPure] at hp
    split at hp
    · rename_i row off hrow
      have : ∀ S2, aload P S2 t (ρ a) = aload P S t (ρ a) := fun S2 => by rw [hrow]; rfl
      obtain ⟨r, hr⟩ : ∃ r, aload P S t (ρ a) = r := ⟨_, rfl⟩
      simp only [aexec, hr] at hx
      obtain ⟨h1, h2⟩ := same hx
      exact ⟨h1, fun S2 => by simp only [aexec, this S2, hr]; exact h2 S2⟩
    · cases hp
  | _ => cases hp

/-! ### What an operation looks at -/
theorem aeval_congr {l l' : List AV} {ops : Array Oper} {o : Oper} (h : ∀ t ∈ o.looksAt ops, l[t]? = l'[t]?) : ∀ x ∈ o.op.operands, aeval l x = aeval l' x := by
  intro x hx
  cases x with
  | tmp t =>
    simp only [aeval]
    rw [h t (List.mem_append_left _ (List.mem_filterMap.2 ⟨.tmp t, by simpa using hx, rfl⟩))]
  | _ => rfl

theorem awanted_congr {l l' : List AV} {ops : Array Oper} {o : Oper} (h : ∀ t ∈ o.looksAt ops, l[t]? = l'[t]?) : awanted ops l o = awanted ops l' o := by
  unfold awanted
  cases hg : o.guard with
  | none => rfl
  | some p =>
    obtain ⟨j, b⟩ := p
    simp only
    have : aslot ops l j = aslot ops l' j := by
      unfold aslot
      cases hd : (ops[j]?).bind (·.dst) with
      | none => rfl
      | some d =>
        simp only [Option.bind_some]
        rw [h d (List.mem_append_right _ (by rw [hg]; simp [hd]))]
    rw [this]

theorem acallOp_congr {mu : Bool} {ty : TypeId} {c : Call} {ρ ρ' : Operand → AV} (h : ∀ x ∈ c.operands, ρ x = ρ' x) : acallOp C L mu ty c ρ S = acallOp C L mu ty c ρ' S := by
  have h1 : c.args.toList.map ρ = c.args.toList.map ρ' := List.map_congr_left fun x hx => h x (by unfold Call.operands; simp; exact .inr (by simpa using hx))
  unfold acallOp
  cases hc : c.callee with
  | builtin b => simp only [h1]
  | value f => simp only [h1, h f (by unfold Call.operands; simp [hc])]
  | invoke r m => rfl

theorem adoOp_congr {mu : Bool} {o : Oper} {ρ ρ' : Operand → AV} (h : ∀ x ∈ o.op.operands, ρ x = ρ' x) : adoOp C L mu o ρ S = adoOp C L mu o ρ' S := by
  unfold adoOp
  split
  · rename_i c hc; exact acallOp_congr (fun x hx => h x (by rw [hc]; exact hx))
  · exact aexec_congr _ h

theorem astep_congr {mu : Bool} {ops : Array Oper} {o : Oper} {l l' : List AV} (h : ∀ t ∈ o.looksAt ops, l[t]? = l'[t]?) : astep C L mu ops o l S = astep C L mu ops o l' S := by
  unfold astep
  rw [awanted_congr h]
  split
  · exact adoOp_congr (aeval_congr h)
  · rfl
  · rfl

theorem stabOp_congr {o : Oper} {ρ ρ' : Operand → AV} (h : ∀ x ∈ o.op.operands, ρ x = ρ' x) : stabOp C ρ o = stabOp C ρ' o := by
  unfold stabOp
  split
  · rfl
  · rename_i c ho
    split
    · rename_i f hc
      have := h f (by rw [ho]; simp [Op.operands, Call.operands, hc])
      rw [this]
    · rfl
  · rfl

theorem rwOf_congr {ops : Array Oper} {o : Oper} {l l' : List AV} (h : ∀ t ∈ o.looksAt ops, l[t]? = l'[t]?) : rwOf ops l o = rwOf ops l' o := by
  have ha := aeval_congr h
  unfold rwOf
  rw [awanted_congr h]
  split
  · split
    · rename_i T a ho; rw [ha a (by rw [ho]; simp [Op.operands])]
    · rename_i T a v ho; rw [ha a (by rw [ho]; simp [Op.operands])]
    · rfl
  · rfl

theorem atag_congr {mu : Bool} {ops : Array Oper} {o : Oper} {l l' : List AV} (h : ∀ t ∈ o.looksAt ops, l[t]? = l'[t]?) : atag C L mu ops o l S = atag C L mu ops o l' S := by
  unfold atag
  rw [astep_congr h]
  unfold apu
  rw [awanted_congr h, isPure_congr _ (aeval_congr h), stabOp_congr (aeval_congr h), rwOf_congr h]

theorem aput_get {l : List AV} {d : Option Tmp} {x : AV} {t : Nat} (h : d ≠ some t) : (aput l d x)[t]? = l[t]? := by
  cases d with
  | none => rfl
  | some d => exact List.getElem?_set_ne (fun e => h (by rw [e]))

theorem aput_comm {l : List AV} {d e : Option Tmp} {x y : AV} (h : ∀ t, d = some t → e ≠ some t) : aput (aput l d x) e y = aput (aput l e y) d x := by
  cases d with
  | none => rfl
  | some d =>
    cases e with
    | none => rfl
    | some e => exact List.set_comm _ _ (fun q => h d rfl (by rw [q]))

theorem amark_objs : (amark S).objs = S.objs := rfl

theorem atag_pure {mu : Bool} {ops : Array Oper} {o : Oper} {l : List AV} {x : AV} {t : Tag} (h : atag C L mu ops o l S = some (x, S', t)) (ht : t.1 = true) : S' = S ∧ ∀ S2, atag C L mu ops o l S2 = some (x, S2, t) := by
  unfold atag at h ⊢
  cases hs : astep C L mu ops o l (amark S) with
  | none => rw [hs] at h; cases h
  | some q =>
    obtain ⟨x', S1⟩ := q
    rw [hs] at h
    dsimp only at h
    cases hw : awanted ops l o with
    | none => unfold astep at hs; rw [hw] at hs; cases hs
    | some b =>
      cases b with
      | false =>
        have hpu : apu mu ops o l = true := by unfold apu; rw [hw]
        have hs2 : ∀ S2, astep C L mu ops o l (amark S2) = some (undefA, amark S2) := fun S2 => by unfold astep; rw [hw]
        rw [hs2] at hs
        cases hs
        simp only [hpu, Bool.true_or, if_true, Option.some.injEq, Prod.mk.injEq] at h
        obtain ⟨rfl, rfl, rfl⟩ := h
        refine ⟨rfl, fun S2 => ?_⟩
        rw [hs2]; simp [hpu]
      | true =>
        cases hpu : apu mu ops o l with
        | false =>
          rw [hpu] at h
          split at h
          · cases h; cases ht
          · cases h; cases ht
        | true =>
          have hp : isPure mu (aeval l) o.op = true := by unfold apu at hpu; rw [hw] at hpu; exact hpu
          simp only [hpu, Bool.true_or, if_true, Option.some.injEq, Prod.mk.injEq] at h
          obtain ⟨rfl, rfl, rfl⟩ := h
          refine ⟨rfl, fun S2 => ?_⟩
          unfold astep at hs
          rw [hw] at hs
          have hnc : ∀ S, adoOp C L mu o (aeval l) S = aexec C.P mu S (aeval l) o.op := fun S => by
            unfold adoOp
            split
            · rename_i c hc; rw [hc] at hp; cases hp
            · rfl
          dsimp only at hs
          rw [hnc] at hs
          have h2 := (aexec_pure hp hs).2 (amark S2)
          have : astep C L mu ops o l (amark S2) = some (x', amark S2) := by unfold astep; rw [hw]; dsimp only; rw [hnc]; exact h2
          rw [this]; simp

theorem atag_same {mu : Bool} {ops : Array Oper} {o : Oper} {l : List AV} {x : AV} {t : Tag} (h : atag C L mu ops o l S = some (x, S', t)) (ht : t.2.1 = true) : S' = S := by
  unfold atag at h
  split at h
  · split at h
    · cases h; rfl
    · cases h; cases ht
  · cases h

theorem asame_mark' (S : AS) : asame S (amark S) = true := by simp [asame, akept, amark]

theorem atag_stab (hL : LwOK C L) {mu : Bool} {ops : Array Oper} {o : Oper} {l : List AV} {x : AV} {t : Tag} (h : atag C L mu ops o l S = some (x, S', t)) (ht : t.2.2.1 = true) : S' = S ∧ ∀ S2 : AS, (∃ e, S2.objs = S.objs ++ e) → atag C L mu ops o l S2 = some (x, S2, t) := by
  unfold atag at h ⊢
  cases hs : astep C L mu ops o l (amark S) with
  | none => rw [hs] at h; cases h
  | some q =>
    obtain ⟨x', S1⟩ := q
    rw [hs] at h
    dsimp only at h
    split at h
    · simp only [Option.some.injEq, Prod.mk.injEq] at h
      obtain ⟨rfl, rfl, rfl⟩ := h
      refine ⟨rfl, fun S2 he => ?_⟩
      dsimp only at ht
      have key : astep C L mu ops o l (amark S2) = some (x', amark S2) := by
        unfold astep at hs ⊢
        cases hw : awanted ops l o with
        | none => rw [hw] at hs; cases hs
        | some b =>
          rw [hw] at hs
          cases b with
          | false => dsimp only at hs ⊢; cases hs; rfl
          | true =>
            dsimp only at hs ⊢
            unfold stabOp at ht
            split at ht
            · rename_i T a ho
              unfold adoOp at hs ⊢
              rw [ho] at hs ⊢
              dsimp only at hs ⊢
              simp only [aexec] at hs ⊢
              obtain ⟨y, hy, hpq⟩ := Option.map_eq_some_iff.1 hs
              cases hpq
              refine Option.map_eq_some_iff.2 ⟨_, ?_, rfl⟩
              obtain ⟨e, he⟩ := he
              unfold aload at hy ⊢
              split at hy
              · obtain ⟨p, hp, hy⟩ := Option.bind_eq_some_iff.1 hy
                refine Option.bind_eq_some_iff.2 ⟨p, ?_, hy⟩
                unfold AS.cellsAt at hp ⊢
                have e1 : (amark S2).objs = S2.objs := rfl
                have e2 : (amark S).objs = S.objs := rfl
                rw [e1, he]
                rw [e2] at hp
                split at hp
                · rename_i ll TT hq
                  have hlt := (List.getElem?_eq_some_iff.1 hq).1
                  rw [List.getElem?_append_left hlt, hq]
                  exact hp
                · cases hp
              · exact hy
              · cases hy
            · rename_i c ho
              unfold adoOp at hs ⊢
              rw [ho] at hs ⊢
              dsimp only at hs ⊢
              unfold acallOp at hs ⊢
              split at ht
              · rename_i f hc
                rw [hc] at hs ⊢
                dsimp only at hs ⊢
                split at ht
                · rename_i g first caps hv
                  rw [hv] at hs ⊢
                  dsimp only at hs ⊢
                  split at ht
                  · rename_i e hE
                    rw [hE] at hs
                    dsimp only at hs ⊢
                    obtain ⟨vs, hvs, hs1⟩ := Option.bind_eq_some_iff.1 hs
                    obtain ⟨y, hy, hs2⟩ := Option.bind_eq_some_iff.1 hs1
                    obtain ⟨x2, hx2, hs3⟩ := Option.map_eq_some_iff.1 hs2
                    cases hs3
                    exact Option.bind_eq_some_iff.2 ⟨vs, hvs, Option.bind_eq_some_iff.2 ⟨y, hy, Option.map_eq_some_iff.2 ⟨_, hx2, rfl⟩⟩⟩
                  rename_i hE
                  rw [hE] at hs
                  dsimp only at hs ⊢
                  split at ht
                  · rename_i hX
                    obtain ⟨_, h2⟩ := hL.st hX ht hs
                    exact h2 (amark S2) he
                  · cases ht
                · cases ht
              · cases ht
            · cases ht
      rw [key]
      simp only [asame_mark', Bool.or_true, if_true]
    · cases h; cases ht

theorem atag_alloc {mu : Bool} {ops : Array Oper} {o : Oper} {l : List AV} {x : AV} {t : Tag} (ha : isAlloc o.op = true) (h : atag C L mu ops o l S = some (x, S', t)) : ∃ e, S'.objs = S.objs ++ e := by
  unfold isAlloc at ha
  split at ha
  · rename_i T ho
    unfold atag at h
    split at h
    · rename_i y S1 hs
      have hS1 : ∃ e, S1.objs = S.objs ++ e := by
        unfold astep at hs
        split at hs
        · unfold adoOp at hs
          rw [ho] at hs
          dsimp only at hs
          simp only [aexec, Option.map_eq_some_iff, Prod.mk.injEq] at hs
          obtain ⟨z, _, _, rfl⟩ := hs
          exact ⟨_, rfl⟩
        · cases hs; exact ⟨[], by simp [amark]⟩
        · cases hs
      split at h
      · cases h; exact ⟨[], by simp⟩
      · cases h; exact hS1
    · cases h
  · cases ha

def setS (S : AS) (o : Nat) (ob : AObj) : AS := aunmark S ((amark S).set o ob)

theorem asame_set {S : AS} {o : Nat} {ob : AObj} (h : o < S.objs.length) : asame S ((amark S).set o ob) = false := by
  have : Nat.beq (min S.objs.length o) S.objs.length = false := by
    have e : min S.objs.length o = o := Nat.min_eq_right (Nat.le_of_lt h)
    rw [e]
    cases hb : Nat.beq o S.objs.length with
    | false => rfl
    | true => have := Nat.eq_of_beq_eq_true hb; omega
  simp [asame, akept, amark, AS.set, this]

/-- A step that reads or writes one object is told by what stands there. -/
theorem atag_one {mu : Bool} {ops : Array Oper} {o : Oper} {l : List AV} {x : AV} {t : Tag} {b : Bool} {ob : Nat} (h : atag C L mu ops o l S = some (x, S', t)) (ht : t.2.2.2 = some (b, ob)) :
    (b = false ∧ S' = S ∧ ∀ S2 : AS, S2.objs[ob]? = S.objs[ob]? → atag C L mu ops o l S2 = some (x, S2, t)) ∨
    (b = true ∧ ∃ c, ob < S.objs.length ∧ S' = setS S ob c ∧ ∀ S2 : AS, S2.objs[ob]? = S.objs[ob]? → atag C L mu ops o l S2 = some (x, setS S2 ob c, t)) := by
  have hrw : rwOf ops l o = some (b, ob) := by
    unfold atag at h
    split at h
    · split at h
      · cases h; exact ht
      · cases h; exact ht
    · cases h
  have hcell : ∀ {S2 : AS}, S2.objs[ob]? = S.objs[ob]? → (amark S2).cellsAt ob = (amark S).cellsAt ob := fun he => by
    unfold AS.cellsAt
    have e1 : ∀ S : AS, (amark S).objs = S.objs := fun _ => rfl
    rw [e1, e1, he]
  unfold rwOf at hrw
  split at hrw
  · rename_i hw
    split at hrw
    · rename_i T a ho
      split at hrw
      · rename_i ob' off hv
        cases hrw
        left
        refine ⟨rfl, ?_⟩
        have hpu : apu mu ops o l = false := by unfold apu; rw [hw]; simp only [ho, isPure, hv]
        have key : ∀ S2 : AS, S2.objs[ob]? = S.objs[ob]? → astep C L mu ops o l (amark S2) = (aload C.P (amark S) T (.ptr ob off)).map fun x => (x, amark S2) := fun S2 he => by
          unfold astep
          rw [hw]
          unfold adoOp
          rw [ho]
          simp only [aexec, hv, aload, hcell he]
        unfold atag at h ⊢
        have k0 := key S rfl
        rw [k0] at h
        cases hl : aload C.P (amark S) T (.ptr ob off) with
        | none => rw [hl] at h; cases h
        | some y =>
          rw [hl] at h
          simp only [Option.map_some, asame_mark', Bool.or_true, if_true, Option.some.injEq, Prod.mk.injEq] at h
          obtain ⟨rfl, rfl, rfl⟩ := h
          refine ⟨rfl, fun S2 he => ?_⟩
          rw [key S2 he, hl]
          simp only [Option.map_some, asame_mark', Bool.or_true, if_true]
      · cases hrw
    · rename_i T a v ho
      split at hrw
      · rename_i ob' off hv
        cases hrw
        right
        refine ⟨rfl, ?_⟩
        have hpu : apu mu ops o l = false := by unfold apu; rw [hw]; simp only [ho, isPure]
        have key : ∀ S2 : AS, astep C L mu ops o l (amark S2) = ((amark S2).cellsAt ob).bind fun p => (if (aeval l v).cells.all AV.one && szOf C.P T == some (aeval l v).cells.length && decide (off + (aeval l v).cells.length ≤ p.1.length) then some (undefA, (amark S2).set ob (.cells (splice p.1 off (aeval l v).cells) p.2)) else none) := fun S2 => by
          unfold astep
          rw [hw]
          unfold adoOp
          rw [ho]
          simp only [aexec, hv, astore]
          cases (amark S2).cellsAt ob with
          | none => rfl
          | some p => dsimp only [Option.bind_some]; split <;> rfl
        unfold atag at h ⊢
        rw [key S] at h
        cases hc : (amark S).cellsAt ob with
        | none => rw [hc] at h; cases h
        | some p =>
          rw [hc] at h
          simp only [Option.bind_some] at h
          have hlt : ob < S.objs.length := by
            unfold AS.cellsAt at hc
            split at hc
            · rename_i hq; exact (List.getElem?_eq_some_iff.1 hq).1
            · cases hc
          split at h
          · rename_i hcond
            split at hcond
            · rename_i hok
              cases hcond
              rw [hpu, asame_set hlt] at h
              simp only [Bool.or_self, Bool.false_eq_true, if_false, Option.some.injEq, Prod.mk.injEq] at h
              obtain ⟨rfl, rfl, rfl⟩ := h
              refine ⟨_, hlt, rfl, fun S2 he => ?_⟩
              have hlt2 : ob < S2.objs.length := by
                have : S2.objs[ob]? = some S.objs[ob] := by rw [he]; exact List.getElem?_eq_getElem hlt
                exact (List.getElem?_eq_some_iff.1 this).1
              rw [key S2, hcell he, hc]
              simp only [Option.bind_some, hok, if_true, hpu, asame_set hlt2, Bool.or_self, Bool.false_eq_true, if_false]
              rfl
            · cases hcond
          · cases h
      · cases hrw
    · cases hrw
  · cases hrw

theorem setS_get {S : AS} {o p : Nat} {c : AObj} (h : o ≠ p) : (setS S o c).objs[p]? = S.objs[p]? := by
  show (S.objs.set o c)[p]? = _
  rw [List.getElem?_set, if_neg h]

theorem setS_comm {S : AS} {o p : Nat} {c d : AObj} (h : o ≠ p) : setS (setS S o c) p d = setS (setS S p d) o c := by
  simp only [setS, aunmark, amark, AS.set, List.length_set]
  congr 1
  · exact List.set_comm _ _ h
  · omega

theorem atag_rw {mu : Bool} {ops : Array Oper} {p q : Oper} {l : List AV} {x y : AV} {t u : Tag} {S1 S2 : AS} (hk : apartRW t.2.2.2 u.2.2.2 = true) (h1 : atag C L mu ops p l S = some (x, S1, t)) (h2 : atag C L mu ops q l S1 = some (y, S2, u)) :
    ∃ S3, atag C L mu ops q l S = some (y, S3, u) ∧ atag C L mu ops p l S3 = some (x, S2, t) := by
  unfold apartRW at hk
  split at hk
  · rename_i b1 o1 b2 o2 e1 e2
    have hne : o1 ≠ o2 := by intro e; subst e; simp at hk
    rcases atag_one h1 e1 with ⟨rfl, rfl, k1⟩ | ⟨rfl, c, hl1, rfl, k1⟩
    · rcases atag_one h2 e2 with ⟨rfl, rfl, k2⟩ | ⟨rfl, d, hl2, rfl, k2⟩
      · exact ⟨_, h2, h1⟩
      · exact ⟨_, h2, k1 _ (setS_get hne.symm)⟩
    · rcases atag_one h2 e2 with ⟨rfl, rfl, k2⟩ | ⟨rfl, d, hl2, rfl, k2⟩
      · exact ⟨S, k2 S (setS_get hne).symm, h1⟩
      · refine ⟨setS S o2 d, k2 S (setS_get hne).symm, ?_⟩
        rw [setS_comm hne]
        exact k1 _ (setS_get hne.symm)
  · cases hk

abbrev Ent := Nat × Oper × Tag

def TRun (C : Cfg) (L : Lw) (mu : Bool) (ops : Array Oper) : List Ent → List AV → AS → List AV → AS → Prop
  | [], l, S, l', S' => l' = l ∧ S' = S
  | e :: rest, l, S, l', S' => ∃ x S1, atag C L mu ops e.2.1 l S = some (x, S1, e.2.2) ∧ TRun C L mu ops rest (aput l e.2.1.dst x) S1 l' S'

def okPair (ops : Array Oper) (p q : Ent) : Prop := p.2.1.apart ops q.2.1 = true ∧ (p.2.2.1 = true ∨ q.2.2.1 = true ∨ (p.2.2.2.1 = true ∧ q.2.2.2.1 = true) ∨ (isAlloc q.2.1.op = true ∧ p.2.2.2.2.1 = true) ∨ apartRW p.2.2.2.2.2 q.2.2.2.2.2 = true)

theorem TRun.swap (hL : LwOK C L) {mu : Bool} {ops : Array Oper} {p q : Ent} {rest : List Ent} {l l' : List AV} (h : TRun C L mu ops (p :: q :: rest) l S l' S') (ho : okPair ops p q) : TRun C L mu ops (q :: p :: rest) l S l' S' := by
  obtain ⟨x, S1, h1, y, S2, h2, h3⟩ := h
  obtain ⟨hap, hk⟩ := ho
  obtain ⟨a1, a2, a3⟩ := Oper.apart_spec hap
  have hq : atag C L mu ops q.2.1 (aput l p.2.1.dst x) S1 = atag C L mu ops q.2.1 l S1 := atag_congr fun t ht => aput_get fun e => a1 t e ht
  have hp : ∀ S y, atag C L mu ops p.2.1 (aput l q.2.1.dst y) S = atag C L mu ops p.2.1 l S := fun S y => atag_congr fun t ht => aput_get fun e => a3 t e ht
  rw [hq] at h2
  have hc := aput_comm (l := l) (x := x) (y := y) a2
  rw [hc] at h3
  rcases hk with hk | hk | ⟨k1, k2⟩ | ⟨k1, k2⟩ | hk
  · obtain ⟨rfl, hall⟩ := atag_pure h1 hk
    exact ⟨y, S2, h2, x, S2, (hp _ _).trans (hall S2), h3⟩
  · obtain ⟨rfl, hall⟩ := atag_pure h2 hk
    exact ⟨y, S, hall S, x, S2, (hp _ _).trans h1, h3⟩
  · have e1 := atag_same h1 k1
    subst e1
    have e2 := atag_same h2 k2
    subst e2
    exact ⟨y, S2, h2, x, S2, (hp _ _).trans h1, h3⟩
  · obtain ⟨rfl, hall⟩ := atag_stab hL h1 k2
    exact ⟨y, S2, h2, x, S2, (hp _ _).trans (hall S2 (atag_alloc k1 h2)), h3⟩
  · obtain ⟨S3, k1, k2⟩ := atag_rw hk h1 h2
    exact ⟨y, S3, k1, x, S2, (hp _ _).trans k2, h3⟩

theorem TRun.front (hL : LwOK C L) {mu : Bool} {ops : Array Oper} {p : Ent} {rest : List Ent} {l' : List AV} : ∀ (c1 : List Ent) {l : List AV} {S : AS}, TRun C L mu ops (c1 ++ p :: rest) l S l' S' → (∀ q ∈ c1, okPair ops q p) → TRun C L mu ops (p :: (c1 ++ rest)) l S l' S'
  | [], _, _, h, _ => h
  | q :: c1, l, S, h, hq => by
    obtain ⟨x, S1, h1, h2⟩ := h
    have h3 := TRun.front hL c1 h2 (fun q' hq' => hq q' (by simp [hq']))
    exact TRun.swap hL (p := q) (q := p) ⟨x, S1, h1, h3⟩ (hq q (by simp))

def ents : Nat → List Oper → List Tag → List Ent
  | k, o :: os, t :: ts => (k, o, t) :: ents (k + 1) os ts
  | _, _, _ => []

theorem aTags_run {mu : Bool} {ops : Array Oper} : ∀ (os : List Oper) (k : Nat) {l l' : List AV} {S S' : AS} {ts : List Tag}, aTags C L mu ops os l S = some (l', S', ts) → TRun C L mu ops (ents k os ts) l S l' S' ∧ ts.length = os.length
  | [], k, l, l', S, S', ts, h => by simp only [aTags] at h; cases h; exact ⟨⟨rfl, rfl⟩, rfl⟩
  | o :: os, k, l, l', S, S', ts, h => by
    simp only [aTags] at h
    split at h
    · rename_i x S1 t h1
      split at h
      · rename_i l2 S2 ts2 h2
        cases h
        obtain ⟨h3, h4⟩ := aTags_run os (k + 1) h2
        exact ⟨⟨x, S1, h1, h3⟩, by simp [h4]⟩
      · cases h
    · cases h

theorem ents_get : ∀ (os : List Oper) (ts : List Tag) (k m : Nat) (e : Ent), ts.length = os.length → ((ents k os ts)[m]? = some e ↔ ∃ o t, os[m]? = some o ∧ ts[m]? = some t ∧ e = (k + m, o, t))
  | [], [], k, m, e, _ => by simp [ents]
  | [], _ :: _, _, _, _, h => by simp at h
  | _ :: _, [], _, _, _, h => by simp at h
  | o :: os, t :: ts, k, 0, e, _ => by simp [ents, eq_comm]
  | o :: os, t :: ts, k, m + 1, e, h => by
    simp only [ents, List.getElem?_cons_succ]
    rw [ents_get os ts (k + 1) m e (by simpa using h)]
    simp only [show k + 1 + m = k + (m + 1) by omega]

theorem ents_len : ∀ (os : List Oper) (ts : List Tag) (k : Nat), ts.length = os.length → (ents k os ts).length = os.length
  | [], [], _, _ => rfl
  | [], _ :: _, _, h => by simp at h
  | _ :: _, [], _, h => by simp at h
  | _ :: os, _ :: ts, k, h => by simp [ents, ents_len os ts (k + 1) (by simpa using h)]

structure DInv (ops : Array Oper) (listed : Array Bool) (c : List Ent) : Prop where
  size : listed.size = ops.size
  mem : ∀ e ∈ c, ops[e.1]? = some e.2.1 ∧ listed.getD e.1 true = false
  all : ∀ i, i < ops.size → listed.getD i true = false → ∃ e ∈ c, e.1 = i
  pair : c.Pairwise fun p q => p.1 < q.1 ∧ (okPair ops p q ∨ areach ops ops.size q.1 p.1 = true)
  closed : ∀ j oj, ops[j]? = some oj → listed.getD j false = true → ∀ e ∈ oj.after, Region.binds .any e = true → listed.getD e.on false = true

theorem getD_two {listed : Array Bool} {i : Nat} (hi : i < listed.size) : listed.getD i true = listed.getD i false := by simp [Array.getD, hi]

theorem reach_listed {ops : Array Oper} {listed : Array Bool} (hc : ∀ j oj, ops[j]? = some oj → listed.getD j false = true → ∀ e ∈ oj.after, Region.binds .any e = true → listed.getD e.on false = true) :
    ∀ (k j i : Nat) (oj : Oper), ops[j]? = some oj → (∀ e ∈ oj.after, Region.binds .any e = true → listed.getD e.on false = true) → areach ops k j i = true → listed.getD i false = true
  | 0, _, _, _, _, _, h => by simp [areach] at h
  | k + 1, j, i, oj, hj, hall, h => by
    simp only [areach, hj, List.any_eq_true, Bool.and_eq_true, Bool.or_eq_true] at h
    obtain ⟨e, he, hb, h1⟩ := h
    have hl := hall e (by simpa using he) hb
    rcases h1 with h1 | h1
    · rw [Nat.eq_of_beq_eq_true h1] at hl; exact hl
    · cases ho : ops[e.on]? with
      | none => cases k <;> simp [areach, ho] at h1
      | some o2 => exact reach_listed hc k e.on i o2 ho (hc e.on o2 ho hl) h1

theorem SR.of_eq {S2 : AS} (h : SR B0 w0 E S w) (h1 : S2.objs = S.objs) (h2 : S2.ends = S.ends) : SR B0 w0 E S2 w :=
  { below := h.below, base := h.base, obj := by rw [h1]; exact h.obj, jlt := by rw [h1]; exact h.jlt, inj := fun o o' g a b c d => h.inj o o' g a b (by unfold AS.live at *; rw [← h1]; exact c) (by unfold AS.live at *; rw [← h1]; exact d),
    jb := h.jb, fzc := h.fzc, en := by rw [h2]; exact h.en, tok := h.tok, tinj := h.tinj }

theorem Low.eq_of_same {S1 : AS} (h : Low (amark S) S1) (hs : asame S S1 = true) : S1.objs = S.objs ∧ S1.ends = S.ends := by
  simp only [asame, akept, Bool.and_eq_true] at hs
  obtain ⟨⟨⟨h1, h2⟩, h3⟩, h4⟩ := hs
  have h1 := Nat.eq_of_beq_eq_true h1
  have h2 := Nat.eq_of_beq_eq_true h2
  have h3 := Nat.eq_of_beq_eq_true h3
  have h4 := Nat.eq_of_beq_eq_true h4
  constructor
  · apply List.ext_getElem?
    intro i
    by_cases hi : i < S.objs.length
    · exact h.objs i hi (by omega)
    · rw [List.getElem?_eq_none (by omega), List.getElem?_eq_none (by omega)]
  · apply List.ext_getElem?
    intro i
    by_cases hi : i < S.ends.length
    · exact h.ends i hi (by omega)
    · rw [List.getElem?_eq_none (by omega), List.getElem?_eq_none (by omega)]

theorem atag_step (hL : LwOK C L) {mu : Bool} {ops : Array Oper} {o : Oper} {l : List AV} {x : AV} {t : Tag} (h : atag C L mu ops o l S = some (x, S', t)) :
    ∃ S1, astep C L mu ops o l (amark S) = some (x, S1) ∧ S'.objs = S1.objs ∧ S'.ends = S1.ends ∧ Low S S' := by
  have h0 := h
  unfold atag at h
  cases hs : astep C L mu ops o l (amark S) with
  | none => rw [hs] at h; cases h
  | some q =>
    obtain ⟨x', S1⟩ := q
    rw [hs] at h
    dsimp only at h
    have hl := astep_low hL hs
    split at h
    · rename_i hc
      cases h
      simp only [Bool.or_eq_true] at hc
      rcases hc with hc | hc
      · -- pure: the store is as marked
        refine ⟨S1, rfl, ?_⟩
        cases hw : awanted ops l o with
        | none => unfold astep at hs; rw [hw] at hs; cases hs
        | some b =>
          unfold apu at hc
          rw [hw] at hc
          cases b with
          | false => unfold astep at hs; rw [hw] at hs; cases hs; exact ⟨rfl, rfl, Low.refl _⟩
          | true =>
            dsimp only at hc
            unfold astep at hs; rw [hw] at hs
            dsimp only at hs
            have hnc : adoOp C L mu o (aeval l) (amark S) = aexec C.P mu (amark S) (aeval l) o.op := by
              unfold adoOp
              split
              · rename_i c hc'; rw [hc'] at hc; cases hc
              · rfl
            rw [hnc] at hs
            rw [(aexec_pure hc hs).1]
            exact ⟨rfl, rfl, Low.refl _⟩
      · obtain ⟨h1, h2⟩ := hl.eq_of_same hc
        exact ⟨S1, rfl, h1.symm, h2.symm, Low.refl _⟩
    · cases h
      refine ⟨S1, rfl, rfl, rfl, ?_⟩
      exact ⟨hl.len, hl.tlen, Nat.min_le_left _ _, Nat.min_le_left _ _, fun o ho hlo => hl.objs o ho (Nat.lt_of_lt_of_le hlo (Nat.min_le_right _ _)), fun t ht hlt => hl.ends t ht (Nat.lt_of_lt_of_le hlt (Nat.min_le_right _ _))⟩

section
variable {r : Option Nat} {Q : Exit → Act → World → Prop}

theorem draw_any (hN : NamesOK C.P) (hL : LwOK C L) {mu : Bool} {ops : Array Oper} (hb : aback ops = true) {l' : List AV} : ∀ (fuel : Nat) {listed : Array Bool} {c : List Ent} {l : List AV} {S : AS} {act : Act} {w : World} {E : Env},
    c.length ≤ fuel → DInv ops listed c → TRun C L mu ops c l S l' S' → SR B0 w0 E S w → Pair (VR E w) l act.tmps.toList →
    (∀ act' w' E', SR B0 w0 E' S' w' → Step S.objs.length S.ends.length E w E' w' → Low S S' → Pair (VR E' w') l' act'.tmps.toList → act'.defers = act.defers → Q .normal act' w') →
    wpAnyIn (fenceOf r) 0 C.P .any ops Q fuel listed act w := by
  have ready_nil : ∀ {listed : Array Bool} {c : List Ent}, DInv ops listed c → Region.ready .any ops listed = [] → c = [] := by
    intro listed c hd hr
    cases c with
    | nil => rfl
    | cons e c =>
      obtain ⟨ho, hl⟩ := hd.mem e (by simp)
      have hlt : e.1 < ops.size := (Array.getElem?_eq_some_iff.1 ho).1
      have : e.1 ∈ Region.ready .any ops listed := by
        refine mem_ready.2 ⟨hl, e.2.1, ho, fun x hx hbx => ?_⟩
        have hback := List.all_eq_true.1 hb e.1 (by simpa using hlt)
        rw [ho] at hback
        have h1 := List.all_eq_true.1 hback x (by simpa using hx)
        rw [hbx] at h1
        have h2 : x.on < e.1 := by simpa using h1
        cases hq : listed.getD x.on true with
        | true => rw [← getD_two (by rw [hd.size]; omega)]; exact hq
        | false =>
          obtain ⟨e', he', hi⟩ := hd.all x.on (by omega) hq
          rcases List.mem_cons.1 he' with rfl | he'
          · omega
          · have := (List.pairwise_cons.1 hd.pair).1 e' he'
            omega
      rw [hr] at this
      cases this
  have ready_sub : ∀ {listed : Array Bool} {c : List Ent} {i : Nat}, DInv ops listed c → i ∈ Region.ready .any ops listed → ∃ e ∈ c, e.1 = i := by
    intro listed c i hd hi
    obtain ⟨h1, o, ho, _⟩ := mem_ready.1 hi
    exact hd.all i (Array.getElem?_eq_some_iff.1 ho).1 h1
  intro fuel
  induction fuel with
  | zero =>
    intro listed c l S act w E hlen hd ht h hp hQ
    have hc : c = [] := List.length_eq_zero_iff.1 (by omega)
    subst hc
    refine ⟨?_, ?_⟩
    · cases hr : Region.ready .any ops listed with
      | nil => rfl
      | cons i rs =>
        obtain ⟨e, he, _⟩ := ready_sub hd (show i ∈ Region.ready .any ops listed by rw [hr]; simp)
        cases he
    · obtain ⟨rfl, rfl⟩ := ht
      exact hQ act w E h (Step.refl _ _ _ _) (Low.refl _) hp rfl
  | succ fuel ih =>
    intro listed c l S act w E hlen hd ht h hp hQ
    refine ⟨fun hr => ?_, fun i hi => ?_⟩
    · have hc := ready_nil hd hr
      subst hc
      obtain ⟨rfl, rfl⟩ := ht
      exact hQ act w E h (Step.refl _ _ _ _) (Low.refl _) hp rfl
    · obtain ⟨e, he, rfl⟩ := ready_sub hd hi
      obtain ⟨hl0, o', ho', hdeps⟩ := mem_ready.1 hi
      obtain ⟨ho, hl⟩ := hd.mem e he
      have : o' = e.2.1 := Option.some.inj (ho'.symm.trans ho)
      subst this
      have hlt : e.1 < ops.size := (Array.getElem?_eq_some_iff.1 ho).1
      obtain ⟨c1, c2, rfl⟩ := List.append_of_mem he
      have hpw := hd.pair
      rw [List.pairwise_append] at hpw
      obtain ⟨p1, p2, p3⟩ := hpw
      have hfront : ∀ q ∈ c1, okPair ops q e := fun q hq => by
        rcases (p3 q hq e (by simp)).2 with k | k
        · exact k
        · have := reach_listed hd.closed ops.size e.1 q.1 e.2.1 ho hdeps k
          obtain ⟨hoq, hlq⟩ := hd.mem q (by simp [hq])
          have hltq : q.1 < ops.size := (Array.getElem?_eq_some_iff.1 hoq).1
          rw [getD_two (by rw [hd.size]; omega), this] at hlq
          cases hlq
      obtain ⟨x, S1, h1, h2⟩ := TRun.front hL c1 ht hfront
      obtain ⟨S1', k1, k2, k3, k4⟩ := atag_step hL h1
      have hd' : DInv ops (listed.setIfInBounds e.1 true) (c1 ++ c2) := by
        refine ⟨by simp [hd.size], fun q hq => ?_, fun j hj hlj => ?_, ?_, ?_⟩
        · have hq' : q ∈ c1 ++ e :: c2 := by simp only [List.mem_append, List.mem_cons] at hq ⊢; rcases hq with hq | hq <;> simp [hq]
          obtain ⟨a, b⟩ := hd.mem q hq'
          refine ⟨a, ?_⟩
          have hne : e.1 ≠ q.1 := by
            rcases List.mem_append.1 hq with hq | hq
            · have := (p3 q hq e (by simp)).1; omega
            · have := (List.pairwise_cons.1 p2).1 q hq; omega
          rw [getD_set_ne true hne]; exact b
        · have hne : e.1 ≠ j := fun q => by
            subst q
            simp [Array.getD, hd.size, hlt] at hlj
          rw [getD_set_ne true hne] at hlj
          obtain ⟨q, hq, rfl⟩ := hd.all j hj hlj
          refine ⟨q, ?_, rfl⟩
          simp only [List.mem_append, List.mem_cons] at hq ⊢
          rcases hq with hq | rfl | hq
          · exact .inl hq
          · exact absurd rfl hne
          · exact .inr hq
        · exact hd.pair.sublist (List.Sublist.append (List.Sublist.refl _) (List.sublist_cons_self _ _))
        · intro j oj hj hlj x hx hbx
          by_cases hij : e.1 = j
          · subst hij
            have : oj = e.2.1 := Option.some.inj (hj.symm.trans ho)
            subst this
            exact getD_set_true (hdeps x hx hbx)
          · rw [getD_set_ne false hij] at hlj
            exact getD_set_true (hd.closed j oj hj hlj x hx hbx)
      unfold wpOpIn
      rw [ho]
      refine astep_sound hN hL (h.of_eq (S2 := amark S) rfl rfl) hp k1 fun y E' w' q2 q3 q4 => ?_
      have q2' : SR B0 w0 E' S1 w' := q2.of_eq k2 k3
      have hp' : Pair (VR E' w') (aput l e.2.1.dst x) (act.put e.2.1.dst y).tmps.toList := by
        cases hdst : e.2.1.dst with
        | none => exact hp.ext q3.toExt
        | some d => exact (hp.ext q3.toExt).put q4 d
      have q3' : Step S.objs.length S.ends.length E w E' w' := q3
      refine ih (by simp only [List.length_append, List.length_cons] at hlen ⊢; omega) hd' h2 q2' hp' fun act' w'' E'' r1 r2 r3 r4 r5 => hQ act' w'' E'' r1 (q3'.trans r2 k4.len k4.tlen) (k4.trans r3) r4 (r5.trans ?_)
      cases e.2.1.dst <;> rfl

theorem getD_replicate_false' (m j : Nat) : (Array.replicate m false).getD j false = false := by
  rcases Nat.lt_or_ge j m with h | h
  · simp [h]
  · simp [h]

theorem grownBy_drew (w : World) : w.grownBy w.drew none := ⟨rfl, rfl, rfl, Nat.le_refl _, fun _ _ _ => rfl⟩

theorem aDraw1_sound (hN : NamesOK C.P) (hL : LwOK C L) (hm : C.P.follows .mixedOrders = true) {mu : Bool} {ops : Array Oper} {id : Nat} {l l' : List AV} {act : Act} (hx : aDraw1 C L mu ops l S = some (l', S')) (h : SR B0 w0 E S w) (hp : Pair (VR E w) l act.tmps.toList)
    (hQ : ∀ act' w' E', SR B0 w0 E' S' w' → Step S.objs.length S.ends.length E w E' w' → Low S S' → Pair (VR E' w') l' act'.tmps.toList → act'.defers = act.defers → Q .normal act' w') :
    (Code.region id ops true).wpIn (fenceOf r) 0 C.P Q act w := by
  refine wpIn_region_any hm ?_
  rw [World.drew_eq]
  obtain ⟨k1, k2⟩ := h.later (grownBy_drew w)
  unfold aDraw1 at hx
  split at hx
  · rename_i l2 S2 ts ht
    split at hx
    · rename_i hc
      cases hx
      simp only [Bool.and_eq_true] at hc
      obtain ⟨⟨hc1, hc2⟩, hc3⟩ := hc
      obtain ⟨t1, t2⟩ := aTags_run ops.toList 0 ht
      refine draw_any hN hL hc2 ops.size (c := ents 0 ops.toList ts) ?_ ?_ t1 k1 (hp.ext k2.toExt) fun act' w' E' r1 r2 r3 r4 r5 => hQ act' w' E' r1 (k2.trans r2 (Nat.le_refl _) (Nat.le_refl _)) r3 r4 r5
      · rw [ents_len _ _ _ t2]; simp
      · refine ⟨by simp, fun e he => ?_, fun i hi _ => ?_, ?_, fun j oj _ hl => ?_⟩
        · obtain ⟨m, hm'⟩ := List.getElem?_of_mem he
          obtain ⟨o, t, a, b, rfl⟩ := (ents_get _ _ _ _ _ t2).1 hm'
          have hlt : m < ops.size := by simpa using (List.getElem?_eq_some_iff.1 a).1
          refine ⟨by simpa using a, by simp [hlt]⟩
        · have h1 : ops.toList[i]? = some ops[i] := by simp [hi]
          have h2 : i < ts.length := by rw [t2]; simpa using hi
          refine ⟨(0 + i, ops[i], ts[i]), List.mem_of_getElem? ((ents_get _ _ _ i _ t2).2 ⟨_, _, h1, by simp [h2], rfl⟩), by simp⟩
        · rw [List.pairwise_iff_getElem]
          intro i j hi hj hij
          have e1 := List.getElem?_eq_getElem hi
          have e2 := List.getElem?_eq_getElem hj
          obtain ⟨oi, ti, a1, b1, c1⟩ := (ents_get _ _ _ _ _ t2).1 e1
          obtain ⟨oj, tj, a2, b2, c2⟩ := (ents_get _ _ _ _ _ t2).1 e2
          rw [c1, c2]
          refine ⟨by simpa using hij, ?_⟩
          have hlt : j < ops.size := by simpa using (List.getElem?_eq_some_iff.1 a2).1
          have hpr := List.all_eq_true.1 (List.all_eq_true.1 hc3 j (by simpa using hlt)) i (by simpa using hij)
          have a1' : ops[i]? = some oi := by simpa using a1
          have a2' : ops[j]? = some oj := by simpa using a2
          rw [a1', a2', b1, b2] at hpr
          simp only [Bool.or_eq_true, Bool.and_eq_true] at hpr
          rcases hpr with ⟨q1, q2⟩ | q
          · left
            refine ⟨q1, ?_⟩
            rcases q2 with (((q2 | q2) | q2) | q2) | q2
            · exact .inl q2
            · exact .inr (.inl q2)
            · exact .inr (.inr (.inl q2))
            · exact .inr (.inr (.inr (.inl q2)))
            · exact .inr (.inr (.inr (.inr q2)))
          · right; simpa using q
        · rw [show (Array.replicate ops.size false).getD j false = false from getD_replicate_false' ops.size j] at hl
          cases hl
    · cases hx
  · cases hx


/-! Variables that are made ahead. -/
theorem SR.ext_slot (h : SR B0 w0 E S w) {id : Nat} (hn : E.j id = none) (o : Obj) (c : Nat) : Ext E w (E.obj id w.heap.size c) (w.alloc o) := by
  have hx := h.ext_of none (World.grownBy_alloc w o none) (fun g e => by cases e)
  exact { hx with
    j := fun o' g hj => by
      have : o' ≠ id := fun e => by rw [e, hn] at hj; cases hj
      simpa [Env.obj, this] using hj
    cp := fun o' g hj => by
      have : o' ≠ id := fun e => by rw [e, hn] at hj; cases hj
      simp [Env.obj, this] }

theorem SR.slotObj (h : SR B0 w0 E S w) {id n0 : Nat} (hn : E.j id = none) (hid : id < S.objs.length) (h0 : n0 ≤ id) (o : Obj) (c : Nat) (ob : AObj) (hs : S.objs[id]? = some ob) (hob : OR (E.obj id w.heap.size c) (w.alloc o) id w.heap.size ob) :
    SR B0 w0 (E.obj id w.heap.size c) S (w.alloc o) ∧ Step n0 S.ends.length E w (E.obj id w.heap.size c) (w.alloc o) := by
  have hx := h.ext_slot hn o c
  have hold : ∀ g, g < w.heap.size → (w.alloc o).heap[g]? = w.heap[g]? := fun g hg => Below.heap_alloc w o g hg
  have hjne : ∀ o' g, (E.obj id w.heap.size c).j o' = some g → (o' = id ∧ g = w.heap.size) ∨ (o' ≠ id ∧ E.j o' = some g) := fun o' g hj => by
    by_cases e : o' = id
    · left; simp [Env.obj, e] at hj; exact ⟨e, hj.symm⟩
    · right; simp [Env.obj, e] at hj; exact ⟨e, hj⟩
  refine ⟨{ below := h.below.alloc h.base o, base := Nat.le_trans h.base (by simp), obj := ?_, jlt := ?_, inj := ?_, jb := ?_, fzc := ?_, en := h.en, tok := ?_, tinj := h.tinj }, { hx with size := by simp, frame := fun g hg _ _ => hold g hg, jn := ?_, tn := fun t ht => .inl ⟨t, ht, rfl⟩, jid := ?_, tid := fun _ ht => .inl ht, fn := fun _ _ hf => .inl hf }⟩
  · intro o' ob' g ho hj
    rcases hjne o' g hj with ⟨rfl, rfl⟩ | ⟨hne, hj'⟩
    · rw [hs] at ho; cases ho; exact hob
    · exact (h.obj o' ob' g ho hj').ext hx hj' (hold g (h.jb o' g hj').2.1)
  · intro o' g hj
    rcases hjne o' g hj with ⟨rfl, _⟩ | ⟨_, hj'⟩
    · exact hid
    · exact h.jlt o' g hj'
  · intro o1 o2 g h1 h2 l1 l2
    rcases hjne o1 g h1 with ⟨rfl, e1⟩ | ⟨n1, k1⟩ <;> rcases hjne o2 g h2 with ⟨rfl, e2⟩ | ⟨n2, k2⟩
    · rfl
    · exact absurd (h.jb o2 g k2).2.1 (by omega)
    · exact absurd (h.jb o1 g k1).2.1 (by omega)
    · exact h.inj o1 o2 g k1 k2 l1 l2
  · intro o' g hj
    rcases hjne o' g hj with ⟨_, rfl⟩ | ⟨_, hj'⟩
    · refine ⟨h.base, by simp, fun k hf => ?_⟩
      obtain ⟨z, hz⟩ := h.fzc _ k hf
      exact absurd (World.block_lt_of_cell? w _ hz) (Nat.lt_irrefl _)
    · obtain ⟨a, b, d⟩ := h.jb o' g hj'
      exact ⟨a, by simp; omega, d⟩
  · exact fun g k hf => let ⟨z, hz⟩ := h.fzc g k hf; ⟨z, (hx.cell g k hf).trans hz⟩
  · intro t ht
    have hlt := h.tblock (t := t) ht
    obtain ⟨a, ⟨c', T, hc⟩, d, e⟩ := h.tok t ht
    refine ⟨a, ⟨c', T, (hold _ hlt).trans hc⟩, d, fun o' hj => ?_⟩
    rcases hjne o' _ hj with ⟨_, e1⟩ | ⟨_, hj'⟩
    · simp only [Env.obj] at e1; omega
    · exact e o' hj'
  · intro o' g hj
    rcases hjne o' g hj with ⟨_, e1⟩ | ⟨_, hj'⟩
    · exact .inr (by omega)
    · exact .inl ⟨o', hj'⟩
  · intro o' hj
    by_cases e : o' = id
    · exact .inr (by omega)
    · left; simpa [Env.obj, e] using hj

theorem slot_sound (h : SR B0 w0 E S w) {id n0 : Nat} (hn : E.j id = none) (hid : id < S.objs.length) (h0 : n0 ≤ id) {t : TypeId} {z : List AV} (hz : azero C.P t = some z) (hs : S.objs[id]? = some (.cells z t)) :
    ∃ y w' E', (Instr.alloc t true (.tuple #[])).run C.P w = .ok y w' ∧ SR B0 w0 E' S w' ∧ Step n0 S.ends.length E w E' w' ∧ VR E' w' (.ptr id 0) y ∧ ∀ o, o ≠ id → E'.j o = E.j o := by
  obtain ⟨i, zv, hi, hzv, hf, rfl⟩ := azero_some hz
  have hp : Pair (VR E w) (zv.cells.toList.map .v) zv.cells.toList := flats_pair _ hf
  have hob : OR (E.obj id w.heap.size zv.cells.size) (w.alloc (.cells zv.cells t)) id w.heap.size (.cells (zv.cells.toList.map .v) t) :=
    ⟨zv.cells, World.alloc_heap_new w _, by simp [Env.obj], by simp, fun i x y hx hy => (hp.2 i x y hx (by simpa using hy)).ext (h.ext_slot hn _ _)⟩
  obtain ⟨h1, h2⟩ := h.slotObj (n0 := n0) hn hid h0 (.cells zv.cells t) zv.cells.size (.cells (zv.cells.toList.map .v) t) hs hob
  refine ⟨_, _, _, ?_, h1, h2, VR.ptr (by simp [Env.obj]; rfl), fun o ho => by simp [Env.obj, ho]⟩
  simp [Instr.alloc, run_zero hi hzv, newVar, newRow]

structure PEnt where
  i : Nat
  o : Oper
  id : Nat
  T : TypeId
  z : List AV

theorem preA_spec {ops : Array Oper} {ps : List (Nat × Oper)} : ∀ {l l1 : List AV} {S S1 : AS}, preA C ps l S = some (l1, S1) → ps.Pairwise (fun a b => a.2.apart ops b.2 = true) →
    ∃ as : List PEnt, as.map (fun a => (a.i, a.o)) = ps ∧ l1.length = l.length ∧ (∀ t, (∀ a ∈ as, a.o.dst ≠ some t) → l1[t]? = l[t]?) ∧ S.objs.length ≤ S1.objs.length ∧ (∀ o, o < S.objs.length → S1.objs[o]? = S.objs[o]?) ∧ S1.ends = S.ends ∧
      (∀ a ∈ as, a.o.op = .alloc a.T ∧ azero C.P a.T = some a.z ∧ S.objs.length ≤ a.id ∧ a.id < S1.objs.length ∧ S1.objs[a.id]? = some (.cells a.z a.T) ∧ ∀ d, a.o.dst = some d → d < l.length → l1[d]? = some (.ptr a.id 0)) ∧
      as.Pairwise (fun a b => a.id ≠ b.id) := by
  induction ps with
  | nil =>
    intro l l1 S S1 h _
    simp only [preA] at h
    cases h
    exact ⟨[], rfl, rfl, fun _ _ => rfl, Nat.le_refl _, fun _ _ => rfl, rfl, (fun a ha => absurd ha List.not_mem_nil), List.Pairwise.nil⟩
  | cons p ps ih =>
    intro l l1 S S1 h hp
    obtain ⟨hp1, hp2⟩ := List.pairwise_cons.1 hp
    simp only [preA] at h
    split at h
    · rename_i T hop
      split at h
      · rename_i z hz
        obtain ⟨as, r1, r2, r3, r4, r5, r6, r7, r8⟩ := ih h hp2
        have hlen : (aput l p.2.dst (.ptr S.objs.length 0)).length = l.length := by
          cases p.2.dst <;> simp [aput]
        have hpl : (S.push (.cells z T)).objs.length = S.objs.length + 1 := by simp [AS.push]
        have hdst : ∀ a ∈ as, ∀ t, p.2.dst = some t → a.o.dst ≠ some t := fun a ha t ht => by
          have : (a.i, a.o) ∈ ps := by rw [← r1]; exact List.mem_map_of_mem ha
          exact (Oper.apart_spec (hp1 _ this)).2.1 t ht
        refine ⟨⟨p.1, p.2, S.objs.length, T, z⟩ :: as, by simp [r1], r2.trans hlen, fun t ht => ?_, by omega, fun o ho => ?_, r6, fun a ha => ?_, ?_⟩
        · rw [r3 t fun a ha => ht a (List.mem_cons_of_mem _ ha)]
          exact aput_get (ht _ (List.mem_cons_self ..))
        · rw [r5 o (by omega)]
          simp [AS.push, List.getElem?_append_left ho]
        · rcases List.mem_cons.1 ha with rfl | ha
          · refine ⟨hop, hz, Nat.le_refl _, by dsimp only; omega, ?_, fun d hd hlt => ?_⟩
            · dsimp only
              rw [r5 _ (by omega)]
              simp [AS.push]
            · dsimp only at hd ⊢
              rw [r3 d fun a ha => hdst a ha d hd, hd]
              simp [aput, hlt]
          · obtain ⟨q1, q2, q3, q4, q5, q6⟩ := r7 a ha
            exact ⟨q1, q2, by omega, q4, q5, fun d hd hlt => q6 d hd (by rw [hlen]; exact hlt)⟩
        · refine List.pairwise_cons.2 ⟨fun a ha => ?_, r8⟩
          have := (r7 a ha).2.2.1
          dsimp only
          omega
      · cases h
    · cases h

theorem SR.grow {S1 : AS} (h : SR B0 w0 E S w) (h1 : S.objs.length ≤ S1.objs.length) (h2 : ∀ o, o < S.objs.length → S1.objs[o]? = S.objs[o]?) (h3 : S1.ends = S.ends) : SR B0 w0 E S1 w :=
  { below := h.below, base := h.base, obj := fun o ob g ho hj => h.obj o ob g (by rw [← h2 o (h.jlt o g hj)]; exact ho) hj, jlt := fun o g hj => Nat.lt_of_lt_of_le (h.jlt o g hj) h1,
    inj := fun o o' g a b c d => h.inj o o' g a b (by unfold AS.live at *; rw [← h2 o (h.jlt o g a)]; exact c) (by unfold AS.live at *; rw [← h2 o' (h.jlt o' g b)]; exact d),
    jb := h.jb, fzc := h.fzc, en := by rw [h3]; exact h.en, tok := h.tok, tinj := h.tinj }

structure DInv2 (ops : Array Oper) (listed : Array Bool) (A : List PEnt) (c : List Ent) : Prop where
  size : listed.size = ops.size
  memA : ∀ a ∈ A, ops[a.i]? = some a.o ∧ listed.getD a.i true = false
  mem : ∀ e ∈ c, ops[e.1]? = some e.2.1 ∧ listed.getD e.1 true = false
  all : ∀ i, i < ops.size → listed.getD i true = false → (∃ e ∈ c, e.1 = i) ∨ ∃ a ∈ A, a.i = i
  pair : c.Pairwise fun p q => p.1 < q.1 ∧ (okPair ops p q ∨ areach ops ops.size q.1 p.1 = true)
  pairA : ∀ a ∈ A, ∀ q ∈ c, a.i ≠ q.1 ∧ (areach ops ops.size q.1 a.i = true ∨ (a.o.apart ops q.2.1 = true ∧ (q.2.2.1 = true ∨ q.2.2.2.1 = true)))
  pairAA : A.Pairwise fun a b => a.i ≠ b.i ∧ a.o.apart ops b.o = true
  closed : ∀ j oj, ops[j]? = some oj → listed.getD j false = true → ∀ e ∈ oj.after, Region.binds .any e = true → listed.getD e.on false = true

theorem DInv2.next {ops : Array Oper} {listed : Array Bool} {A A' : List PEnt} {c c' : List Ent} (hd : DInv2 ops listed A c) {k : Nat} {o : Oper} (ho : ops[k]? = some o) (hdeps : ∀ e ∈ o.after, Region.binds .any e = true → listed.getD e.on false = true)
    (hA : A'.Sublist A) (hc : c'.Sublist c) (hk1 : ∀ a ∈ A', a.i ≠ k) (hk2 : ∀ q ∈ c', q.1 ≠ k) (hall : ∀ e ∈ c, e.1 ≠ k → e ∈ c') (hallA : ∀ a ∈ A, a.i ≠ k → a ∈ A') : DInv2 ops (listed.setIfInBounds k true) A' c' := by
  have hlt : k < ops.size := (Array.getElem?_eq_some_iff.1 ho).1
  refine ⟨by simp [hd.size], fun a ha => ?_, fun q hq => ?_, fun j hj hlj => ?_, hd.pair.sublist hc, fun a ha q hq => hd.pairA a (hA.subset ha) q (hc.subset hq), hd.pairAA.sublist hA, ?_⟩
  · obtain ⟨x, y⟩ := hd.memA a (hA.subset ha)
    exact ⟨x, by rw [getD_set_ne true (fun e => hk1 a ha e.symm)]; exact y⟩
  · obtain ⟨x, y⟩ := hd.mem q (hc.subset hq)
    exact ⟨x, by rw [getD_set_ne true (fun e => hk2 q hq e.symm)]; exact y⟩
  · have hne : k ≠ j := fun q => by
      subst q
      simp [Array.getD, hd.size, hlt] at hlj
    rw [getD_set_ne true hne] at hlj
    rcases hd.all j hj hlj with ⟨q, hq, rfl⟩ | ⟨a, ha, rfl⟩
    · exact .inl ⟨q, hall q hq (fun e => hne e.symm), rfl⟩
    · exact .inr ⟨a, hallA a ha (fun e => hne e.symm), rfl⟩
  · intro j oj hj hlj x hx hbx
    by_cases hij : k = j
    · subst hij
      have : oj = o := Option.some.inj (hj.symm.trans ho)
      subst this
      exact getD_set_true (hdeps x hx hbx)
    · rw [getD_set_ne false hij] at hlj
      exact getD_set_true (hd.closed j oj hj hlj x hx hbx)

structure PendOK (C : Cfg) (E : Env) (S : AS) (l : List AV) (n0 : Nat) (a : PEnt) : Prop where
  op : a.o.op = .alloc a.T
  gd : a.o.guard = none
  z : azero C.P a.T = some a.z
  j : E.j a.id = none
  lo : n0 ≤ a.id
  hi : a.id < S.objs.length
  obj : S.objs[a.id]? = some (.cells a.z a.T)
  tmp : ∀ d, a.o.dst = some d → d < l.length → l[d]? = some (.ptr a.id 0)

theorem aput_length {l : List AV} {d : Option Tmp} {x : AV} : (aput l d x).length = l.length := by cases d <;> simp [aput]

theorem draw_any2 (hN : NamesOK C.P) (hL : LwOK C L) {mu : Bool} {ops : Array Oper} (hb : aback ops = true) {l' : List AV} {n0 : Nat} : ∀ (fuel : Nat) {listed : Array Bool} {A : List PEnt} {c : List Ent} {l lm : List AV} {S : AS} {act : Act} {w : World} {E : Env},
    A.length + c.length ≤ fuel → DInv2 ops listed A c → TRun C L mu ops c l S l' S' → SR B0 w0 E S w → Pair (VR E w) lm act.tmps.toList → lm.length = l.length →
    (∀ t, (∀ a ∈ A, a.o.dst ≠ some t) → lm[t]? = l[t]?) → (∀ a ∈ A, PendOK C E S l n0 a) → (A.Pairwise fun a b => a.id ≠ b.id) → n0 ≤ S.objs.length →
    (∀ act' w' E', SR B0 w0 E' S' w' → Step n0 S.ends.length E w E' w' → Low S S' → Pair (VR E' w') l' act'.tmps.toList → act'.defers = act.defers → Q .normal act' w') →
    wpAnyIn (fenceOf r) 0 C.P .any ops Q fuel listed act w := by
  have nothing : ∀ {listed : Array Bool} {A : List PEnt} {c : List Ent}, DInv2 ops listed A c → Region.ready .any ops listed = [] → A = [] ∧ c = [] := by
    intro listed A c hd hr
    have key : ∀ (m i : Nat), i ≤ m → i < ops.size → listed.getD i true = false → False := by
      intro m
      induction m with
      | zero =>
        intro i him hi hl
        have : i ∈ Region.ready .any ops listed := by
          refine mem_ready.2 ⟨hl, ops[i], by simp [hi], fun x hx hbx => ?_⟩
          have hback := List.all_eq_true.1 hb i (by simpa using hi)
          rw [Array.getElem?_eq_getElem hi] at hback
          have h1 := List.all_eq_true.1 hback x (by simpa using hx)
          rw [hbx] at h1
          have h2 : x.on < i := by simpa using h1
          omega
        rw [hr] at this
        cases this
      | succ m ih =>
        intro i him hi hl
        have : i ∈ Region.ready .any ops listed := by
          refine mem_ready.2 ⟨hl, ops[i], by simp [hi], fun x hx hbx => ?_⟩
          have hback := List.all_eq_true.1 hb i (by simpa using hi)
          rw [Array.getElem?_eq_getElem hi] at hback
          have h1 := List.all_eq_true.1 hback x (by simpa using hx)
          rw [hbx] at h1
          have h2 : x.on < i := by simpa using h1
          cases hq : listed.getD x.on true with
          | true => rw [← getD_two (by rw [hd.size]; omega)]; exact hq
          | false => exact (ih x.on (by omega) (by omega) hq).elim
        rw [hr] at this
        cases this
    refine ⟨?_, ?_⟩
    · cases A with
      | nil => rfl
      | cons a A =>
        obtain ⟨x, y⟩ := hd.memA a (by simp)
        exact (key a.i a.i (Nat.le_refl _) (Array.getElem?_eq_some_iff.1 x).1 y).elim
    · cases c with
      | nil => rfl
      | cons e c =>
        obtain ⟨x, y⟩ := hd.mem e (by simp)
        exact (key e.1 e.1 (Nat.le_refl _) (Array.getElem?_eq_some_iff.1 x).1 y).elim
  intro fuel
  induction fuel with
  | zero =>
    intro listed A c l lm S act w E hlen hd ht h hp hlm hag hpe hpi hn hQ
    have hA : A = [] := List.length_eq_zero_iff.1 (by omega)
    have hc : c = [] := List.length_eq_zero_iff.1 (by omega)
    subst hA
    subst hc
    have hll : lm = l := List.ext_getElem? fun t => hag t fun a ha => by cases ha
    subst hll
    refine ⟨?_, ?_⟩
    · cases hr : Region.ready .any ops listed with
      | nil => rfl
      | cons i rs =>
        obtain ⟨h1, o, ho, _⟩ := mem_ready.1 (show i ∈ Region.ready .any ops listed by rw [hr]; simp)
        rcases hd.all i (Array.getElem?_eq_some_iff.1 ho).1 h1 with ⟨e, he, _⟩ | ⟨e, he, _⟩ <;> cases he
    · obtain ⟨rfl, rfl⟩ := ht
      exact hQ act w E h (Step.refl _ _ _ _) (Low.refl _) hp rfl
  | succ fuel ih =>
    intro listed A c l lm S act w E hlen hd ht h hp hlm hag hpe hpi hn hQ
    refine ⟨fun hr => ?_, fun i hi => ?_⟩
    · obtain ⟨hA, hc⟩ := nothing hd hr
      subst hA
      subst hc
      have hll : lm = l := List.ext_getElem? fun t => hag t fun a ha => by cases ha
      subst hll
      obtain ⟨rfl, rfl⟩ := ht
      exact hQ act w E h (Step.refl _ _ _ _) (Low.refl _) hp rfl
    · obtain ⟨hl0, o', ho', hdeps⟩ := mem_ready.1 hi
      rcases hd.all i (Array.getElem?_eq_some_iff.1 ho').1 hl0 with ⟨e, he, rfl⟩ | ⟨a, ha, rfl⟩
      · obtain ⟨ho, hl⟩ := hd.mem e he
        have : o' = e.2.1 := Option.some.inj (ho'.symm.trans ho)
        subst this
        obtain ⟨c1, c2, rfl⟩ := List.append_of_mem he
        have hpw := hd.pair
        rw [List.pairwise_append] at hpw
        obtain ⟨p1, p2, p3⟩ := hpw
        have hfront : ∀ q ∈ c1, okPair ops q e := fun q hq => by
          rcases (p3 q hq e (by simp)).2 with k | k
          · exact k
          · have := reach_listed hd.closed ops.size e.1 q.1 e.2.1 ho hdeps k
            obtain ⟨hoq, hlq⟩ := hd.mem q (by simp [hq])
            have hltq : q.1 < ops.size := (Array.getElem?_eq_some_iff.1 hoq).1
            rw [getD_two (by rw [hd.size]; omega), this] at hlq
            cases hlq
        have hAe : ∀ a ∈ A, a.o.apart ops e.2.1 = true ∧ (e.2.2.1 = true ∨ e.2.2.2.1 = true) := fun a ha => by
          rcases (hd.pairA a ha e (by simp)).2 with k | k
          · have := reach_listed hd.closed ops.size e.1 a.i e.2.1 ho hdeps k
            obtain ⟨hoq, hlq⟩ := hd.memA a ha
            have hltq : a.i < ops.size := (Array.getElem?_eq_some_iff.1 hoq).1
            rw [getD_two (by rw [hd.size]; omega), this] at hlq
            cases hlq
          · exact k
        obtain ⟨x, S1, h1, h2⟩ := TRun.front hL c1 ht hfront
        have h1m : atag C L mu ops e.2.1 lm S = some (x, S1, e.2.2) := by
          rw [← h1]
          exact atag_congr fun t ht => hag t fun a ha hdst => (Oper.apart_spec (hAe a ha).1).1 t hdst ht
        obtain ⟨S1', k1, k2, k3, k4⟩ := atag_step hL h1m
        have hsame : ∀ a ∈ A, S1 = S := fun a ha => by
          rcases (hAe a ha).2 with k | k
          · exact (atag_pure h1m k).1
          · exact atag_same h1m k
        have hd' : DInv2 ops (listed.setIfInBounds e.1 true) A (c1 ++ c2) := by
          refine hd.next ho hdeps (List.Sublist.refl _) (List.Sublist.append (List.Sublist.refl _) (List.sublist_cons_self _ _)) (fun a ha => (hd.pairA a ha e (by simp)).1) (fun q hq => ?_) (fun q hq hne => ?_) (fun a ha _ => ha)
          · rcases List.mem_append.1 hq with hq | hq
            · have := (p3 q hq e (by simp)).1; omega
            · have := (List.pairwise_cons.1 p2).1 q hq; omega
          · simp only [List.mem_append, List.mem_cons] at hq ⊢
            rcases hq with hq | rfl | hq
            · exact .inl hq
            · exact absurd rfl hne
            · exact .inr hq
        unfold wpOpIn
        rw [ho]
        refine astep_sound hN hL (h.of_eq (S2 := amark S) rfl rfl) hp k1 fun y E' w' q2 q3 q4 => ?_
        have q2' : SR B0 w0 E' S1 w' := q2.of_eq k2 k3
        have hp' : Pair (VR E' w') (aput lm e.2.1.dst x) (act.put e.2.1.dst y).tmps.toList := by
          cases hdst : e.2.1.dst with
          | none => exact hp.ext q3.toExt
          | some d => exact (hp.ext q3.toExt).put q4 d
        have q3' : Step S.objs.length S.ends.length E w E' w' := q3
        have q3n : Step n0 S.ends.length E w E' w' := (Step.refl n0 S.ends.length E w).trans q3' hn (Nat.le_refl _)
        refine ih (A := A) (by simp only [List.length_append, List.length_cons] at hlen ⊢; omega) hd' h2 q2' hp' (by rw [aput_length, aput_length]; exact hlm) (fun t ht => ?_) (fun a ha => ?_) hpi (Nat.le_trans hn k4.len) fun act' w'' E'' r1 r2 r3 r4 r5 => hQ act' w'' E'' r1 (q3n.trans r2 (Nat.le_refl _) k4.tlen) (k4.trans r3) r4 (r5.trans ?_)
        · cases hdst : e.2.1.dst with
          | none => exact hag t ht
          | some d =>
            by_cases hdt : d = t
            · subst hdt
              simp only [aput, List.getElem?_set, hlm, ↓reduceIte]
              try (by_cases hdl : d < l.length <;> simp [hdl]; try exact (by rw [List.getElem?_eq_none (by omega), List.getElem?_eq_none (by omega)]))
            · rw [aput_get (fun q => hdt (Option.some.inj q)), aput_get (fun q => hdt (Option.some.inj q))]
              exact hag t ht
        · have hs := hsame a ha
          subst hs
          have p := hpe a ha
          refine ⟨p.op, p.gd, p.z, ?_, p.lo, p.hi, p.obj, fun d hdd hlt => ?_⟩
          · cases hj : E'.j a.id with
            | none => rfl
            | some g =>
              rcases q3'.jid a.id (by rw [hj]; simp) with q | q
              · exact absurd p.j q
              · have := p.hi; omega
          · rw [aput_get ((Oper.apart_spec (hAe a ha).1).2.1 d hdd)]
            exact p.tmp d hdd (by rw [aput_length] at hlt; exact hlt)
        · cases e.2.1.dst <;> rfl
      · obtain ⟨ho, hl⟩ := hd.memA a ha
        have : o' = a.o := Option.some.inj (ho'.symm.trans ho)
        subst this
        obtain ⟨A1, A2, rfl⟩ := List.append_of_mem ha
        have p := hpe a ha
        have hpw := hd.pairAA
        rw [List.pairwise_append] at hpw
        obtain ⟨p1, p2, p3⟩ := hpw
        have hpw2 := hpi
        rw [List.pairwise_append] at hpw2
        obtain ⟨s1, s2, s3⟩ := hpw2
        have hne : ∀ b ∈ A1 ++ A2, b.i ≠ a.i ∧ b.id ≠ a.id ∧ ∀ d, a.o.dst = some d → b.o.dst ≠ some d := fun b hb => by
          rcases List.mem_append.1 hb with hb | hb
          · obtain ⟨x1, x2⟩ := p3 b hb a (by simp)
            exact ⟨x1, s3 b hb a (by simp), fun d hd he => (Oper.apart_spec x2).2.1 d he hd⟩
          · obtain ⟨x1, x2⟩ := (List.pairwise_cons.1 p2).1 b hb
            exact ⟨fun e => x1 e.symm, fun e => (List.pairwise_cons.1 s2).1 b hb e.symm, fun d hd he => (Oper.apart_spec x2).2.1 d hd he⟩
        have hd' : DInv2 ops (listed.setIfInBounds a.i true) (A1 ++ A2) c := by
          refine hd.next ho hdeps (List.Sublist.append (List.Sublist.refl _) (List.sublist_cons_self _ _)) (List.Sublist.refl _) (fun b hb => (hne b hb).1) (fun q hq e => (hd.pairA a ha q hq).1 e.symm) (fun q hq _ => hq) (fun b hb hbi => ?_)
          simp only [List.mem_append, List.mem_cons] at hb ⊢
          rcases hb with hb | rfl | hb
          · exact .inl hb
          · exact absurd rfl hbi
          · exact .inr hb
        obtain ⟨y, w', E', e1, e2, e3, e4, e5⟩ := slot_sound (n0 := n0) h p.j p.hi p.lo p.z p.obj
        unfold wpOpIn
        rw [ho]
        have hw : Region.wanted a.o (yielded ops act.tmps) = true := by unfold Region.wanted; rw [p.gd]
        dsimp only
        rw [hw, if_pos rfl]
        refine ⟨fun _ _ => trivial, ?_⟩
        rw [Oper.semAt_eq _ _ _ (by rw [p.op]; intro c e; cases e)]
        have hrun : (execOp act.eval a.o).run C.P w = .ok (.value y) w' := by
          have hop := p.op
          generalize a.o = o at hop ⊢
          obtain ⟨dst, op, ty, pos, after, guard⟩ := o
          dsimp only at hop
          subst hop
          simp [execOp, e1]
        rw [hrun]
        have hp' : Pair (VR E' w') (aput lm a.o.dst (.ptr a.id 0)) (act.put a.o.dst y).tmps.toList := by
          cases hdst : a.o.dst with
          | none => exact hp.ext e3.toExt
          | some d => exact (hp.ext e3.toExt).put e4 d
        refine ih (A := A1 ++ A2) (l := l) (lm := aput lm a.o.dst (.ptr a.id 0)) (S := S) (act := act.put a.o.dst y) (w := w') (E := E') (by simp only [List.length_append, List.length_cons] at hlen ⊢; omega) hd' ht e2 hp' (by rw [aput_length]; exact hlm) (fun t ht => ?_) (fun b hb => ?_) (hpi.sublist (List.Sublist.append (List.Sublist.refl _) (List.sublist_cons_self _ _))) hn fun act' w'' E'' r1 r2 r3 r4 r5 => hQ act' w'' E'' r1 (e3.trans r2 (Nat.le_refl _) (Nat.le_refl _)) r3 r4 (r5.trans ?_)
        · by_cases hdt : a.o.dst = some t
          · rw [hdt]
            simp only [aput, List.getElem?_set, if_true]
            by_cases hlt : t < lm.length
            · rw [if_pos hlt, p.tmp t hdt (by rw [← hlm]; exact hlt)]
            · rw [if_neg hlt]
              exact (List.getElem?_eq_none (Nat.le_of_not_lt (by rw [← hlm]; exact hlt))).symm
          · rw [aput_get hdt]
            refine hag t fun b hb => ?_
            simp only [List.mem_append, List.mem_cons] at hb
            rcases hb with hb | rfl | hb
            · exact ht b (by simp [hb])
            · exact hdt
            · exact ht b (by simp [hb])
        · have pb := hpe b (by simp only [List.mem_append, List.mem_cons] at hb ⊢; rcases hb with hb | hb <;> simp [hb])
          exact ⟨pb.op, pb.gd, pb.z, by rw [e5 _ (hne b hb).2.1]; exact pb.j, pb.lo, pb.hi, pb.obj, pb.tmp⟩
        · cases a.o.dst <;> rfl

theorem posd_mem {ops : Array Oper} {p : Nat × Oper} (h : p ∈ posd ops) : ops[p.1]? = some p.2 := by
  obtain ⟨i, hi⟩ := List.getElem?_of_mem h
  unfold posd at hi
  rw [List.getElem?_zip_eq_some] at hi
  obtain ⟨h1, h2⟩ := hi
  obtain ⟨hlt, h1⟩ := List.getElem?_eq_some_iff.1 h1
  simp at h1
  rw [← h1]
  simpa using h2
theorem posd_all {ops : Array Oper} {i : Nat} (h : i < ops.size) : (i, ops[i]) ∈ posd ops := by
  unfold posd
  refine List.mem_of_getElem? (i := i) ?_
  rw [List.getElem?_zip_eq_some]
  exact ⟨by simp [h], by simp [h]⟩
theorem posd_lt {ops : Array Oper} : (posd ops).Pairwise fun p q => p.1 < q.1 := by
  unfold posd
  rw [List.pairwise_iff_getElem]
  intro i j hi hj hij
  simp only [List.getElem_zip, List.getElem_range]
  exact hij
theorem allPairs_pw {α : Type} {r : α → α → Bool} : ∀ {l : List α}, allPairs r l = true → l.Pairwise fun a b => r a b = true
  | [], _ => List.Pairwise.nil
  | x :: xs, h => by
    simp only [allPairs, Bool.and_eq_true] at h
    exact List.pairwise_cons.2 ⟨fun y hy => List.all_eq_true.1 h.1 y hy, allPairs_pw h.2⟩
def ents2 (ps : List (Nat × Oper)) (ts : List Tag) : List Ent := (ps.zip ts).map fun p => (p.1.1, p.1.2, p.2)
theorem aTags_run2 {mu : Bool} {ops : Array Oper} : ∀ (ps : List (Nat × Oper)) {l l' : List AV} {S S' : AS} {ts : List Tag}, aTags C L mu ops (ps.map (·.2)) l S = some (l', S', ts) → TRun C L mu ops (ents2 ps ts) l S l' S' ∧ ts.length = ps.length
  | [], l, l', S, S', ts, h => by simp only [List.map_nil, aTags] at h; cases h; exact ⟨⟨rfl, rfl⟩, rfl⟩
  | p :: ps, l, l', S, S', ts, h => by
    simp only [List.map_cons, aTags] at h
    split at h
    · rename_i x S1 t h1
      split at h
      · rename_i l2 S2 ts2 h2
        cases h
        obtain ⟨h3, h4⟩ := aTags_run2 ps h2
        exact ⟨⟨x, S1, h1, h3⟩, by simp [h4]⟩
      · cases h
    · cases h

theorem aDraw2_sound (hN : NamesOK C.P) (hL : LwOK C L) (hm : C.P.follows .mixedOrders = true) {mu : Bool} {ops : Array Oper} {id : Nat} {l l' : List AV} {act : Act} (hg : ((allocsP ops).all fun a => a.2.guard.isNone) = true) (hx : aDraw2 C L mu ops l S = some (l', S')) (h : SR B0 w0 E S w) (hp : Pair (VR E w) l act.tmps.toList)
    (hQ : ∀ act' w' E', SR B0 w0 E' S' w' → Step S.objs.length S.ends.length E w E' w' → Low S S' → Pair (VR E' w') l' act'.tmps.toList → act'.defers = act.defers → Q .normal act' w') :
    (Code.region id ops true).wpIn (fenceOf r) 0 C.P Q act w := by
  refine wpIn_region_any hm ?_
  rw [World.drew_eq]
  obtain ⟨k1, k2⟩ := h.later (grownBy_drew w)
  unfold aDraw2 at hx
  split at hx
  · rename_i l1 S1 hpre
    split at hx
    · rename_i l2 S2 ts ht
      split at hx
      · rename_i hc
        cases hx
        simp only [Bool.and_eq_true] at hc
        obtain ⟨⟨hc1, hc2⟩, hc3⟩ := hc
        unfold aPairs2 at hc3
        simp only [Bool.and_eq_true] at hc3
        obtain ⟨⟨b1, b2⟩, b3⟩ := hc3
        obtain ⟨t1, t2⟩ := aTags_run2 (othersP ops) ht
        obtain ⟨as, r1, r2, r3, r4, r5, r6, r7, r8⟩ := preA_spec (ops := ops) hpre (allPairs_pw b3)
        have hasm : ∀ a ∈ as, (a.i, a.o) ∈ allocsP ops := fun a ha => by rw [← r1]; exact List.mem_map_of_mem ha
        have hent : ∀ q ∈ ents2 (othersP ops) ts, ∃ p ∈ (othersP ops).zip ts, q = (p.1.1, p.1.2, p.2) := fun q hq => by
          obtain ⟨p, hp, rfl⟩ := List.mem_map.1 hq
          exact ⟨p, hp, rfl⟩
        have hzl : ∀ p ∈ (othersP ops).zip ts, p.1 ∈ othersP ops := fun p hp => by
          obtain ⟨⟨a, b⟩, c⟩ := p
          exact (List.of_mem_zip hp).1
        have low0 : Low S S1 := by
          have : ∀ (ps : List (Nat × Oper)) {l l' : List AV} {S S' : AS}, preA C ps l S = some (l', S') → Low S S' := by
            intro ps
            induction ps with
            | nil => intro l l' S S' h; simp only [preA] at h; cases h; exact Low.refl _
            | cons p ps ih =>
              intro l l' S S' h
              simp only [preA] at h
              split at h
              · split at h
                · exact (Low.push _ _).trans (ih h)
                · cases h
              · cases h
          exact this _ hpre
        refine draw_any2 hN hL hc2 (n0 := S.objs.length) ops.size (A := as) (c := ents2 (othersP ops) ts) (l := l1) (lm := l) ?_ ?_ t1 (k1.grow r4 r5 r6) (hp.ext k2.toExt) r2.symm (fun t ht => (r3 t ht).symm) (fun a ha => ?_) r8 r4 fun act' w' E' q1 q2 q3 q4 q5 => hQ act' w' E' q1 (k2.trans q2 (Nat.le_refl _) (by rw [r6]; exact Nat.le_refl _)) (low0.trans q3) q4 q5
        · have e1 : as.length = (allocsP ops).length := by rw [← r1]; simp
          have e2 : (ents2 (othersP ops) ts).length = (othersP ops).length := by simp [ents2, t2]
          have e3 : (allocsP ops).length + (othersP ops).length = (posd ops).length := by
            unfold allocsP othersP
            generalize posd ops = ps
            induction ps with
            | nil => rfl
            | cons p ps ih =>
              simp only [List.filter_cons]
              cases isAlloc p.2.op <;> simp <;> omega
          have e4 : (posd ops).length = ops.size := by simp [posd]
          omega
        · refine ⟨by simp, fun a ha => ?_, fun q hq => ?_, fun i hi _ => ?_, ?_, fun a ha q hq => ?_, ?_, fun j oj _ hl => ?_⟩
          · have hm1 := posd_mem (List.mem_filter.1 (hasm a ha)).1
            have : a.i < ops.size := (Array.getElem?_eq_some_iff.1 hm1).1
            exact ⟨hm1, by simp [this]⟩
          · obtain ⟨p, hpz, rfl⟩ := hent q hq
            have hm1 := posd_mem (List.mem_filter.1 (hzl p hpz)).1
            have : p.1.1 < ops.size := (Array.getElem?_eq_some_iff.1 hm1).1
            exact ⟨hm1, by simp [this]⟩
          · have hm1 := posd_all hi
            cases ha : isAlloc ops[i].op with
            | true =>
              right
              have : (i, ops[i]) ∈ as.map (fun a => (a.i, a.o)) := by rw [r1]; exact List.mem_filter.2 ⟨hm1, ha⟩
              obtain ⟨a, h1, h2⟩ := List.mem_map.1 this
              exact ⟨a, h1, (Prod.mk.inj h2).1⟩
            | false =>
              left
              have : (i, ops[i]) ∈ othersP ops := List.mem_filter.2 ⟨hm1, by simp [ha]⟩
              obtain ⟨m, hm⟩ := List.getElem?_of_mem this
              have hml : m < ts.length := by rw [t2]; exact (List.getElem?_eq_some_iff.1 hm).1
              refine ⟨(i, ops[i], ts[m]), List.mem_map.2 ⟨((i, ops[i]), ts[m]), List.mem_of_getElem? (i := m) ?_, rfl⟩, rfl⟩
              rw [List.getElem?_zip_eq_some]
              exact ⟨hm, by simp [hml]⟩
          · have hb1 := allPairs_pw b1
            have hlt : ((othersP ops).zip ts).Pairwise fun p q => p.1.1 < q.1.1 := by
              have h1 : (othersP ops).Pairwise fun p q => p.1 < q.1 := posd_lt.sublist List.filter_sublist
              rw [List.pairwise_iff_getElem] at h1 ⊢
              intro i j hi hj hij
              simp only [List.getElem_zip]
              exact h1 i j _ _ hij
            unfold ents2
            rw [List.pairwise_map]
            refine (hb1.and hlt).imp fun {p q} hpq => ⟨hpq.2, ?_⟩
            have hk := hpq.1
            simp only [Bool.or_eq_true] at hk
            rcases hk with k | k
            · left
              unfold okPairB at k
              simp only [Bool.and_eq_true, Bool.or_eq_true] at k
              obtain ⟨k1, k2⟩ := k
              refine ⟨k1, ?_⟩
              rcases k2 with (((k2 | k2) | k2) | k2) | k2
              · exact .inl k2
              · exact .inr (.inl k2)
              · exact .inr (.inr (.inl k2))
              · exact .inr (.inr (.inr (.inl k2)))
              · exact .inr (.inr (.inr (.inr k2)))
            · exact .inr k
          · obtain ⟨p, hpz, rfl⟩ := hent q hq
            have h1 := List.all_eq_true.1 (List.all_eq_true.1 b2 (a.i, a.o) (hasm a ha)) p hpz
            have hne : a.i ≠ p.1.1 := fun e => by
              have x1 := posd_mem (List.mem_filter.1 (hasm a ha)).1
              have x2 := posd_mem (List.mem_filter.1 (hzl p hpz)).1
              dsimp only at x1
              rw [e] at x1
              have x3 : a.o = p.1.2 := Option.some.inj (x1.symm.trans x2)
              have y1 := (List.mem_filter.1 (hasm a ha)).2
              have y2 := (List.mem_filter.1 (hzl p hpz)).2
              dsimp only at y1
              rw [x3] at y1
              rw [y1] at y2
              cases y2
            refine ⟨hne, ?_⟩
            simp only [Bool.or_eq_true, Bool.and_eq_true] at h1
            exact h1
          · have h1 : (allocsP ops).Pairwise fun p q => p.1 < q.1 := posd_lt.sublist List.filter_sublist
            have h2 := (allPairs_pw b3).and h1
            rw [← r1, List.pairwise_map] at h2
            exact h2.imp fun {a b} hab => ⟨Nat.ne_of_lt hab.2, hab.1⟩
          · rw [show (Array.replicate ops.size false).getD j false = false from getD_replicate_false' ops.size j] at hl
            cases hl
        · obtain ⟨q1, q2, q3, q4, q5, q6⟩ := r7 a ha
          have hgd : a.o.guard = none := by
            have := List.all_eq_true.1 hg (a.i, a.o) (hasm a ha)
            simpa using this
          refine ⟨q1, hgd, q2, ?_, q3, q4, q5, fun d hd hlt => q6 d hd (by rw [r2] at hlt; exact hlt)⟩
          cases hj : E.j a.id with
          | none => rfl
          | some g => have := h.jlt _ _ hj; omega
      · cases hx
    · cases hx
  · cases hx

theorem aDraw_sound (hN : NamesOK C.P) (hL : LwOK C L) (hm : C.P.follows .mixedOrders = true) {mu : Bool} {ops : Array Oper} {id : Nat} {l l' : List AV} {act : Act} (hx : aDraw C L mu ops l S = some (l', S')) (h : SR B0 w0 E S w) (hp : Pair (VR E w) l act.tmps.toList)
    (hQ : ∀ act' w' E', SR B0 w0 E' S' w' → Step S.objs.length S.ends.length E w E' w' → Low S S' → Pair (VR E' w') l' act'.tmps.toList → act'.defers = act.defers → Q .normal act' w') :
    (Code.region id ops true).wpIn (fenceOf r) 0 C.P Q act w := by
  unfold aDraw at hx
  split at hx
  · rename_i hma
    unfold manyA at hma
    simp only [Bool.and_eq_true] at hma
    exact aDraw2_sound hN hL hm hma.2 hx h hp hQ
  · exact aDraw1_sound hN hL hm hx h hp hQ

end
end Go.AM
