/- The fast evaluator: functions. What it says of a call, the abstract machine says. -/
import Derived.Test.YtckjdbmadheamaaGreatDoorA11
set_option linter.all false
namespace Go.Fast
open Go.Vai
variable [S : Sym]

noncomputable def onE (f : Nat → Nat → Nat → Nat → Pth → List FV → List FV → Fr3) (v : FV) : Fr3 := FV.rec (motive_1 := fun _ => Fr3) (motive_2 := fun _ => Unit) (fun t a b c p l m _ _ => f t a b c p l m) () (fun _ _ _ _ => ()) v
theorem onE_eq (f : Nat → Nat → Nat → Nat → Pth → List FV → List FV → Fr3) (v : FV) : onE f v = f v.t v.a v.b v.c v.p v.l v.m := by cases v; rfl
/-- the arguments into the first slots -/
noncomputable def putArgs (l : List FV) : Nat → Fr3 → Fr3 := List.rec (motive := fun _ => Nat → Fr3 → Fr3) (fun _ e => e) (fun x _ ih i e => onE (fun t a b c p l m => ih (Nat.add i 1) ((slot i).s e ⟨t, a, b, c, p, l, m⟩)) x) l

theorem enterE_lt : ∀ (l : List AV) (i x : Nat), x < i → enterE l i x = none
  | [], _, _, _ => rfl
  | v :: l, i, x, h => by
    simp only [enterE]
    rw [if_neg (by omega), enterE_lt l (i + 1) x (by omega)]
theorem putArgs_ok : ∀ (l : List FV) (i : Nat) (e : Fr3), i + l.length ≤ 512 → badL l = false → ∀ x, decE (putArgs l i e) x = match enterE (decL l) i x with | some v => some v | none => decE e x
  | [], _, _, _, _, _ => by rw [decL_nil]; rfl
  | v :: l, i, e, hl, hb, x => by
    rw [badL_cons, Bool.or_eq_false_iff] at hb
    rw [List.length_cons] at hl
    have hv : v.t ≠ 99 := beq_f hb.1
    have e1 : putArgs (v :: l) i e = putArgs l (i + 1) ((slot i).s e v) := by
      show onE (fun t a b c p l' m => putArgs l (i + 1) ((slot i).s e ⟨t, a, b, c, p, l', m⟩)) v = _
      rw [onE_eq, mk_eq]
    rw [e1, putArgs_ok l (i + 1) _ (by omega) hb.2, decL_cons, decE_set (by omega) hv]
    simp only [enterE, Env.set]
    by_cases hx : x = i
    · rw [if_pos hx, if_pos hx, enterE_lt _ _ _ (by omega)]
    · rw [if_neg hx, if_neg hx]

theorem Fr1z_g (d : D8) : (Fr1At d).g Fr1z = bad := by cases d <;> rfl
theorem Fr2z_g (d : D8) : (Fr2At d).g Fr2z = Fr1z := by cases d <;> rfl
theorem Fr3z_g (d : D8) : (Fr3At d).g Fr3z = Fr2z := by cases d <;> rfl
theorem decE_z : decE Fr3z = fun _ => none := by
  funext t
  unfold decE
  have : (slot t).g Fr3z = bad := by
    simp only [slot, Fr3z_g, Fr2z_g, Fr1z_g]
  rw [this]
  split
  · rfl
  · rfl
theorem enter_ok {l : List FV} (h : l.length ≤ 512) (hb : badL l = false) : decE (putArgs l 0 Fr3z) = enterE (decL l) 0 := by
  funext x
  rw [putArgs_ok l 0 Fr3z (by omega) hb, decE_z]
  cases enterE (decL l) 0 x <;> rfl

noncomputable def resV (P : Program) : ResultVar → PK
  | .tmp t => movK (opdK (.tmp t))
  | .cell a t => match isAggT P t, sizeT P t with
    | some false, _ => loadC (opdK (.tmp a))
    | some true, some n => if n = 0 then badPK else loadA n (opdK (.tmp a))
    | _, _ => badPK
noncomputable def resK (P : Program) : List ResultVar → PK
  | [] => ⟨fun _ _ => V0 16⟩
  | x :: l => ⟨fun e h => onV (fun t a b c p q m => iV (Nat.beq t 99) bad (onV (fun t2 _ _ _ _ r _ => iV (Nat.beq t2 16) ⟨16, 0, 0, 0, p0, ⟨t, a, b, c, p, q, m⟩ :: r, []⟩ bad) ((resK P l).run e h))) ((resV P x).run e h)⟩
noncomputable def finK (P : Program) (l : List ResultVar) : PK := match l with
  | [x] => resV P x
  | l => resK P l
theorem res_cons {P : Program} {x : ResultVar} {l : List ResultVar} {e : Fr3} {h : FH} {r : FV} (hr : r = (resV P x).run e h) (g : r.t ≠ 99) : resultsA P (decE e) (decH h) (x :: l) = (resultsA P (decE e) (decH h) l).map (dec r :: ·) := by
  cases x with
  | tmp t =>
    have o1 : opd (decE e) (.tmp t) = some (dec r) := opdK_ok (.tmp t) e r hr g
    have o1 : decE e t = some (dec r) := o1
    simp only [resultsA, o1, Option.bind_eq_bind, Option.bind_some]
    cases resultsA P (decE e) (decH h) l <;> rfl
  | cell a t =>
    have hl : ∃ b o, opd (decE e) (.tmp a) = some (.ptr b o) ∧ loadT P (decH h) t b o = some (dec r) := by
      simp only [resV] at hr
      split at hr
      · rename_i ha; exact loadC_ok' ha hr g
      · rename_i ha hn
        split at hr
        · exact absurd (by rw [hr]; rfl) g
        · rename_i h0; exact loadA_ok' ha hn h0 hr g
      · exact absurd (by rw [hr]; rfl) g
    obtain ⟨b, o, o1, hl⟩ := hl
    have o1 : decE e a = some (.ptr b o) := o1
    simp only [resultsA, o1, Option.bind_eq_bind, Option.bind_some, hl]
    cases resultsA P (decE e) (decH h) l <;> rfl
theorem resK_ok {P : Program} : ∀ (l : List ResultVar) {e : Fr3} {h : FH} {r : FV}, r = (resK P l).run e h → r.t ≠ 99 → r.t = 16 ∧ resultsA P (decE e) (decH h) l = some (decL r.l)
  | [], e, h, r, hr, _ => by
    have hr : r = V0 16 := hr
    rw [hr]
    exact ⟨rfl, by show some [] = some (decL []); rw [decL_nil]⟩
  | x :: l, e, h, r, hr, g => by
    simp only [resK, onV_eq, mk_eq] at hr
    rcases iV_or hr with ⟨_, h1⟩ | ⟨h1, hr⟩
    · exact absurd (by rw [h1]; rfl) g
    · have h1 := beq_f h1
      obtain ⟨h2, hr⟩ := iV_inv hr g
      have h2 := beq_t h2
      obtain ⟨_, q2⟩ := resK_ok l (e := e) (h := h) rfl (show ((resK P l).run e h).t ≠ 99 by omega)
      rw [hr]
      refine ⟨rfl, ?_⟩
      rw [res_cons rfl h1, q2]
      show some (_ :: _) = some (decL (_ :: _))
      rw [decL_cons]
theorem finK_ok {P : Program} {fn : Func} {e : Fr3} {h : FH} {r : FV} {x : Nat} (hr : r = (finK P fn.results.toList).run e h) (g : r.t ≠ 99) (hx : x = 0 ∨ x = 2) : finishA P fn (exOf x, decE e, decH h) = some (dec r, decH h) := by
  have hex : ∀ (X : Option (AV × AH)), (match exOf x with | .exit _ => none | _ => X) = X := by
    intro X
    rcases hx with rfl | rfl <;> rfl
  unfold finishA
  refine (hex _).trans ?_
  generalize hl : fn.results.toList = l at *
  unfold finK at hr
  split at hr
  · rename_i y
    rw [res_cons hr g]
    rfl
  · rename_i hn
    obtain ⟨q1, q2⟩ := resK_ok l hr g
    simp only [q2, Option.bind_eq_bind, Option.bind_some]
    rw [dec_tup q1]
    rcases hd : decL r.l with _ | ⟨a, _ | ⟨b, m⟩⟩
    · rfl
    · exfalso
      rcases l with _ | ⟨y, _ | ⟨z, l⟩⟩
      · simp only [resultsA] at q2
        rw [hd] at q2; cases q2
      · exact hn y rfl
      · have hlen : ∀ (l : List ResultVar) (vs : List AV), resultsA P (decE e) (decH h) l = some vs → vs.length = l.length := by
          intro l
          induction l with
          | nil => intro vs hv; simp only [resultsA] at hv; cases hv; rfl
          | cons y l ih =>
            intro vs hv
            cases y with
            | tmp t =>
              simp only [resultsA, Option.bind_eq_bind] at hv
              obtain ⟨v, _, hv⟩ := Option.bind_eq_some_iff.1 hv
              obtain ⟨us, hu, hv⟩ := Option.bind_eq_some_iff.1 hv
              cases hv
              rw [List.length_cons, ih us hu, List.length_cons]
            | cell a t =>
              simp only [resultsA, Option.bind_eq_bind] at hv
              obtain ⟨v, _, hv⟩ := Option.bind_eq_some_iff.1 hv
              split at hv
              · obtain ⟨w, _, hv⟩ := Option.bind_eq_some_iff.1 hv
                obtain ⟨us, hu, hv⟩ := Option.bind_eq_some_iff.1 hv
                cases hv
                rw [List.length_cons, ih us hu, List.length_cons]
              · cases hv
        have := hlen _ _ q2
        rw [hd] at this
        simp at this
    · rfl

noncomputable def fnK (P : Program) (ext : FuncId → Option Row) (g : Nat) : FnK :=
  match ext g with
  | some r => rowK P r
  | none => match P.funcs[g]? with
    | some fn => match fn.body with
      | some c => if fn.ntmps ≤ 512 then ⟨fun cf n args h => iC (Nat.ble (lenL args) fn.ntmps)
          (RR.rec (motive := fun _ => CR) (fun x e h => iC (orB (Nat.beq x 0) (Nat.beq x 2)) (onC (fun t a b c p l m => FH.rec (motive := fun _ => CR) (fun k hh => ⟨⟨t, a, b, c, p, l, m⟩, ⟨k, hh⟩⟩) h) ((finK P fn.results.toList).run e h)) (failC h)) ((codeK P fn.ntmps c).run cf n (putArgs args 0 Fr3z) h)) (failC h)⟩ else badFn
      | none => badFn
    | none => badFn
/-- answers to calls that are known -/
abbrev Orc := Nat → List FV → FV
def OrcOk (P : Program) (ext : FuncId → Option Row) (orc : Orc) : Prop := ∀ (n g : Nat) (args : List FV) (r : FV) (h : AH), r = orc g args → r.t ≠ 99 → badL args = false → evF P ext (n + 1) g (decL args) h = some (dec r, h)
noncomputable def noOrc : Orc := fun _ _ => bad
theorem noOrc_ok (P : Program) (ext : FuncId → Option Row) : OrcOk P ext noOrc := fun _ _ _ r _ hr g => absurd (by rw [hr]; rfl) g
noncomputable def askK (o : FV) (h : FH) (c : CR) : CR := onC (fun t a b c' p l m => iC (Nat.beq t 99) c ⟨⟨t, a, b, c', p, l, m⟩, h⟩) o
noncomputable def evK (P : Program) (ext : FuncId → Option Row) (orc : Orc) (n : Nat) : CallK :=
  Nat.rec (motive := fun _ => CallK) (fun _ _ h => failC h) (fun n ih g args h => askK (orc g args) h ((fnK P ext g).run ih n args h)) n

theorem fnK_ok {P : Program} {ext : FuncId → Option Row} {n : Nat} {ck : CallK} (ih : CallOk ck (evF P ext n)) {f : Nat} {args : List FV} {h : FH} {r : CR} (hr : r = (fnK P ext f).run ck n args h) (g : r.v.t ≠ 99) (hb : badL args = false) :
    h.n.dec ≤ r.h.n.dec ∧ evF P ext (n + 1) f (decL args) (decH h) = some (dec r.v, decH r.h) := by
  have bad' : ∀ {p : Prop}, r = failC h → p := fun hh => absurd (by rw [hh]; rfl) g
  simp only [evF]
  unfold fnK at hr
  cases hx : ext f with
  | some row =>
    rw [hx] at hr
    exact rowK_ok P row _ _ ih n args h r hr g hb
  | none =>
    rw [hx] at hr
    dsimp only at hr ⊢
    cases hf : P.funcs[f]? with
    | none => rw [hf] at hr; exact bad' hr
    | some fn =>
      rw [hf] at hr
      dsimp only at hr
      cases hc : fn.body with
      | none => rw [hc] at hr; exact bad' hr
      | some c =>
        rw [hc] at hr
        dsimp only at hr
        split at hr
        · rename_i h512
          have hr : r = iC (Nat.ble (lenL args) fn.ntmps) (iC (orB (Nat.beq ((codeK P fn.ntmps c).run ck n (putArgs args 0 Fr3z) h).x 0) (Nat.beq ((codeK P fn.ntmps c).run ck n (putArgs args 0 Fr3z) h).x 2))
              (onC (fun t a b c' p l m => ⟨⟨t, a, b, c', p, l, m⟩, ((codeK P fn.ntmps c).run ck n (putArgs args 0 Fr3z) h).h⟩) ((finK P fn.results.toList).run ((codeK P fn.ntmps c).run ck n (putArgs args 0 Fr3z) h).e ((codeK P fn.ntmps c).run ck n (putArgs args 0 Fr3z) h).h)) (failC ((codeK P fn.ntmps c).run ck n (putArgs args 0 Fr3z) h).h)) (failC h) := hr
          generalize hq : (codeK P fn.ntmps c).run ck n (putArgs args 0 Fr3z) h = q at hr
          rw [lenL_eq] at hr
          obtain ⟨h1, hr⟩ := iC_inv hr g
          have h1 := ble_t h1
          obtain ⟨h2, hr⟩ := iC_inv hr g
          rw [onC_eq, mk_eq] at hr
          have hxx : q.x = 0 ∨ q.x = 2 := by
            rw [orB_eq, Bool.or_eq_true] at h2
            rcases h2 with h | h
            · exact .inl (beq_t h)
            · exact .inr (beq_t h)
          obtain ⟨q1, q2⟩ := codeK_ok P fn.ntmps c _ _ ih n _ h q hq.symm (by omega)
          rw [enter_ok (by omega) hb] at q2
          have gv : ((finK P fn.results.toList).run q.e q.h).t ≠ 99 := by rw [hr] at g; exact g
          have hfin := finK_ok (fn := fn) (x := q.x) rfl gv hxx
          rw [hr]
          refine ⟨q1, ?_⟩
          simp only [hc, Option.bind_eq_bind, Option.bind_some]
          rw [if_neg (by rw [decL_len]; omega), q2]
          exact hfin
        · exact bad' hr
theorem evK_ok {P : Program} {ext : FuncId → Option Row} {orc : Orc} (ho : OrcOk P ext orc) : ∀ n, CallOk (evK P ext orc n) (evF P ext n) := by
  intro n
  induction n with
  | zero => intro f args h r hr g; exact absurd (by rw [hr]; rfl) g
  | succ n ih =>
    intro f args h r hr g hb
    have hr : r = askK (orc f args) h ((fnK P ext f).run (evK P ext orc n) n args h) := hr
    simp only [askK, onC_eq, mk_eq] at hr
    rcases iC_or hr with ⟨_, hr⟩ | ⟨h1, hr⟩
    · exact fnK_ok ih hr g hb
    · rw [hr]
      exact ⟨Nat.le_refl _, ho n f args _ (decH h) rfl (beq_f h1) hb⟩

/-- what the fast evaluator says, the abstract machine says -/
theorem evF_of_evK {P : Program} {ext : FuncId → Option Row} {orc : Orc} (ho : OrcOk P ext orc) {n : Nat} {f : FuncId} {args : List FV} {h : FH} {r : CR} (hr : evK P ext orc n f args h = r) (g : r.v.t ≠ 99) (hb : badL args = false) :
    evF P ext n f (decL args) (decH h) = some (dec r.v, decH r.h) := (evK_ok ho n f args h r hr.symm g hb).2

#print axioms evF_of_evK

end Go.Fast
