/- The fast evaluator: regions. -/
import Derived.Test.YtckjdbmadheamaaGreatDoorA9
set_option linter.all false
namespace Go.Fast
open Go.Vai
variable [S : Sym]

/- equal values -/
noncomputable def pEq (p q : Pth) : Bool := Nat.beq p.dec q.dec
noncomputable def eqF (x : FV) : FV → Bool :=
  FV.rec (motive_1 := fun _ => FV → Bool) (motive_2 := fun _ => List FV → Bool)
    (fun t a b c p _ _ ihl ihm y => onB (fun t' a' b' c' p' l' m' => andB (Nat.beq t t') (andB (Nat.beq a a') (andB (Nat.beq b b') (andB (Nat.beq c c') (andB (pEq p p') (andB (ihl l') (ihm m'))))))) y)
    (fun l => List.rec (motive := fun _ => Bool) true (fun _ _ _ => false) l)
    (fun _ _ ihx ihl l => List.rec (motive := fun _ => Bool) false (fun y l' _ => andB (ihx y) (ihl l')) l) x
noncomputable def eqFL (x : List FV) : List FV → Bool :=
  FV.rec_1 (motive_1 := fun _ => FV → Bool) (motive_2 := fun _ => List FV → Bool)
    (fun t a b c p _ _ ihl ihm y => onB (fun t' a' b' c' p' l' m' => andB (Nat.beq t t') (andB (Nat.beq a a') (andB (Nat.beq b b') (andB (Nat.beq c c') (andB (pEq p p') (andB (ihl l') (ihm m'))))))) y)
    (fun l => List.rec (motive := fun _ => Bool) true (fun _ _ _ => false) l)
    (fun _ _ ihx ihl l => List.rec (motive := fun _ => Bool) false (fun y l' _ => andB (ihx y) (ihl l')) l) x
mutual
theorem eqF_eq : ∀ (x y : FV), eqF x y = true → x = y
  | ⟨t, a, b, c, p, l, m⟩, y, h => by
    have h : onB (fun t' a' b' c' p' l' m' => andB (Nat.beq t t') (andB (Nat.beq a a') (andB (Nat.beq b b') (andB (Nat.beq c c') (andB (pEq p p') (andB (eqFL l l') (eqFL m m'))))))) y = true := h
    rw [onB_eq] at h
    obtain ⟨h1, h⟩ := andB_t h
    obtain ⟨h2, h⟩ := andB_t h
    obtain ⟨h3, h⟩ := andB_t h
    obtain ⟨h4, h⟩ := andB_t h
    obtain ⟨h5, h⟩ := andB_t h
    obtain ⟨h6, h7⟩ := andB_t h
    have h1 := beq_t h1; have h2 := beq_t h2; have h3 := beq_t h3; have h4 := beq_t h4
    have h5 := Pth.dec_inj (beq_t h5)
    have h6 := eqFL_eq l _ h6
    have h7 := eqFL_eq m _ h7
    cases y
    cases h1; cases h2; cases h3; cases h4; cases h5; cases h6; cases h7
    rfl
theorem eqFL_eq : ∀ (x y : List FV), eqFL x y = true → x = y
  | [], y, h => by
    cases y with
    | nil => rfl
    | cons z y => cases h
  | x :: l, y, h => by
    cases y with
    | nil => cases h
    | cons z y =>
      have h : andB (eqF x z) (eqFL l y) = true := h
      obtain ⟨h1, h2⟩ := andB_t h
      rw [eqF_eq x z h1, eqFL_eq l y h2]
end

mutual
theorem avEq_refl : ∀ (a : AV), avEq a a = true
  | .int _ _ => by simp [avEq]
  | .bool _ => by simp [avEq]
  | .str _ => by simp [avEq]
  | .ptr _ _ => by simp [avEq]
  | .nilp => by simp [avEq]
  | .slice .. => by simp [avEq]
  | .nils => by simp [avEq]
  | .map _ => by simp [avEq]
  | .nilm => by simp [avEq]
  | .func f a b => by simp [avEq, avEqL_refl a, avEqL_refl b]
  | .nilf => by simp [avEq]
  | .iface t a => by simp [avEq, avEq_refl a]
  | .nili => by simp [avEq]
  | .agg l => by simp [avEq, avEqL_refl l]
  | .tup l => by simp [avEq, avEqL_refl l]
theorem avEqL_refl : ∀ (l : List AV), avEqL l l = true
  | [] => by simp [avEqL]
  | a :: l => by simp [avEqL, avEq_refl a, avEqL_refl l]
end

noncomputable def failR (e : Fr3) (h : FH) : RR := ⟨1, e, h⟩
/-- what was at an operation -/
structure Rc where
  e : Fr3
  h : FH
  ran : Bool
  v : FV
  h' : FH
structure TR where
  x : Nat
  e : Fr3
  h : FH
  l : List Rc
structure TK where
  run : CallK → Fr3 → FH → TR
noncomputable def failT (e : Fr3) (h : FH) : TR := ⟨1, e, h, []⟩
noncomputable def iT (c : Bool) (x y : TR) : TR := Bool.rec (motive := fun _ => TR) y x c
noncomputable def onT (f : Nat → Nat → Nat → Nat → Pth → List FV → List FV → TR) (v : FV) : TR := FV.rec (motive_1 := fun _ => TR) (motive_2 := fun _ => Unit) (fun t a b c p l m _ _ => f t a b c p l m) () (fun _ _ _ _ => ()) v
theorem onT_eq (f : Nat → Nat → Nat → Nat → Pth → List FV → List FV → TR) (v : FV) : onT f v = f v.t v.a v.b v.c v.p v.l v.m := by cases v; rfl

/-- a slot to be set, if it is one -/
noncomputable def slD (N : Nat) (d : Option Nat) : Option Sl := match d with
  | none => some ⟨fun _ => bad, fun e _ => e⟩
  | some d => if d < N ∧ d < 512 then some (slot d) else none
theorem slD_ok {N : Nat} {d : Option Nat} {s : Sl} (h : slD N d = some s) (e : Fr3) {v : FV} (g : v.t ≠ 99) : setDst N (decE e) d (dec v) = some (decE (s.s e v)) := by
  cases d with
  | none => cases h; rfl
  | some d =>
    simp only [slD] at h
    split at h
    · rename_i hd
      cases h
      simp only [setDst, if_pos hd.1]
      rw [decE_set hd.2 g]
    · cases h

noncomputable def onCR (f : FV → Pth → HeT → RR) (c : CR) : RR := CR.rec (motive := fun _ => RR) (fun v h => FH.rec (motive := fun _ => RR) (fun n hh => f v n hh) h) c
noncomputable def onCT (f : FV → Pth → HeT → TR) (c : CR) : TR := CR.rec (motive := fun _ => TR) (fun v h => FH.rec (motive := fun _ => TR) (fun n hh => f v n hh) h) c
theorem onCR_eq (f : FV → Pth → HeT → RR) (c : CR) : onCR f c = f c.v c.h.n c.h.h := rfl
theorem onCT_eq (f : FV → Pth → HeT → TR) (c : CR) : onCT f c = f c.v c.h.n c.h.h := rfl
theorem mkH_eq (h : FH) : (⟨h.n, h.h⟩ : FH) = h := rfl
noncomputable def thenR (k : AnyK) (s : Sl) (rest : RK) : RK :=
  match k with
  | .p k => ⟨fun cf e h => onR (fun t a b c p l m => iR (Nat.beq t 99) (failR e h) (rest.run cf (s.s e ⟨t, a, b, c, p, l, m⟩) h)) (k.run e h)⟩
  | .e k => ⟨fun cf e h => onCR (fun v n hh => onR (fun t a b c p l m => iR (Nat.beq t 99) (failR e h) (rest.run cf (s.s e ⟨t, a, b, c, p, l, m⟩) ⟨n, hh⟩)) v) (k.run cf e h)⟩
noncomputable def recT (e : Fr3) (h : FH) (ran : Bool) (v : FV) (h' : FH) (r : TR) : TR := TR.rec (motive := fun _ => TR) (fun x e2 h2 l => ⟨x, e2, h2, ⟨e, h, ran, v, h'⟩ :: l⟩) r
noncomputable def thenT (k : AnyK) (s : Sl) (ran : Bool) (rest : TK) : TK :=
  match k with
  | .p k => ⟨fun cf e h => onT (fun t a b c p l m => iT (Nat.beq t 99) (failT e h) (recT e h ran ⟨t, a, b, c, p, l, m⟩ h (rest.run cf (s.s e ⟨t, a, b, c, p, l, m⟩) h))) (k.run e h)⟩
  | .e k => ⟨fun cf e h => onCT (fun v n hh => onT (fun t a b c p l m => iT (Nat.beq t 99) (failT e h) (recT e h ran ⟨t, a, b, c, p, l, m⟩ ⟨n, hh⟩ (rest.run cf (s.s e ⟨t, a, b, c, p, l, m⟩) ⟨n, hh⟩))) v) (k.run cf e h)⟩
noncomputable def skipP : AnyK := .p ⟨fun _ _ => V0 16⟩
noncomputable def sameB (want b : Bool) : Bool := Bool.rec (motive := fun _ => Bool) (notB b) b want
noncomputable def guardR (g : Sl) (want : Bool) (k skip : RK) : RK :=
  ⟨fun cf e h => onR (fun t a _ _ _ _ _ => iR (Nat.beq t 99) (failR e h) (iR (andB (Nat.beq t 2) (sameB want (Nat.beq a 1))) (k.run cf e h) (skip.run cf e h))) (g.g e)⟩
noncomputable def guardT (g : Sl) (want : Bool) (k skip : TK) : TK :=
  ⟨fun cf e h => onT (fun t a _ _ _ _ _ => iT (Nat.beq t 99) (failT e h) (iT (andB (Nat.beq t 2) (sameB want (Nat.beq a 1))) (k.run cf e h) (skip.run cf e h))) (g.g e)⟩
/-- the slot that a guard looks at, and what it wants -/
noncomputable def guardD (ops : Array Oper) (o : Oper) : Option (Option (Nat × Bool)) := match o.guard with
  | none => some none
  | some (j, want) => match ops[j]? with
    | some oj => match oj.dst with
      | some d => if d < 512 then some (some (d, want)) else none
      | none => none
    | none => none

noncomputable def badRK : RK := ⟨fun _ e h => failR e h⟩
noncomputable def badTK : TK := ⟨fun _ e h => failT e h⟩
noncomputable def regR (P : Program) (N : Nat) (ops : Array Oper) : List Oper → RK
  | [] => ⟨fun _ e h => ⟨0, e, h⟩⟩
  | o :: l => match slD N o.dst, guardD ops o with
    | some s, some none => thenR (compOp P o.op) s (regR P N ops l)
    | some s, some (some (d, want)) => guardR (slot d) want (thenR (compOp P o.op) s (regR P N ops l)) (thenR skipP s (regR P N ops l))
    | _, _ => badRK
noncomputable def regT (P : Program) (N : Nat) (ops : Array Oper) : List Oper → TK
  | [] => ⟨fun _ e h => ⟨0, e, h, []⟩⟩
  | o :: l => match slD N o.dst, guardD ops o with
    | some s, some none => thenT (compOp P o.op) s true (regT P N ops l)
    | some s, some (some (d, want)) => guardT (slot d) want (thenT (compOp P o.op) s true (regT P N ops l)) (thenT skipP s false (regT P N ops l))
    | _, _ => badTK

/- without records it is the same -/
def eraT (t : TR) : RR := ⟨t.x, t.e, t.h⟩
theorem eraT_rec (e : Fr3) (h : FH) (ran : Bool) (v : FV) (h' : FH) (r : TR) : eraT (recT e h ran v h' r) = eraT r := by cases r; rfl
theorem era_then (k : AnyK) (s : Sl) (ran : Bool) (r : RK) (t : TK) (he : ∀ cf e h, r.run cf e h = eraT (t.run cf e h)) (cf : CallK) (e : Fr3) (h : FH) : (thenR k s r).run cf e h = eraT ((thenT k s ran t).run cf e h) := by
  cases k with
  | p k =>
    show onR _ (k.run e h) = eraT (onT _ (k.run e h))
    rw [onR_eq, onT_eq]
    cases Nat.beq (k.run e h).t 99
    · show r.run cf _ h = eraT (recT _ _ _ _ _ _)
      rw [eraT_rec, he]
    · rfl
  | e k =>
    simp only [thenR, thenT, onCR_eq, onCT_eq, onR_eq, onT_eq, mk_eq, mkH_eq]
    cases Nat.beq (k.run cf e h).v.t 99
    · show r.run cf _ _ = eraT (recT _ _ _ _ _ _)
      rw [eraT_rec, he]
    · rfl
theorem era_guard (g : Sl) (want : Bool) (r r' : RK) (t t' : TK) (he : ∀ cf e h, r.run cf e h = eraT (t.run cf e h)) (he' : ∀ cf e h, r'.run cf e h = eraT (t'.run cf e h)) (cf : CallK) (e : Fr3) (h : FH) : (guardR g want r r').run cf e h = eraT ((guardT g want t t').run cf e h) := by
  show onR _ (g.g e) = eraT (onT _ (g.g e))
  rw [onR_eq, onT_eq]
  cases Nat.beq (g.g e).t 99
  · show iR _ _ _ = eraT (iT _ _ _)
    cases andB (Nat.beq (g.g e).t 2) (sameB want (Nat.beq (g.g e).a 1))
    · exact he' cf e h
    · exact he cf e h
  · rfl
theorem era_reg (P : Program) (N : Nat) (ops : Array Oper) : ∀ (l : List Oper) (cf : CallK) (e : Fr3) (h : FH), (regR P N ops l).run cf e h = eraT ((regT P N ops l).run cf e h)
  | [], _, _, _ => rfl
  | o :: l, cf, e, h => by
    simp only [regR, regT]
    split
    · exact era_then _ _ _ _ _ (era_reg P N ops l) cf e h
    · exact era_guard _ _ _ _ _ _ (era_then _ _ _ _ _ (era_reg P N ops l)) (era_then _ _ _ _ _ (era_reg P N ops l)) cf e h
    · rfl

/- what a traced run says -/
noncomputable def decR (r : Rc) : Rec := ⟨decE r.e, decH r.h, r.ran, dec r.v, decH r.h'⟩
def TOk (P : Program) (N : Nat) (ops : Array Oper) (l : List Oper) (k : TK) : Prop :=
  ∀ (ck : CallK) (cf : CallF), CallOk ck cf → ∀ (e : Fr3) (h : FH) (r : TR), r = k.run ck e h → r.x = 0 →
    h.n.dec ≤ r.h.n.dec ∧ evTrace P cf N ops l (decE e) (decH h) = some (r.l.map decR, decE r.e, decH r.h) ∧ ∀ c ∈ r.l, c.ran = true → c.v.t ≠ 99

theorem evTrace_cons {P : Program} {cf : CallF} {N : Nat} {ops : Array Oper} {o : Oper} {l : List Oper} {e e' : Env} {h h' : AH} {b : Bool} {v : AV} {tr : List Rec} {z : Env × AH} (h1 : wantedA ops e o = some b) (h2 : evIf b h (evOp P cf e h o.op) = some (v, h')) (h3 : ¬ h'.next < h.next) (h4 : setDst N e o.dst v = some e') (h5 : evTrace P cf N ops l e' h' = some (tr, z)) :
    evTrace P cf N ops (o :: l) e h = some (⟨e, h, b, v, h'⟩ :: tr, z) := by
  simp only [evTrace, h1, h2, h4, h5, Option.bind_eq_bind, Option.bind_some, if_neg h3]
  rfl

theorem thenT_ok {P : Program} {N : Nat} {ops : Array Oper} {o : Oper} {l : List Oper} {k : AnyK} {s : Sl} {ran : Bool} {rest : TK} (hs : slD N o.dst = some s) (hrest : TOk P N ops l rest)
    {ck : CallK} {cf : CallF} (hck : CallOk ck cf) {e : Fr3} {h : FH} (hk : (ran = true ∧ AOk P o.op k) ∨ (ran = false ∧ k = skipP)) (hw : wantedA ops (decE e) o = some ran)
    {r : TR} (hr : r = (thenT k s ran rest).run ck e h) (hx : r.x = 0) :
    h.n.dec ≤ r.h.n.dec ∧ evTrace P cf N ops (o :: l) (decE e) (decH h) = some (r.l.map decR, decE r.e, decH r.h) ∧ ∀ c ∈ r.l, c.ran = true → c.v.t ≠ 99 := by
  have fin : ∀ (v : FV) (h' : FH), v.t ≠ 99 → h.n.dec ≤ h'.n.dec → evIf ran (decH h) (evOp P cf (decE e) (decH h) o.op) = some (dec v, decH h') → r = recT e h ran v h' (rest.run ck (s.s e v) h') →
      h.n.dec ≤ r.h.n.dec ∧ evTrace P cf N ops (o :: l) (decE e) (decH h) = some (r.l.map decR, decE r.e, decH r.h) ∧ ∀ c ∈ r.l, c.ran = true → c.v.t ≠ 99 := by
    intro v h' gv hle hev hr
    generalize ht : rest.run ck (s.s e v) h' = t at hr
    obtain ⟨x, e2, h2, tl⟩ := t
    have hr : r = ⟨x, e2, h2, ⟨e, h, ran, v, h'⟩ :: tl⟩ := hr
    rw [hr] at hx
    obtain ⟨q1, q2, q3⟩ := hrest ck cf hck _ _ _ ht.symm hx
    rw [hr]
    refine ⟨Nat.le_trans hle q1, ?_, ?_⟩
    · exact evTrace_cons hw hev (by show ¬ h'.n.dec < h.n.dec; omega) (slD_ok hs e gv) q2
    · intro c hc hcr
      rcases List.mem_cons.1 hc with rfl | hc
      · exact gv
      · exact q3 c hc hcr
  have split99 : ∀ (v : FV) (X : TR), r = iT (Nat.beq v.t 99) (failT e h) X → v.t ≠ 99 ∧ r = X := by
    intro v X hX
    cases hb : Nat.beq v.t 99 with
    | true => rw [hb] at hX; rw [hX] at hx; cases hx
    | false => rw [hb] at hX; exact ⟨beq_f hb, hX⟩
  cases k with
  | p k =>
    simp only [thenT, onT_eq, mk_eq] at hr
    obtain ⟨gv, hr⟩ := split99 _ _ hr
    refine fin _ h gv (Nat.le_refl _) ?_ hr
    rcases hk with ⟨hran, hk⟩ | ⟨hran, hk⟩
    · rw [hran]; exact hk cf e h _ rfl gv
    · rw [hran]
      cases hk
      show some (AV.tup [], decH h) = some (dec (V0 16), decH h)
      rw [dec_tup (v := V0 16) rfl]
      show _ = some (AV.tup (decL []), decH h)
      rw [decL_nil]
  | e k =>
    simp only [thenT, onCT_eq, onT_eq, mk_eq, mkH_eq] at hr
    obtain ⟨gv, hr⟩ := split99 _ _ hr
    rcases hk with ⟨hran, hk⟩ | ⟨_, hk⟩
    · obtain ⟨q1, q2⟩ := hk ck cf hck e h _ rfl gv
      exact fin _ _ gv q1 (by rw [hran]; exact q2) hr
    · cases hk

theorem dec_notbool {v : FV} (h : v.t ≠ 2) : ∀ b, dec v ≠ .bool b := by
  obtain ⟨t, a, b, c, p, l, m⟩ := v
  dsimp only at h
  intro q
  match t, h with
  | 2, h => exact absurd rfl h
  | 0, _ | 1, _ | 3, _ | 4, _ | 5, _ | 6, _ | 7, _ | 8, _ | 9, _ | 10, _ | 11, _ | 14, _ | 15, _ | 16, _ => simp only [dec]; intro hh; cases hh
  | 12, _ => cases c <;> (simp only [dec]; intro hh; cases hh)
  | 13, _ => cases l <;> (simp only [dec]; intro hh; cases hh)
  | n + 17, _ => simp only [dec]; intro hh; cases hh

theorem regT_ok (P : Program) (N : Nat) (ops : Array Oper) : ∀ (l : List Oper), TOk P N ops l (regT P N ops l)
  | [] => by
    intro ck cf _ e h r hr _
    have hr : r = ⟨0, e, h, []⟩ := hr
    rw [hr]
    exact ⟨Nat.le_refl _, rfl, fun c hc => by cases hc⟩
  | o :: l => by
    intro ck cf hck e h r hr hx
    simp only [regT] at hr
    split at hr
    · rename_i s hs hg
      refine thenT_ok hs (regT_ok P N ops l) hck (.inl ⟨rfl, compOp_ok P o.op⟩) ?_ hr hx
      unfold guardD at hg
      unfold wantedA
      split at hg
      · rename_i hn; rw [hn]
      · split at hg
        · split at hg
          · split at hg <;> cases hg
          · cases hg
        · cases hg
    · rename_i s d want hs hg
      have hgd : d < 512 ∧ ∃ j oj, o.guard = some (j, want) ∧ ops[j]? = some oj ∧ oj.dst = some d := by
        unfold guardD at hg
        split at hg
        · cases hg
        · rename_i j w hn
          split at hg
          · rename_i oj hoj
            split at hg
            · rename_i d' hd
              split at hg
              · rename_i hlt; cases hg; exact ⟨hlt, j, oj, hn, hoj, hd⟩
              · cases hg
            · cases hg
          · cases hg
      obtain ⟨hd, j, oj, g1, g2, g3⟩ := hgd
      simp only [guardT, onT_eq] at hr
      cases hb : Nat.beq ((slot d).g e).t 99 with
      | true => rw [hb] at hr; rw [hr] at hx; cases hx
      | false =>
        rw [hb] at hr
        have hr : r = iT (andB (Nat.beq ((slot d).g e).t 2) (sameB want (Nat.beq ((slot d).g e).a 1))) ((thenT (compOp P o.op) s true (regT P N ops l)).run ck e h) ((thenT skipP s false (regT P N ops l)).run ck e h) := hr
        have he := decE_get hd (beq_f hb)
        have hw : wantedA ops (decE e) o = some (andB (Nat.beq ((slot d).g e).t 2) (sameB want (Nat.beq ((slot d).g e).a 1))) := by
          unfold wantedA
          rw [g1]
          simp only [g2, g3, he, Option.bind_eq_bind, Option.bind_some]
          cases hb2 : Nat.beq ((slot d).g e).t 2 with
          | true =>
            rw [dec_bool (beq_t hb2)]
            show some (Nat.beq ((slot d).g e).a 1 == want) = some (sameB want (Nat.beq ((slot d).g e).a 1))
            cases want <;> cases Nat.beq ((slot d).g e).a 1 <;> rfl
          | false =>
            have hnb := dec_notbool (beq_f hb2)
            show _ = some false
            cases hdv : dec ((slot d).g e) <;> first | rfl | exact absurd hdv (hnb _)
        cases hc : andB (Nat.beq ((slot d).g e).t 2) (sameB want (Nat.beq ((slot d).g e).a 1)) with
        | true =>
          rw [hc] at hr hw
          exact thenT_ok hs (regT_ok P N ops l) hck (.inl ⟨rfl, compOp_ok P o.op⟩) hw hr hx
        | false =>
          rw [hc] at hr hw
          exact thenT_ok hs (regT_ok P N ops l) hck (.inr ⟨rfl, rfl⟩) hw hr hx
    · rw [hr] at hx; cases hx

/- a run without records -/
theorem evOps_of_trace {P : Program} {cf : CallF} {N : Nat} {ops : Array Oper} : ∀ {l : List Oper} {e : Env} {h : AH} {tr : List Rec} {z : Env × AH}, evTrace P cf N ops l e h = some (tr, z) → evOps P cf N ops l e h = some z
  | [], e, h, tr, z, hh => by cases hh; rfl
  | o :: l, e, h, tr, z, hh => by
    simp only [evTrace, Option.bind_eq_bind] at hh
    obtain ⟨b, hb, hh⟩ := Option.bind_eq_some_iff.1 hh
    obtain ⟨⟨v, h'⟩, hv, hh⟩ := Option.bind_eq_some_iff.1 hh
    dsimp only at hh
    split at hh
    · cases hh
    · obtain ⟨e', he, hh⟩ := Option.bind_eq_some_iff.1 hh
      obtain ⟨⟨r, z'⟩, hr, hh⟩ := Option.bind_eq_some_iff.1 hh
      cases hh
      have ih := evOps_of_trace hr
      simp only [evOps, evOne, hb, Option.bind_eq_bind, Option.bind_some]
      cases b with
      | true =>
        have hv : evOp P cf e h o.op = some (v, h') := hv
        simp only [hv, he, Option.bind_some]; exact ih
      | false =>
        cases hv
        simp only [he, Option.bind_some]; exact ih

def ROk (P : Program) (N : Nat) (ops : Array Oper) (draw : Bool) (k : RK) : Prop :=
  ∀ (ck : CallK) (cf : CallF), CallOk ck cf → ∀ (e : Fr3) (h : FH) (r : RR), r = k.run ck e h → (r.x = 0 →
    h.n.dec ≤ r.h.n.dec ∧ (if draw then evDraw P cf N ops (decE e) (decH h) else evOps P cf N ops ops.toList (decE e) (decH h)) = some (decE r.e, decH r.h)) ∧ (r.x = 0 ∨ r.x = 1)

/- what was read would have been read elsewhere -/
noncomputable def nthRc (l : List Rc) (i : Nat) (f : Rc → Bool) : Bool :=
  Nat.rec (motive := fun _ => List Rc → Bool) (fun l => List.rec (motive := fun _ => Bool) false (fun c _ _ => f c) l) (fun _ ih l => List.rec (motive := fun _ => Bool) false (fun _ l _ => ih l) l) i l
theorem nthRc_ok {l : List Rc} {i : Nat} {f : Rc → Bool} (h : nthRc l i f = true) : ∃ c, l[i]? = some c ∧ f c = true := by
  induction i generalizing l with
  | zero => cases l with
    | nil => cases h
    | cons c l => exact ⟨c, rfl, h⟩
  | succ i ih => cases l with
    | nil => cases h
    | cons c l =>
      obtain ⟨d, h1, h2⟩ := ih h
      exact ⟨d, by simpa using h1, h2⟩
noncomputable def onceB (k : PK) (c d : Rc) : Bool :=
  Rc.rec (motive := fun _ => Bool) (fun e _ ran v _ => Rc.rec (motive := fun _ => Bool) (fun _ h ran' _ h' => orB (notB ran) (orB (notB ran') (andB (eqF (k.run e h) v) (eqF (k.run e h') v)))) d) c
theorem onceB_eq (k : PK) (c d : Rc) : onceB k c d = (!c.ran || (!d.ran || (eqF (k.run c.e d.h) c.v && eqF (k.run c.e d.h') c.v))) := by
  cases c; cases d; simp only [onceB, orB_eq, notB_eq, andB_eq]
structure LK where
  run : List Rc → Bool
noncomputable def looseK (P : Program) (ops : Array Oper) : List (Nat × Nat) → LK
  | [] => ⟨fun _ => true⟩
  | (i, j) :: l => match ops[i]? with
    | some o => match compOp P o.op with
      | .p k => ⟨fun tr => andB (nthRc tr i fun c => nthRc tr j fun d => onceB k c d) ((looseK P ops l).run tr)⟩
      | .e _ => ⟨fun _ => false⟩
    | none => ⟨fun _ => false⟩
theorem looseK_ok {P : Program} {cf : CallF} {ops : Array Oper} {tr : List Rc} (hg : ∀ c ∈ tr, c.ran = true → c.v.t ≠ 99) : ∀ (l : List (Nat × Nat)), (looseK P ops l).run tr = true → l.all (looseOk P cf ops (tr.map decR)) = true
  | [], _ => rfl
  | (i, j) :: l, h => by
    simp only [looseK] at h
    split at h
    · rename_i o ho
      have hok := compOp_ok P o.op
      split at h
      · rename_i k hk
        rw [hk] at hok
        obtain ⟨h1, h2⟩ := andB_t h
        obtain ⟨c, hc, h1⟩ := nthRc_ok h1
        obtain ⟨d, hd, h1⟩ := nthRc_ok h1
        rw [List.all_cons, looseK_ok hg l h2, Bool.and_true]
        unfold looseOk
        simp only [List.getElem?_map, hc, hd, Option.map_some, ho]
        rw [onceB_eq] at h1
        show (if (!c.ran || !d.ran) then true else _) = true
        cases hcr : c.ran with
        | false => rfl
        | true =>
          cases hdr : d.ran with
          | false => rfl
          | true =>
            rw [hcr, hdr] at h1
            simp only [Bool.not_true, Bool.false_or, Bool.and_eq_true] at h1
            have e1 := eqF_eq _ _ h1.1
            have e2 := eqF_eq _ _ h1.2
            have gv := hg c (List.mem_of_getElem? hc) hcr
            have o1 := hok cf c.e d.h _ e1.symm gv
            have o2 := hok cf c.e d.h' _ e2.symm gv
            simp only [Bool.not_true, Bool.or_self, Bool.false_eq_true, if_false]
            show (match evOp P cf (decE c.e) (decH d.h) o.op, evOp P cf (decE c.e) (decH d.h') o.op with | some (x, _), some (y, _) => avEq x (dec c.v) && avEq y (dec c.v) | _, _ => false) = true
            rw [o1, o2]
            show (avEq (dec c.v) (dec c.v) && avEq (dec c.v) (dec c.v)) = true
            rw [avEq_refl]; rfl
      · cases h
    · cases h

/- values that speak of blocks below a number -/
noncomputable def belF (n : Nat) (x : FV) : Bool :=
  FV.rec (motive_1 := fun _ => Bool) (motive_2 := fun _ => Bool) (fun _ _ _ _ p _ _ ihl ihm => andB (Nat.ble (Nat.add p.dec 1) n) (andB ihl ihm)) true (fun _ _ ihx ihl => andB ihx ihl) x
noncomputable def belFL (n : Nat) (l : List FV) : Bool :=
  FV.rec_1 (motive_1 := fun _ => Bool) (motive_2 := fun _ => Bool) (fun _ _ _ _ p _ _ ihl ihm => andB (Nat.ble (Nat.add p.dec 1) n) (andB ihl ihm)) true (fun _ _ ihx ihl => andB ihx ihl) l
theorem belFL_cons {n : Nat} {x : FV} {l : List FV} (h : belFL n (x :: l) = true) : belF n x = true ∧ belFL n l = true := andB_t h
mutual
theorem belF_ok (n : Nat) : ∀ (x : FV), belF n x = true → Go.Vai.below n (dec x) = true
  | ⟨t, a, b, c, p, l, m⟩, h => by
    have h : andB (Nat.ble (Nat.add p.dec 1) n) (andB (belFL n l) (belFL n m)) = true := h
    obtain ⟨h1, h2⟩ := andB_t h
    obtain ⟨h2, h3⟩ := andB_t h2
    have h1 : p.dec + 1 ≤ n := ble_t h1
    have hp : decide (p.dec < n) = true := decide_eq_true (by omega)
    have hl := belFL_ok n l false h2
    have hm := belFL_ok n m false h3
    have hc := belFL_ok n l true h2
    match t with
    | 0 | 1 | 2 | 3 | 5 | 8 | 10 | 14 => simp only [dec, Go.Vai.below]
    | 12 => cases c <;> simp only [dec, Go.Vai.below]
    | 4 | 6 | 7 | 9 => simp only [dec, Go.Vai.below, hp]
    | 11 => simp only [dec, Go.Vai.below, hl, hm]; rfl
    | 13 =>
      cases l with
      | nil => simp only [dec, Go.Vai.below]
      | cons x l => simp only [dec, Go.Vai.below]; exact belF_ok n x (belFL_cons h2).1
    | 15 => simp only [dec, Go.Vai.below, hc]
    | 16 => simp only [dec, Go.Vai.below, hl]
    | k + 17 => simp only [dec, Go.Vai.below]
theorem belFL_ok (n : Nat) : ∀ (l : List FV) (s : Bool), belFL n l = true → belowL n (decX l s) = true
  | [], s, _ => by simp only [decX, belowL]
  | x :: l, s, h => by
    obtain ⟨h1, h2⟩ := belFL_cons h
    have hx := belF_ok n x h1
    have hl := belFL_ok n l s h2
    cases s with
    | false => simp only [decX, belowL, hx, hl]; rfl
    | true =>
      have hcell : Go.Vai.below n (cellOf x.t (dec x)) = true := by
        unfold cellOf
        cases Nat.ble x.t 14
        · rfl
        · exact hx
      simp only [decX, belowL, hcell, hl]; rfl
end
/-- every slot that is looked at speaks of blocks that were there -/
noncomputable def slotsB (l : List Nat) (e : Fr3) (n : Nat) : Bool := List.rec (motive := fun _ => Bool) true (fun t _ ih => andB (onB (fun tt a b c p l m => orB (Nat.beq tt 99) (belF n ⟨tt, a, b, c, p, l, m⟩)) ((slot t).g e)) ih) l
theorem slotsB_ok {l : List Nat} {e : Fr3} {n : Nat} (h : slotsB l e n = true) : (l.all fun t => match decE e t with | some v => Go.Vai.below n v | none => true) = true := by
  induction l with
  | nil => rfl
  | cons t l ih =>
    obtain ⟨h1, h2⟩ := andB_t (show andB (onB (fun tt a b c p l m => orB (Nat.beq tt 99) (belF n ⟨tt, a, b, c, p, l, m⟩)) ((slot t).g e)) (slotsB l e n) = true from h)
    rw [onB_eq, mk_eq, orB_eq, Bool.or_eq_true] at h1
    rw [List.all_cons, ih h2, Bool.and_true]
    unfold decE
    by_cases h5 : t < 512
    · rw [if_pos h5]
      by_cases h9 : ((slot t).g e).t = 99
      · rw [if_pos h9]
      · rw [if_neg h9]
        rcases h1 with h1 | h1
        · exact absurd (beq_t h1) h9
        · exact belF_ok n _ h1
    · rw [if_neg h5]
/-- so does a new row -/
noncomputable def newB (n : Nat) (o : FO) : Bool := FO.rec (motive := fun _ => Bool) (fun _ _ _ c => belFL n c) o
theorem newB_ok {n : Nat} {o : FO} (h : newB n o = true) : (match decO o with | some (.cells _ _ _ c) => belowL n c | _ => true) = true := by
  have h : belFL n o.c = true := h
  by_cases hk : 1 ≤ o.k ∧ o.k ≤ 3
  · obtain ⟨st, hd⟩ := decO_cells hk.1 hk.2
    rw [hd]
    exact belFL_ok n o.c true h
  · have hd := decO_not hk
    cases ho : decO o with
    | none => rfl
    | some x => cases x with
      | cells st anc f c => exact absurd ho (hd st anc f c)
      | map es => rfl
noncomputable def boundB (l : List Nat) (c : Rc) : Bool :=
  Rc.rec (motive := fun _ => Bool) (fun e h ran _ h' => orB (notB ran) (FH.rec (motive := fun _ => Bool) (fun p _ => andB (slotsB l e p.dec) (newB p.dec (hget h'.h p))) h)) c
theorem boundB_ok {ops : Array Oper} {o : Oper} {c : Rc} (h : boundB (o.looksAt ops) c = true) : boundOk ops (o, decR c) = true := by
  obtain ⟨e, ⟨p, hh⟩, ran, v, h'⟩ := c
  have h : orB (notB ran) (andB (slotsB (o.looksAt ops) e p.dec) (newB p.dec (hget h'.h p))) = true := h
  unfold boundOk decR
  show (!ran || (((o.looksAt ops).all fun t => match decE e t with | some v => Go.Vai.below p.dec v | none => true) && (match (decH h').get p.dec with | some (.cells _ _ _ c) => belowL p.dec c | _ => true))) = true
  rw [orB_eq, notB_eq] at h
  cases ran with
  | false => rfl
  | true =>
    obtain ⟨h1, h2⟩ := andB_t (by simpa using h : andB (slotsB (o.looksAt ops) e p.dec) (newB p.dec (hget h'.h p)) = true)
    rw [decH_get, newB_ok h2]
    simp only [Bool.not_true, Bool.false_or, Bool.and_true]
    exact slotsB_ok h1
noncomputable def boundsK (ops : Array Oper) : List Oper → LK
  | [] => ⟨fun _ => true⟩
  | o :: l => ⟨fun tr => List.rec (motive := fun _ => Bool) true (fun c tr _ => andB (boundB (o.looksAt ops) c) ((boundsK ops l).run tr)) tr⟩
theorem boundsK_ok {ops : Array Oper} : ∀ (l : List Oper) (tr : List Rc), (boundsK ops l).run tr = true → (l.zip (tr.map decR)).all (boundOk ops) = true
  | [], _, _ => rfl
  | o :: l, tr, h => by
    cases tr with
    | nil => rfl
    | cons c tr =>
      obtain ⟨h1, h2⟩ := andB_t (show andB (boundB (o.looksAt ops) c) ((boundsK ops l).run tr) = true from h)
      rw [List.map_cons, List.zip_cons_cons, List.all_cons, boundsK_ok l tr h2, boundB_ok h1]; rfl
noncomputable def bothK (a b : LK) : LK := ⟨fun tr => andB (a.run tr) (b.run tr)⟩

noncomputable def tracedR (t : TK) (k : LK) : RK :=
  ⟨fun cf e h => TR.rec (motive := fun _ => RR) (fun x e2 h2 l => iR (Nat.beq x 0) (iR (k.run l) ⟨0, e2, h2⟩ (failR e h)) (failR e h)) (t.run cf e h)⟩
noncomputable def regionK (P : Program) (N : Nat) (ops : Array Oper) (draw : Bool) : RK :=
  match draw with
  | false => regR P N ops ops.toList
  | true => match regOk P ops, Vai.early P ops with
    | true, false => match loose P ops with
      | [] => regR P N ops ops.toList
      | l => tracedR (regT P N ops ops.toList) (looseK P ops l)
    | true, true => tracedR (regT P N ops ops.toList) (bothK (looseK P ops (loose P ops)) (boundsK ops ops.toList))
    | _, _ => badRK

theorem regR_x (P : Program) (N : Nat) (ops : Array Oper) : ∀ (l : List Oper) (ck : CallK) (e : Fr3) (h : FH), ((regT P N ops l).run ck e h).x = 0 ∨ ((regT P N ops l).run ck e h).x = 1
  | [], _, _, _ => .inl rfl
  | o :: l, ck, e, h => by
    have hthen : ∀ (k : AnyK) (s : Sl) (ran : Bool), ((thenT k s ran (regT P N ops l)).run ck e h).x = 0 ∨ ((thenT k s ran (regT P N ops l)).run ck e h).x = 1 := by
      intro k s ran
      have hrec : ∀ v h' r, (recT e h ran v h' r).x = r.x := by intro v h' r; cases r; rfl
      cases k with
      | p k =>
        simp only [thenT, onT_eq]
        cases Nat.beq (k.run e h).t 99
        · show (recT _ _ _ _ _ _).x = 0 ∨ (recT _ _ _ _ _ _).x = 1
          rw [hrec]; exact regR_x P N ops l _ _ _
        · exact .inr rfl
      | e k =>
        simp only [thenT, onCT_eq, onT_eq]
        cases Nat.beq (k.run ck e h).v.t 99
        · show (recT _ _ _ _ _ _).x = 0 ∨ (recT _ _ _ _ _ _).x = 1
          rw [hrec]; exact regR_x P N ops l _ _ _
        · exact .inr rfl
    simp only [regT]
    split
    · exact hthen _ _ _
    · rename_i s d want _ _
      simp only [guardT, onT_eq]
      cases Nat.beq ((slot d).g e).t 99
      · cases andB (Nat.beq ((slot d).g e).t 2) (sameB want (Nat.beq ((slot d).g e).a 1))
        · exact hthen _ _ _
        · exact hthen _ _ _
      · exact .inr rfl
    · exact .inr rfl

theorem regionK_ok (P : Program) (N : Nat) (ops : Array Oper) (draw : Bool) : ROk P N ops draw (regionK P N ops draw) := by
  intro ck cf hck e h r hr
  have plain : ∀ r : RR, r = (regR P N ops ops.toList).run ck e h → (r.x = 0 ∨ r.x = 1) ∧ (r.x = 0 → h.n.dec ≤ r.h.n.dec ∧ ∃ tr, evTrace P cf N ops ops.toList (decE e) (decH h) = some (tr, decE r.e, decH r.h)) := by
    intro r hr
    rw [era_reg] at hr
    rw [hr]
    refine ⟨regR_x P N ops ops.toList ck e h, fun hx => ?_⟩
    obtain ⟨q1, q2, _⟩ := regT_ok P N ops ops.toList ck cf hck e h _ rfl hx
    exact ⟨q1, _, q2⟩
  have traced : ∀ (k : LK), r = (tracedR (regT P N ops ops.toList) k).run ck e h → (r.x = 0 ∨ r.x = 1) ∧ (r.x = 0 → h.n.dec ≤ r.h.n.dec ∧ ∃ tr : List Rc, evTrace P cf N ops ops.toList (decE e) (decH h) = some (tr.map decR, decE r.e, decH r.h) ∧ (∀ c ∈ tr, c.ran = true → c.v.t ≠ 99) ∧ k.run tr = true) := by
    intro k hr
    have hr : r = iR (Nat.beq ((regT P N ops ops.toList).run ck e h).x 0) (iR (k.run ((regT P N ops ops.toList).run ck e h).l) ⟨0, ((regT P N ops ops.toList).run ck e h).e, ((regT P N ops ops.toList).run ck e h).h⟩ (failR e h)) (failR e h) := hr
    generalize ht : (regT P N ops ops.toList).run ck e h = t at hr
    cases hb : Nat.beq t.x 0 with
    | false => rw [hb] at hr; rw [hr]; exact ⟨.inr rfl, fun hx => (by cases hx)⟩
    | true =>
      rw [hb] at hr
      have hr : r = iR (k.run t.l) ⟨0, t.e, t.h⟩ (failR e h) := hr
      cases hc : k.run t.l with
      | false => rw [hc] at hr; rw [hr]; exact ⟨.inr rfl, fun hx => (by cases hx)⟩
      | true =>
        rw [hc] at hr
        have hr : r = ⟨0, t.e, t.h⟩ := hr
        obtain ⟨q1, q2, q3⟩ := regT_ok P N ops ops.toList ck cf hck e h _ ht.symm (beq_t hb)
        rw [hr]
        exact ⟨.inl rfl, fun _ => ⟨q1, t.l, q2, q3, hc⟩⟩
  unfold regionK at hr
  split at hr
  · obtain ⟨p1, p2⟩ := plain r hr
    refine ⟨fun hx => ?_, p1⟩
    obtain ⟨q1, tr, q2⟩ := p2 hx
    exact ⟨q1, evOps_of_trace q2⟩
  · split at hr
    · rename_i hreg hearly
      split at hr
      · rename_i hl
        obtain ⟨p1, p2⟩ := plain r hr
        refine ⟨fun hx => ?_, p1⟩
        obtain ⟨q1, tr, q2⟩ := p2 hx
        refine ⟨q1, ?_⟩
        simp only [if_true, evDraw, hreg, q2, hl, hearly, Option.bind_eq_bind, Option.bind_some]
        rfl
      · obtain ⟨p1, p2⟩ := traced _ hr
        refine ⟨fun hx => ?_, p1⟩
        obtain ⟨q1, tr, q2, q3, q4⟩ := p2 hx
        refine ⟨q1, ?_⟩
        have hlo := looseK_ok (cf := cf) q3 _ q4
        simp only [if_true, evDraw, hreg, q2, hlo, hearly, Option.bind_eq_bind, Option.bind_some]
        rfl
    · rename_i hreg hearly
      obtain ⟨p1, p2⟩ := traced _ hr
      refine ⟨fun hx => ?_, p1⟩
      obtain ⟨q1, tr, q2, q3, q4⟩ := p2 hx
      refine ⟨q1, ?_⟩
      obtain ⟨q4, q5⟩ := andB_t (show andB ((looseK P ops (loose P ops)).run tr) ((boundsK ops ops.toList).run tr) = true from q4)
      have hlo := looseK_ok (cf := cf) q3 _ q4
      have hbo := boundsK_ok _ _ q5
      simp only [if_true, evDraw, hreg, q2, hlo, hbo, hearly, Option.bind_eq_bind, Option.bind_some]
      rfl
    · rw [hr]; exact ⟨fun hx => (by cases hx), .inr rfl⟩

end Go.Fast
