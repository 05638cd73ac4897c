/- Functions without a body: the model's rows, and what the abstract machine says of them. -/
import Derived.Test.YtckjdbmadheamaaGreatDoorR14
set_option linter.all false
namespace Go.Vai
open Extern

def rowFn : Row → Array Value → Sem Value
  | .indexByte => BytealgIndexByte.indexByte
  | .valueOf => fun args => ReflectliteValue.unpack (args.getD 0 (.tuple #[]))
  | .valType => ReflectliteValue.methodAny (ReflectliteValue.valueError "reflectlite.Value.Type" 0) fun t _ _ _ => ReflectliteType.toType t
  | .valIsNil => ReflectliteValue.method (ReflectliteValue.valueError "reflectlite.Value.IsNil" 0) ReflectliteValue.isNil
  | .valElem => ReflectliteValue.method (ReflectliteValue.valueError "reflectlite.Value.Elem" 0) ReflectliteValue.elem
  | .valSet => ReflectliteValue.set
  | .typeOf => ReflectliteType.typeOf
  | .rElem => ReflectliteType.method ReflectliteType.elem
  | .rComparable => ReflectliteType.method fun t => do Rtype.noPackHeld "Comparable" t; pure (.bool (← typeInfo t).comparable)
  | .rImplements => ReflectliteType.relation "Implements" ReflectliteType.implements_
  | .rAssignable => ReflectliteType.relation "AssignableTo" ReflectliteType.assignableTo
  | .abiKind => ReflectliteType.abiMethod fun t => do pure (.int .u8 (← Rtype.kind t))

theorem row_generic (r : Row) : allGenericRows.lookup (rowName r) = none := by cases r <;> kernel_rfl
theorem row_typed (r : Row) : allTypedRows.lookup (rowName r) = none := by cases r <;> kernel_rfl
theorem row_next (r : Row) : allNextRows.lookup (rowName r) = none := by cases r <;> kernel_rfl
theorem row_found (r : Row) : allRows.lookup (rowName r) = some (rowFn r) := by cases r <;> kernel_rfl

theorem find_row {fn : Func} {r : Row} (h : fn.name = rowName r) : Extern.find fn = some (rowFn r) := by
  simp only [Extern.find, h, row_generic, row_typed, row_found]
  rfl

theorem findNext_row {fn : Func} {r : Row} (h : fn.name = rowName r) (h2 : allNextRows.lookup fn.origin = none) : Extern.findNext fn = none := by
  simp only [Extern.findNext, h, row_next, h2]
  rfl

section
variable {φ : Phi} {P : Program}

theorem handle_VR (hp : P.globals.size < 1000) (hg : GlobR φ) (t : TypeId) : VR φ (handleA P t) (typeHandle P t) := by
  obtain ⟨lim, e⟩ := hg _ hp
  simpa [handleA, typeHandle] using VR.ptr (φ := φ) (o := t) e

theorem handle_inv (hp : P.globals.size < 1000) (hg : GlobR φ) {t : TypeId} {u : Value} (h : VR φ (.ptr P.globals.size t) u) : u = typeHandle P t := by
  obtain ⟨lim, e⟩ := hg _ hp
  obtain ⟨loc, e', rfl⟩ := h.ptr_inv
  rw [e] at e'; cases e'
  simp [typeHandle]

theorem handleType_handle (t : TypeId) : handleType P (typeHandle P t) = some t := by simp [handleType, typeHandle]

theorem run_ofHandle (t : TypeId) (w : World) : (Rtype.ofHandle (typeHandle P t)).run P w = .ok t w := by
  simp [Rtype.ofHandle, handleType_handle]

theorem run_noPack {what : String} {t : TypeId} (h : P.packed t = false) (w : World) : (Rtype.noPack what t).run P w = .ok () w := by
  simp [Rtype.noPack, h]

theorem VRL.one {a : AV} {vs : Array Value} (h : VRL φ [a] vs.toList) : ∃ u, vs = #[u] ∧ VR φ a u := by
  obtain ⟨u, l, e, hr, h⟩ := h.uncons
  cases h.nil_right
  exact ⟨u, by rw [← Array.toList_inj, e], hr⟩
theorem VRL.two {a b : AV} {vs : Array Value} (h : VRL φ [a, b] vs.toList) : ∃ u v, vs = #[u, v] ∧ VR φ a u ∧ VR φ b v := by
  obtain ⟨u, l, e, hr, h⟩ := h.uncons
  obtain ⟨v, l, rfl, hr2, h⟩ := h.uncons
  cases h.nil_right
  exact ⟨u, v, by rw [← Array.toList_inj, e], hr, hr2⟩
theorem VRL.three {a b c : AV} {vs : Array Value} (h : VRL φ [a, b, c] vs.toList) : ∃ u v x, vs = #[u, v, x] ∧ VR φ a u ∧ VR φ b v ∧ VR φ c x := by
  obtain ⟨u, l, e, hr, h⟩ := h.uncons
  obtain ⟨v, l, rfl, hr2, h⟩ := h.uncons
  obtain ⟨x, l, rfl, hr3, h⟩ := h.uncons
  cases h.nil_right
  exact ⟨u, v, x, by rw [← Array.toList_inj, e], hr, hr2, hr3⟩

theorem ofRtype_lit (h : Value) : ReflectliteType.ofRtype (.agg #[h]) = (do
    let t ← Rtype.ofHandle h
    Rtype.noPack "a Type asked or handed on" t
    pure t) := rfl
theorem partsAny_lit (h : Value) (a : Addr) (n : Nat) : ReflectliteValue.partsAny (.agg #[h, .pointer (some a), .int .u64 (Int.ofNat (n + 1))]) = (do pure (some (← Rtype.ofHandle h, a, n + 1))) := rfl
theorem method_lit (z : Sem Value) (f : TypeId → Addr → Nat → Nat → Sem Value) (v : Value) : ReflectliteValue.method z f #[v] = (do
    match ← ReflectliteValue.parts v with
    | none => z
    | some (t, a, fl) => f t a fl (fl % 32)) := rfl
theorem methodAny_lit (z : Sem Value) (f : TypeId → Addr → Nat → Nat → Sem Value) (v : Value) : ReflectliteValue.methodAny z f #[v] = (do
    match ← ReflectliteValue.partsAny v with
    | none => z
    | some (t, a, fl) => f t a fl (fl % 32)) := rfl
theorem rmethod_lit (f : TypeId → Sem Value) (r : Value) : ReflectliteType.method f #[r] = (do f (← ReflectliteType.ofRtype r)) := rfl
theorem relation_lit (what : String) (f : TypeId → TypeId → Sem Bool) (r u : Value) (t : TypeId) : ReflectliteType.relation what f #[r, .iface t u] = (do pure (.bool (← f (← ReflectliteType.ofRtype u) (← ReflectliteType.ofRtype r)))) := rfl
theorem abiMethod_lit (f : TypeId → Sem Value) (h : Value) : ReflectliteType.abiMethod f #[h] = (do
    let t ← Rtype.ofHandle h
    Rtype.noPack "a method of abi.Type" t
    f t) := rfl

theorem ofRtype_R (hp : P.globals.size < 1000) (hg : GlobR φ) {x : AV} {u : Value} {t : TypeId} (h : ofRtypeA P x = some t) (hx : VR φ x u) (w : World) : (ReflectliteType.ofRtype u).run P w = .ok t w := by
  unfold ofRtypeA at h
  split at h
  · rename_i b t'
    split at h
    · rename_i hc
      cases h
      obtain ⟨cs, rfl, hcs, _⟩ := hx.agg_inv
      obtain ⟨y, rfl, hy⟩ := hcs.one
      obtain ⟨rfl, hpk⟩ := hc
      cases handle_inv hp hg hy
      simp only [ofRtype_lit, Sem.run_bind, run_ofHandle, Result.andThen_ok, run_noPack hpk, Sem.run_pure]
    · cases h
  · cases h

theorem valParts_R (hp : P.globals.size < 1000) (hg : GlobR φ) {x : AV} {u : Value} {t : TypeId} {b o f : Nat} (h : valParts P x = some (t, b, o, f)) (hx : VR φ x u) :
    ∃ loc, φ b = some loc ∧ ∀ w, (ReflectliteValue.partsAny u).run P w = .ok (some (t, ⟨loc.blk, loc.base + o, none⟩, f)) w := by
  unfold valParts at h
  split at h
  · rename_i g t' b' o' f'
    split at h
    · rename_i hc
      cases h
      obtain ⟨cs, rfl, hcs, _⟩ := hx.agg_inv
      obtain ⟨y1, y2, y3, rfl, h1, h2, h3⟩ := hcs.three
      obtain ⟨rfl, hpos⟩ := hc
      cases handle_inv hp hg h1
      obtain ⟨loc, hb, rfl⟩ := h2.ptr_inv
      cases h3.int_inv
      refine ⟨loc, hb, fun w => ?_⟩
      obtain ⟨n, rfl⟩ : ∃ n : Nat, f' = Int.ofNat (n + 1) := ⟨f'.toNat - 1, by simp; omega⟩
      rw [partsAny_lit]
      simp only [Sem.run_bind, run_ofHandle, Result.andThen_ok, Sem.run_pure]
      rfl
    · cases h
  · cases h

theorem mkVal_R (hp : P.globals.size < 1000) (hg : GlobR φ) {t b o fl : Nat} {loc : Loc} {v : AV} (h : mkVal P t b o fl = some v) (hb : φ b = some loc) :
    ∃ u, VR φ v u ∧ ∀ w, (ReflectliteValue.mk t ⟨loc.blk, loc.base + o, none⟩ fl).run P w = .ok u w := by
  unfold mkVal at h
  simp only [Option.bind_eq_bind] at h
  obtain ⟨k, hk, h⟩ := Option.bind_eq_some_iff.1 h
  cases h
  refine ⟨_, VR.agg_of (.cons (handle_VR hp hg t) (.cons (.ptr hb) (.cons (.int .u64 (Int.ofNat (k + 128 + fl))) .nil))) rfl, fun w => ?_⟩
  simp only [ReflectliteValue.mk, Rtype.handle, Sem.run_bind, run_program, Sem.run_pure, Result.andThen_ok, semP_run hk, ReflectliteValue.flagIndir]

theorem toType_R (hp : P.globals.size < 1000) (hg : GlobR φ) {t : TypeId} {v : AV} (h : toTypeA P t = some v) : ∃ u, VR φ v u ∧ ∀ w, (ReflectliteType.toType t).run P w = .ok u w := by
  unfold toTypeA rtypeT at h
  rw [Option.map_map, Option.map_eq_some_iff] at h
  obtain ⟨p, hp', h⟩ := h
  cases h
  refine ⟨_, .iface (VR.agg_of (.cons (handle_VR hp hg t) .nil) rfl), fun w => ?_⟩
  simp only [ReflectliteType.toType, cutType, Rtype.handle, Sem.run_bind, run_program, Result.andThen_ok, hp', Sem.run_pure]

theorem rowA_R {r : Row} {args : List AV} {h h' : AH} {w : World} {v : AV} {vs : Array Value} (hp : P.globals.size < 1000) (hg : GlobR φ) (rel : RelM φ h w) (hv : rowA P r args h = some (v, h')) (hvs : VRL φ args vs.toList) :
    ∃ u w' φ', (rowFn r vs).run P w = .ok u w' ∧ StepR φ φ' h h' w w' ∧ VR φ' v u := by
  unfold rowA at hv
  split at hv
  · -- indexByte
    rename_i s c
    obtain ⟨x, hx, hv⟩ := Option.bind_eq_some_iff.1 hv
    obtain ⟨rfl, hv2⟩ := map_pair hv
    obtain ⟨u1, u2, rfl, h1, h2⟩ := hvs.two
    cases h1.str_inv
    cases h2.int_inv
    exact ⟨x, w, φ, semP_run hx w, StepR.refl rel, ofV_VR _ _ _ hv2⟩
  · -- valueOf
    rename_i t y
    obtain ⟨n, hn, hv⟩ := Option.bind_eq_some_iff.1 hv
    obtain ⟨x, hx, hv⟩ := Option.bind_eq_some_iff.1 hv
    split at hv
    · rename_i hc
      obtain ⟨c1, c2, c3⟩ := hc
      cases hv
      obtain ⟨u1, rfl, h1⟩ := hvs.one
      obtain ⟨yu, rfl, hy⟩ := h1.iface_inv
      have hcl := hy.cells (fun e => by rw [e] at c1; exact c3 (by simpa using c1.symm))
      have hl : Lays P φ (do pure (.value (.pointer (some (← newVar t yu))))) h.next (.cells 0 [] false y.cells) (.ptr h.next 0) := fun w =>
        ⟨.pointer (some ⟨w.heap.size, 0, none⟩), .cells yu.cells t, { w with heap := w.heap.push (.cells yu.cells t) }, yu.cells.size, by simp [newVar, Go.newRow], rfl, rfl, rfl, rfl, NewR.cells hcl c2, fun φ' _ e' => by simpa using VR.ptr (φ := φ') (o := 0) e'⟩
      have hstep : ∃ φ', φ' h.next = some ⟨w.heap.size, 0, yu.cells.size⟩ ∧ StepR φ φ' h (newRow h y.cells) w { w with heap := w.heap.push (.cells yu.cells t) } := by
        obtain ⟨_, _, _, hat, hc, cs, el, fr, hro, hlim, hvr, hf⟩ := NewR.cells (el := t) hcl c2
        cases hro
        exact ⟨_, Phi.upd_self _ _ _, step_new rel hat hlim hc hvr hf (fun X hX => by cases hX) rfl rfl rfl rfl⟩
      obtain ⟨φ', e1, hst⟩ := hstep
      obtain ⟨u, hu, hrun⟩ := mkVal_R (P := P) hp (hg.mono hst.ext) hx e1
      refine ⟨u, _, φ', ?_, hst, hu⟩
      have := hrun { w with heap := w.heap.push (.cells yu.cells t) }
      simp only [Nat.add_zero] at this
      simp only [rowFn, Array.getD_eq_getD_getElem?, List.getElem?_toArray, List.getElem?_cons_zero, Option.getD_some, ReflectliteValue.unpack, Sem.run_bind]
      rw [show (newVar t yu).run P w = .ok ⟨w.heap.size, 0, none⟩ { w with heap := w.heap.push (.cells yu.cells t) } from by simp [newVar, Go.newRow]]
      exact this
    · cases hv
  · -- valType
    rename_i x
    obtain ⟨⟨t, b, o, f⟩, hpt, hv⟩ := Option.bind_eq_some_iff.1 hv
    obtain ⟨rfl, hv2⟩ := map_pair hv
    obtain ⟨u1, rfl, h1⟩ := hvs.one
    obtain ⟨loc, hb, hrun⟩ := valParts_R hp hg hpt h1
    obtain ⟨u, hu, hrun2⟩ := toType_R hp hg hv2
    refine ⟨u, w, φ, ?_, StepR.refl rel, hu⟩
    simp only [rowFn, methodAny_lit, Sem.run_bind, hrun, Result.andThen_ok, hrun2]
  · -- valIsNil
    rename_i x
    obtain ⟨⟨t, b, o, f⟩, hpt, hv2⟩ := Option.bind_eq_some_iff.1 hv
    obtain ⟨u1, rfl, h1⟩ := hvs.one
    obtain ⟨loc, hb, hrun⟩ := valParts_R hp hg hpt h1
    dsimp only at hv2
    split at hv2
    · cases hv2
    rename_i hc
    have hpk : P.packed t = false := by cases hq : P.packed t <;> simp_all
    have hk : f % 32 = 22 := by omega
    obtain ⟨y, hy, hv3⟩ := Option.bind_eq_some_iff.1 hv2
    obtain ⟨yu, hyrun, hyr⟩ := run_loadT (P := P) rel hb hy
    have hmain : ∀ p : Option Addr, yu = .pointer p → (rowFn .valIsNil #[u1]).run P w = .ok (.bool p.isNone) w := fun p e => by
      subst e
      simp only [rowFn, method_lit, ReflectliteValue.parts, Sem.run_bind, hrun, Result.andThen_ok, run_noPack hpk, Sem.run_pure, hk, ReflectliteValue.isNil]
      rw [show (![18, 19, 20, 21, 22, 23, 26].contains 22) = false from rfl, if_neg (by simp), Sem.run_bind, hyrun, Result.andThen_ok]
      cases p <;> rfl
    split at hv3
    · cases hv3
      cases hyr.nilp_inv
      exact ⟨_, w, φ, hmain none rfl, StepR.refl rel, .bool _⟩
    · cases hv3
      obtain ⟨loc2, _, rfl⟩ := hyr.ptr_inv
      exact ⟨_, w, φ, hmain (some _) rfl, StepR.refl rel, .bool _⟩
    · cases hv3
  · -- valElem
    rename_i x
    obtain ⟨⟨t, b, o, f⟩, hpt, hv2⟩ := Option.bind_eq_some_iff.1 hv
    obtain ⟨u1, rfl, h1⟩ := hvs.one
    obtain ⟨loc, hb, hrun⟩ := valParts_R hp hg hpt h1
    dsimp only at hv2
    split at hv2
    · cases hv2
    rename_i hc
    have hpk : P.packed t = false := by cases hq : P.packed t <;> simp_all
    have hk : f % 32 = 22 := by omega
    obtain ⟨y, hy, hv3⟩ := Option.bind_eq_some_iff.1 hv2
    obtain ⟨yu, hyrun, hyr⟩ := run_loadT (P := P) rel hb hy
    clear hv hv2
    split at hv3
    · rename_i b' o' e he
      obtain ⟨rfl, hv4⟩ := map_pair hv3
      obtain ⟨loc2, hb2, rfl⟩ := hyr.ptr_inv
      obtain ⟨u, hu, hrun2⟩ := mkVal_R (P := P) hp hg hv4 hb2
      refine ⟨u, w, φ, ?_, StepR.refl rel, hu⟩
      simp only [rowFn, method_lit, ReflectliteValue.parts, Sem.run_bind, hrun, Result.andThen_ok, run_noPack hpk, Sem.run_pure, hk, ReflectliteValue.elem]
      rw [show (22 != 20 && 22 != 22) = false from rfl, if_neg (by simp), Sem.run_bind, hyrun, Result.andThen_ok, Sem.run_bind, semP_run he, Result.andThen_ok]
      exact hrun2 w
    · cases hv3
  · -- valSet
    rename_i x y
    obtain ⟨⟨d, b, o, f⟩, hpt, hv2⟩ := Option.bind_eq_some_iff.1 hv
    obtain ⟨⟨s, b', o', f'⟩, hpt', hv3⟩ := Option.bind_eq_some_iff.1 hv2
    obtain ⟨u1, u2, rfl, h1, h2⟩ := hvs.two
    obtain ⟨loc, hb, hrun⟩ := valParts_R hp hg hpt h1
    obtain ⟨loc', hb', hrun'⟩ := valParts_R hp hg hpt' h2
    clear hv hv2
    dsimp only at hv3
    split at hv3
    · cases hv3
    rename_i hc
    have hpk : P.packed d = false := by cases hq : P.packed d <;> simp_all
    have hpk' : P.packed s = false := by cases hq : P.packed s <;> simp_all
    have hfl : ¬ f / 256 % 2 = 0 := fun e => hc (.inr (.inr e))
    obtain ⟨q, hq, hv4⟩ := Option.bind_eq_some_iff.1 hv3
    obtain ⟨qu, hqrun, hqr⟩ := run_loadT (P := P) rel hb' hq
    clear hv3
    split at hv4
    · rename_i hda
      simp only [Option.map_eq_some_iff, Prod.mk.injEq] at hv4
      obtain ⟨h3, hst, rfl, rfl⟩ := hv4
      obtain ⟨w', hsrun, hs⟩ := run_storeT (P := P) rel hb hst hqr
      refine ⟨_, w', φ, ?_, hs, by simpa using VR.tup_of (φ := φ) .nil⟩
      have hset : rowFn .valSet #[u1, u2] = ReflectliteValue.set #[u1, u2] := rfl
      rw [hset]
      have hlit : ReflectliteValue.set #[u1, u2] = (do
          let (some (dst, a, fl), some (src, b, _)) := (← ReflectliteValue.parts u1, ← ReflectliteValue.parts u2)
            | unsupported (.noEntry "extern/(internal/reflectlite.Value).Set.zeroValue")
          if fl / ReflectliteValue.flagAddr % 2 == 0 then unsupported (.noEntry "extern/(internal/reflectlite.Value).Set.unaddressable")
          let val ← loadVar src b
          if ← Rtype.directlyAssignable dst src then storeVar dst a val
          else if ← Rtype.implements dst src then
            if (← Rtype.kind src) == 20 then
              match val with
              | .nilIface => unsupported (.noEntry "extern/reflectlite: a nil value of one interface type handed on as a value of another")
              | _ => storeVar dst a val
            else storeVar dst a (.iface src val)
          else panicString ("reflectlite.Set: value of type " ++ (← Rtype.spelt src) ++ " is not assignable to type " ++ (← Rtype.spelt dst))
          pure (.tuple #[])) := rfl
      rw [hlit]
      simp only [ReflectliteValue.parts, Sem.run_bind, hrun, hrun', Result.andThen_ok, run_noPack hpk, run_noPack hpk', Sem.run_pure]
      rw [if_neg (by simpa [ReflectliteValue.flagAddr] using hfl), Sem.run_bind]
      simp only [Sem.run_pure, Result.andThen_ok, Sem.run_bind, hqrun, semP_run hda, if_true, hsrun]
    · cases hv4
  · -- typeOf nil
    cases hv
    obtain ⟨u1, rfl, h1⟩ := hvs.one
    cases h1.nili_inv
    exact ⟨.nilIface, w, φ, rfl, StepR.refl rel, .nili⟩
  · -- typeOf
    rename_i t x
    obtain ⟨rfl, hv2⟩ := map_pair hv
    obtain ⟨u1, rfl, h1⟩ := hvs.one
    obtain ⟨xu, rfl, hx⟩ := h1.iface_inv
    obtain ⟨u, hu, hrun⟩ := toType_R hp hg hv2
    exact ⟨u, w, φ, hrun w, StepR.refl rel, hu⟩
  · -- rElem
    rename_i r
    obtain ⟨t, ht, hv2⟩ := Option.bind_eq_some_iff.1 hv
    obtain ⟨u1, rfl, h1⟩ := hvs.one
    have hrt := ofRtype_R hp hg ht h1
    clear hv
    split at hv2
    · rename_i e he
      obtain ⟨rfl, hv3⟩ := map_pair hv2
      obtain ⟨u, hu, hrun⟩ := toType_R hp hg hv3
      refine ⟨u, w, φ, ?_, StepR.refl rel, hu⟩
      simp only [rowFn, rmethod_lit, ReflectliteType.elem, Sem.run_bind, hrt, Result.andThen_ok, semP_run he, hrun]
    · cases hv2
  · -- rComparable
    rename_i r
    obtain ⟨t, ht, hv2⟩ := Option.bind_eq_some_iff.1 hv
    obtain ⟨i, hi, hv3⟩ := Option.bind_eq_some_iff.1 hv2
    obtain ⟨u1, rfl, h1⟩ := hvs.one
    have hrt := ofRtype_R hp hg ht h1
    clear hv hv2
    split at hv3
    · cases hv3
    · rename_i hh
      cases hv3
      refine ⟨_, w, φ, ?_, StepR.refl rel, .bool _⟩
      simp only [rowFn, rmethod_lit, Rtype.noPackHeld, typeInfo, Sem.run_bind, run_program, hrt, Result.andThen_ok, hi, hh, Bool.false_eq_true, if_false, Sem.run_pure]
  · -- rImplements
    rename_i r t0 u0
    obtain ⟨t, ht, hv2⟩ := Option.bind_eq_some_iff.1 hv
    obtain ⟨u, hu, hv3⟩ := Option.bind_eq_some_iff.1 hv2
    obtain ⟨b, hb, hv4⟩ := Option.bind_eq_some_iff.1 hv3
    cases hv4
    obtain ⟨u1, u2, rfl, h1, h2⟩ := hvs.two
    obtain ⟨u3, rfl, h3⟩ := h2.iface_inv
    have hrt := ofRtype_R hp hg ht h1
    have hru := ofRtype_R hp hg hu h3
    refine ⟨_, w, φ, ?_, StepR.refl rel, .bool b⟩
    simp only [rowFn, relation_lit, Sem.run_bind, hrt, hru, Result.andThen_ok, semP_run hb, Sem.run_pure]
  · -- rAssignable
    rename_i r t0 u0
    obtain ⟨t, ht, hv2⟩ := Option.bind_eq_some_iff.1 hv
    obtain ⟨u, hu, hv3⟩ := Option.bind_eq_some_iff.1 hv2
    obtain ⟨b, hb, hv4⟩ := Option.bind_eq_some_iff.1 hv3
    cases hv4
    obtain ⟨u1, u2, rfl, h1, h2⟩ := hvs.two
    obtain ⟨u3, rfl, h3⟩ := h2.iface_inv
    have hrt := ofRtype_R hp hg ht h1
    have hru := ofRtype_R hp hg hu h3
    refine ⟨_, w, φ, ?_, StepR.refl rel, .bool b⟩
    simp only [rowFn, relation_lit, Sem.run_bind, hrt, hru, Result.andThen_ok, semP_run hb, Sem.run_pure]
  · -- abiKind
    rename_i b t
    split at hv
    · rename_i hc
      obtain ⟨rfl, hpk⟩ := hc
      obtain ⟨k, hk, hv2⟩ := Option.bind_eq_some_iff.1 hv
      cases hv2
      obtain ⟨u1, rfl, h1⟩ := hvs.one
      cases handle_inv hp hg h1
      refine ⟨_, w, φ, ?_, StepR.refl rel, .int .u8 _⟩
      simp only [rowFn, abiMethod_lit, Sem.run_bind, run_ofHandle, Result.andThen_ok, run_noPack hpk, semP_run hk, Sem.run_pure]
    · cases hv
  · cases hv

end
end Go.Vai
