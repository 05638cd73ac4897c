/- Operations that read; operations that lay a new block. -/
import Derived.Test.YtckjdbmadheamaaGreatDoorR8
import Derived.Laws.BytesString
import Derived.Laws.BytesArg
import Derived.Lib.ConvBytes
set_option linter.all false
namespace Go.Vai

section
variable {φ : Phi} {e : Env} {a : Act} {P : Program}

/-- an operation that reads comes to a value in this world -/
def GivesIn (P : Program) (φ : Phi) (w : World) (s : Sem Next) (v : AV) : Prop := ∃ u, VR φ v u ∧ s.run P w = .ok (.value u) w

theorem keyFits_spec {kt : TypeId} {k : AV} (h : keyFits P kt k = true) : ∃ d kv, P.underlying kt = some d ∧ val? k = some kv ∧ ((∃ q q' n, d = .int q ∧ k = .int q' n) ∨ (∃ s, d = .string ∧ k = .str s)) := by
  unfold keyFits at h
  split at h
  · split at h
    · exact ⟨_, _, ‹_›, rfl, .inl ⟨_, _, _, rfl, rfl⟩⟩
    · cases h
  · split at h
    · exact ⟨_, _, ‹_›, rfl, .inr ⟨_, rfl, rfl⟩⟩
    · cases h
  · cases h

theorem sameNow_R {d : TypeDesc} {k k' : AV} {kv kv' : Value} {b : Bool} (hd : (∃ q q' n, d = .int q ∧ k = .int q' n) ∨ (∃ s, d = .string ∧ k = .str s)) (h1 : val? k = some kv) (h2 : val? k' = some kv') (h : keyEq k k' = some b) :
    Instr.sameNow d kv kv' = some b := by
  unfold keyEq at h
  split at h
  · rename_i q x q' x'
    simp [val?] at h1 h2
    subst h1; subst h2
    rcases hd with ⟨p, _, _, rfl, _⟩ | ⟨s, _, hs⟩
    · split at h
      · rename_i hq; cases h; simp [Instr.sameNow, hq]
      · cases h
    · cases hs
  · rename_i s s'
    simp [val?] at h1 h2
    subst h1; subst h2
    rcases hd with ⟨p, _, _, _, hk⟩ | ⟨s, rfl, _⟩
    · cases hk
    · cases h; rfl
  · cases h

theorem findNow_R {d : TypeDesc} {k : AV} {kv : Value} (hd : (∃ q q' n, d = .int q ∧ k = .int q' n) ∨ (∃ s, d = .string ∧ k = .str s)) (h1 : val? k = some kv) :
    ∀ (es : List (AV × AV)) (en : List MapEntry) (n : Nat) (r : Option AV), es.length = en.length → (∀ (i : Nat) (k x : AV) (m : MapEntry), es[i]? = some (k, x) → en[i]? = some m → val? k = some m.key ∧ VR φ x m.val) → findA k es = some r →
      (r = none ∧ Instr.findNow d kv en n = some none) ∨ (∃ x j u, r = some x ∧ Instr.findNow d kv en n = some (some (n + j, u)) ∧ VR φ x u ∧ ∃ m, en[j]? = some m ∧ m.val = u) := by
  intro es
  induction es with
  | nil =>
    intro en n r hl _ h
    have : en = [] := List.eq_nil_of_length_eq_zero (by simpa using hl.symm)
    subst this
    simp [findA] at h
    exact .inl ⟨h.symm, rfl⟩
  | cons p es ih =>
    intro en n r hl hr h
    obtain ⟨k', x⟩ := p
    cases en with
    | nil => simp at hl
    | cons m en =>
      obtain ⟨hk, hx⟩ := hr 0 k' x m rfl rfl
      simp only [findA] at h
      split at h
      · rename_i he
        cases h
        refine .inr ⟨x, 0, m.val, rfl, ?_, hx, m, rfl, rfl⟩
        simp [Instr.findNow, sameNow_R hd h1 hk he]
      · rename_i he
        rcases ih en (n + 1) r (by simpa using hl) (fun i k x m h h' => hr (i + 1) k x m (by simpa using h) (by simpa using h')) h with ⟨h2, h3⟩ | ⟨y, j, u, h2, h3, h4, m', h5, h6⟩
        · exact .inl ⟨h2, by simp [Instr.findNow, sameNow_R hd h1 hk he, h3]⟩
        · exact .inr ⟨y, j + 1, u, h2, by simp [Instr.findNow, sameNow_R hd h1 hk he, h3]; omega, h4, m', by simpa using h5, h6⟩
      · cases h

theorem run_checkKey {kt : TypeId} {d : TypeDesc} {k : AV} {kv : Value} {b : Bool} (hd : P.underlying kt = some d) (hk : (∃ q q' n, d = .int q ∧ k = .int q' n) ∨ (∃ s, d = .string ∧ k = .str s)) (h1 : val? k = some kv) (w : World) :
    (Instr.checkKey b 10000 kt kv).run P w = .ok () w := by
  suffices key : ∀ n, (Instr.checkKey b (n + 1) kt kv).run P w = .ok () w from key 9999
  intro n
  unfold Instr.checkKey
  rw [Sem.run_bind, run_underlying' hd, Result.andThen_ok]
  rcases hk with ⟨q, q', m, rfl, rfl⟩ | ⟨s, rfl, rfl⟩
  · simp [val?] at h1; subst h1; rfl
  · simp [val?] at h1; subst h1; rfl

theorem run_findKey {kt : TypeId} {d : TypeDesc} {kv : Value} {en : List MapEntry} {r : Option (Nat × Value)} (hd : P.underlying kt = some d) (h : Instr.findNow d kv en 0 = some r) (w : World) :
    (Instr.findKey kt kv en).run P w = .ok r w := by
  unfold Instr.findKey
  rw [Sem.run_bind, run_underlying' hd, Result.andThen_ok, h]
  rfl

theorem sim_lookup {h : AH} {w : World} (r : RelM φ h w) {t : TypeId} {m k v : AV} {mu ku : Value} {ok : Bool} (hm : VR φ m mu) (hk : VR φ k ku) (hv : lookupA P h t m k ok = some v) :
    ∃ u, VR φ v u ∧ (Instr.lookup t mu ku ok).run P w = .ok u w := by
  unfold lookupA at hv
  split at hv
  · rename_i kt el hd
    simp only [Option.bind_eq_bind] at hv
    split at hv
    · rename_i hfit
      simp only [Option.bind_eq_some_iff] at hv
      obtain ⟨es, hes, res, hres, hv⟩ := hv
      obtain ⟨kd, kv, hkd, hkv, hkk⟩ := keyFits_spec hfit
      cases val?_eq hkv hk
      -- the entries as the model has them
      have hent : ∃ en : Array MapEntry, es.length = en.toList.length ∧ (∀ (i : Nat) (k x : AV) (m : MapEntry), es[i]? = some (k, x) → en.toList[i]? = some m → val? k = some m.key ∧ VR φ x m.val) ∧
          (mu = .map none ∧ en = #[] ∨ ∃ b ck, mu = .map (some b) ∧ w.heap[b]? = some (.map en ck)) := by
        cases m <;> simp only [mapOf] at hes <;> first | (cases hes; done) | skip
        · rename_i rr
          split at hes
          · rename_i es' hg
            cases hes
            obtain ⟨loc, hl, rfl⟩ := hm.map_inv
            obtain ⟨en, ck, h1, h2, h3⟩ := r.blk rr _ loc hg hl
            exact ⟨en, by simpa using h2, fun i k x m h h' => h3 i k x m h (by simpa using h'), .inr ⟨_, ck, rfl, h1⟩⟩
          · cases hes
        · cases hes
          cases hm.nilm_inv
          exact ⟨#[], rfl, fun i k x m h => by simp at h, .inl ⟨rfl, rfl⟩⟩
      obtain ⟨en, hlen, hrel, hmu⟩ := hent
      rcases findNow_R hkk hkv es en.toList 0 res hlen hrel hres with ⟨rfl, hf⟩ | ⟨x, j, u, rfl, hf, hx, _⟩
      · simp only [Option.pure_def, Option.bind_eq_some_iff, Option.some.injEq] at hv
        obtain ⟨z, hz, rfl⟩ := hv
        obtain ⟨i, zv, _, _, hzr, _, _, _, _, hzrun⟩ := run_zero (φ := φ) hz
        refine ⟨if ok then .tuple #[zv, .bool false] else zv, ?_, ?_⟩
        · cases ok with
          | true => simpa using VR.tup_of (VRL.cons hzr (VRL.cons (VR.bool (φ := φ) false) VRL.nil))
          | false => simpa using hzr
        · rcases hmu with ⟨rfl, rfl⟩ | ⟨b, ck, rfl, hb⟩
          · simp only [Instr.lookup, Sem.run_bind, run_underlying' hd, Result.andThen_ok, Sem.run_pure]
            rw [run_checkKey hkd hkk hkv, Result.andThen_ok, run_findKey hkd hf]
            simp [hzrun]
          · simp only [Instr.lookup, Sem.run_bind, run_underlying' hd, Result.andThen_ok]
            rw [show (getObj b).run P w = .ok (.map en ck) w from by simp [getObj, Sem.run, hb]]
            simp only [Sem.run_bind, Result.andThen_ok, Sem.run_pure]
            rw [run_checkKey hkd hkk hkv, Result.andThen_ok, run_findKey hkd hf]
            simp [hzrun]
      · simp only [Option.pure_def, Option.some.injEq] at hv
        subst hv
        refine ⟨if ok then .tuple #[u, .bool true] else u, ?_, ?_⟩
        · cases ok with
          | true => simpa using VR.tup_of (VRL.cons hx (VRL.cons (VR.bool (φ := φ) true) VRL.nil))
          | false => simpa using hx
        · rcases hmu with ⟨rfl, rfl⟩ | ⟨b, ck, rfl, hb⟩
          · simp [Instr.findNow] at hf
          · simp only [Instr.lookup, Sem.run_bind, run_underlying' hd, Result.andThen_ok]
            rw [show (getObj b).run P w = .ok (.map en ck) w from by simp [getObj, Sem.run, hb]]
            simp only [Sem.run_bind, Result.andThen_ok, Sem.run_pure]
            rw [run_checkKey hkd hkk hkv, Result.andThen_ok, run_findKey hkd hf]
            simp
    · cases hv
  · cases hv

theorem bytesOfL_R : ∀ (l : List AV) (vs : List Value) (bs : List UInt8), bytesOfL l = some bs → VRL φ l vs → ∃ ns : List Int, vs = ns.map (Value.int .u8) ∧ bs = ns.map fun n => UInt8.ofNat n.toNat
  | [], vs, bs, h, r => by simp [bytesOfL] at h; subst h; exact ⟨[], by rw [r.nil_right]; rfl, rfl⟩
  | x :: l, vs, bs, h, r => by
    obtain ⟨v, us, rfl, hv, hus⟩ := r.uncons
    cases x <;> first | (simp [bytesOfL] at h; done) | skip
    rename_i k n
    cases k <;> first | (simp [bytesOfL] at h; done) | skip
    simp only [bytesOfL, Option.pure_def, Option.bind_eq_bind, Option.bind_eq_some_iff, Option.some.injEq] at h
    obtain ⟨bs', hb, rfl⟩ := h
    obtain ⟨ns, rfl, rfl⟩ := bytesOfL_R l us bs' hb hus
    cases hv.int_inv
    exact ⟨n :: ns, rfl, rfl⟩

theorem sim_read {o : Oper} {callF : CallF} {h h' : AH} {w : World} {v : AV} (he : EnvR φ e a.tmps) (hg : GlobR φ) (r : RelM φ h w) (hc : cls P o.op = .load) (hv : evOp P callF e h o.op = some (v, h')) :
    h' = h ∧ GivesIn P φ w (execOp a.eval o) v := by
  obtain ⟨dst, op, type, pos, after, guard⟩ := o
  cases op <;> simp only [cls] at hc <;> first | (cases hc; done) | skip
  case load t x =>
    simp only [evOp, Option.bind_eq_bind, Option.bind_eq_some_iff] at hv
    obtain ⟨p, hp, hv⟩ := hv
    split at hv
    · obtain ⟨rfl, hx⟩ := map_pair hv
      obtain ⟨loc, hb, hu⟩ := (opd_R he hg hp).ptr_inv
      obtain ⟨u, hrun, hr⟩ := run_loadT r hb hx
      refine ⟨rfl, u, hr, ?_⟩
      simp only [execOp, hu, Instr.loadAt, Instr.sureAddr, Sem.run_bind, Sem.run_pure, Result.andThen_ok]
      rw [hrun]
      rfl
    · cases hv
  case lookup t m k ok =>
    simp only [evOp, Option.bind_eq_bind, Option.bind_eq_some_iff] at hv
    obtain ⟨p, hp, q, hq, hv⟩ := hv
    obtain ⟨rfl, hx⟩ := map_pair hv
    obtain ⟨u, hr, hrun⟩ := sim_lookup r (opd_R he hg hp) (opd_R he hg hq) hx
    refine ⟨rfl, u, hr, ?_⟩
    simp only [execOp, Sem.run_bind]
    rw [hrun]
    rfl
  case convert s d x =>
    simp only [evOp, Option.bind_eq_bind, Option.bind_eq_some_iff] at hv
    obtain ⟨p, hp, hv⟩ := hv
    have hr := opd_R he hg hp
    unfold convertA at hv
    split at hv
    · rename_i sd k k' n hs hd
      rw [hs, hd] at hc; cases sd <;> cases hc
    · rename_i sd st hs hd
      rw [hs, hd] at hc; cases sd <;> first | (cases hc; done) | skip
      rename_i el
      -- a string of a slice's type: no
      cases hv
      refine ⟨rfl, _, .str _, ?_⟩
      simp only [execOp, convert, hr.str_inv, Sem.run_bind, run_underlying' hs, run_underlying' hd, Result.andThen_ok]
      rfl
    · rename_i el st hs hd
      rw [hs, hd] at hc; cases hc
    · rename_i el hs hd
      split at hv
      · rename_i hel
        cases hv
        refine ⟨rfl, .string .empty, .str _, ?_⟩
        have hel' : P.underlying el = some (.int .u8) := by
          cases hu : P.underlying el with
          | none => simp [hu] at hel
          | some dd => cases dd <;> simp [hu] at hel ⊢; rename_i k; cases k <;> simp_all
        simp only [execOp, hr.nils_inv, Sem.run_bind]
        rw [run_convert_bytes_string w s d el none 0 0 hs hel' hd]
        rfl
      · cases hv
    · rename_i el b o len sz tight hs hd
      split at hv
      · rename_i hel
        simp only [Option.bind_eq_bind] at hv
        split at hv
        · cases hv
        · simp only [Option.pure_def, Option.bind_eq_some_iff, Option.some.injEq, Prod.mk.injEq] at hv
          obtain ⟨c, hrow, l, hcut, bs, hbs, rfl, rfl⟩ := hv
          obtain ⟨loc, ra, cap, hb, hu, hlc, _, hra, _⟩ := hr.slice_inv
          obtain ⟨cs, el', fr, hw, hsz, hlen, hat, h3⟩ := r.row hb hrow
          obtain ⟨vs, hvl, hvr, hcell⟩ := row_cut hw h3 hcut
          obtain ⟨ns, rfl, rfl⟩ := bytesOfL_R l vs bs hbs hvr
          refine ⟨rfl, .string (ns.foldl (fun r n => r.push (UInt8.ofNat n.toNat)) ByteArray.empty), ?_, ?_⟩
          · rw [foldl_push_bytes]
            simpa using VR.str (φ := φ) _
          · simp only [execOp, hu, Sem.run_bind]
            rw [run_convert_bytes_string w s d el _ len cap hs hel hd]
            rw [run_bytesToString w ra len cap ns]
            · rfl
            · rcases hra with h0 | rfl
              · have : len = 0 := by omega
                subst this
                have : ns = [] := by simpa using hvl
                subst this
                rfl
              · rw [← hvl]; exact run_loadCells hcell
      · cases hv
    · cases hv
  case call c =>
    simp only [evOp, Option.bind_eq_bind, Option.bind_eq_some_iff] at hv
    obtain ⟨vs, hvs, hv⟩ := hv
    have hr := opds_R he hg _ _ hvs
    have hmap : (c.args.map a.eval).toList = c.args.toList.map a.eval := by simp
    split at hv
    · rename_i b hb
      rw [hb] at hc
      rw [run_builtin rfl hb]
      cases b <;> first | (cases hc; done) | skip
      cases hts : c.argTypes.toList with
      | nil => rw [hts] at hv; cases hv
      | cons t ts =>
        cases vs with
        | nil => rw [hts] at hv; cases hv
        | cons x xs =>
          rw [hts] at hv
          cases xs with
          | cons y ys => cases hv
          | nil =>
          obtain ⟨rfl, hl⟩ := map_pair (show (lenA P h t x).map (·, h) = some (v, h') from hv)
          obtain ⟨u, us, hus, hxu, _⟩ := hr.uncons
          have ht : c.argTypes[0]? = some t := by rw [← Array.getElem?_toList, hts]; rfl
          have hu : (c.args.map a.eval)[0]? = some u := by rw [← Array.getElem?_toList, hmap, hus]; rfl
          refine ⟨rfl, ?_⟩
          have hmapd : ∃ k el, P.underlying t = some (.map k el) := by
            rw [ht] at hc
            simp only [Option.bind_some] at hc
            split at hc
            · exact ⟨_, _, ‹_›⟩
            · cases hc
          obtain ⟨k, el, hd⟩ := hmapd
          unfold lenA at hl
          rw [hd] at hl
          cases x <;> first | (cases hl; done) | skip
          · rename_i rr
            dsimp only at hl
            split at hl
            · rename_i es hgt
              cases hl
              obtain ⟨loc, hloc, rfl⟩ := hxu.map_inv
              obtain ⟨en, ck, h1, h2, h3⟩ := r.blk rr _ loc hgt hloc
              refine ⟨_, .int _ _, ?_⟩
              simp only [builtin, Sem.run_bind, Builtin.len_, ht, hu, run_underlying' hd, Result.andThen_ok]
              rw [show (getObj loc.blk).run P w = .ok (.map en ck) w from by simp [getObj, Sem.run, h1]]
              simp [goInt, h2]
            · cases hl
          · cases hl
            cases hxu.nilm_inv
            refine ⟨_, .int _ _, ?_⟩
            simp only [builtin, Sem.run_bind, Builtin.len_, ht, hu, run_underlying' hd, Result.andThen_ok]
            rfl
    · rename_i hb
      rw [hb] at hc; cases hc
    · rename_i hb
      rw [hb] at hc; cases hc

end
end Go.Vai
