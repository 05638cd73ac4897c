/- Appends: the relation is kept. -/
import Derived.Test.YtckjdbmadheamaaGreatDoorR11
set_option linter.all false
namespace Go.Vai

section
variable {φ : Phi} {P : Program}

theorem all_append {l m : List AV} (h1 : l.all AV.atom = true) (h2 : m.all AV.atom = true) : (l ++ m).all AV.atom = true := by
  rw [List.all_append, h1, h2]; rfl

theorem cut_all {c l : List AV} {o n : Nat} (h : c.all AV.atom = true) (hl : cutL c o n = some l) : l.all AV.atom = true := by
  unfold cutL at hl
  split at hl
  · cases hl
    rw [List.all_eq_true] at h ⊢
    exact fun x hx => h x (List.mem_of_mem_drop (List.mem_of_mem_take hx))
  · cases hl

theorem cut_len {α : Type} {c l : List α} {o n : Nat} (hl : cutL c o n = some l) : l.length = n ∧ o + n ≤ c.length := by
  unfold cutL at hl
  split at hl
  · cases hl
    refine ⟨?_, ‹_›⟩
    simp; omega
  · cases hl

theorem cut_get {α : Type} {c l : List α} {o n i : Nat} (hl : cutL c o n = some l) (hi : i < n) : l[i]? = c[o + i]? := by
  unfold cutL at hl
  split at hl
  · cases hl
    rw [List.getElem?_take, if_pos hi, List.getElem?_drop]
  · cases hl

/-- the cells of a new row: the old ones, the new ones, zeros -/
theorem grown_cells {l : List AV} {olds news : List Value} {z : Array Value} {k i : Nat} {x : AV} (hl : VRL φ l (olds ++ news)) (hx : l[i]? = some x) :
    ∃ v, (olds.toArray ++ news.toArray ++ Builtin.zeroCells z k)[i]? = some v ∧ VR φ x v := by
  obtain ⟨v, hv, hr⟩ := hl.get hx
  refine ⟨v, ?_, hr⟩
  have hlt := (List.getElem?_eq_some_iff.1 hv).1
  rw [Array.getElem?_append_left (by simpa using hlt)]
  simpa using hv

theorem sim_append {h h' : AH} {w : World} {st second ty : TypeId} {s x v : AV} {su xu : Value} (r : RelM φ h w) (hv : appendA P h st second s x = some (v, h')) (hs : VR φ s su) (hx : VR φ x xu) :
    ∃ u w' φ', (Builtin.append_ #[st, second] ty #[su, xu]).run P w = .ok u w' ∧ StepR φ φ' h h' w w' ∧ VR φ' v u := by
  unfold appendA at hv
  split at hv
  · rename_i el d hst hsec
    simp only [Option.bind_eq_bind] at hv
    split at hv
    · cases hv
    rename_i hdi
    have hd : ∀ k, d ≠ .int k := fun k e => hdi k e
    rw [if_neg (by decide)] at hv
    obtain ⟨i, hi, hv⟩ := Option.bind_eq_some_iff.1 hv
    split at hv
    · cases hv
    rename_i hsizes
    obtain ⟨⟨n, new⟩, hsrc, hv⟩ := Option.bind_eq_some_iff.1 hv
    dsimp only at hv
    obtain ⟨news, hnews, hnr, hna⟩ := src_R (P := P) r hsrc hx
    have hz0 : (zeroT P el).isSome := by cases hzz : zeroT P el with | none => simp [hzz] at hsizes | some _ => rfl
    obtain ⟨z, hz⟩ := Option.isSome_iff_exists.1 hz0
    obtain ⟨i', zv, hi', hzv, hzr, hzl, hzn, hza, hzc, hzrun⟩ := run_zero (φ := φ) hz
    rw [hi] at hi'; cases hi'
    have hsz : sizeT P el = some i.size := by simp [sizeT, hi]
    have hzsize : zv.cells.size = i.size := by have := hzc.1; simp at this; omega
    have hby : i.bytes ≤ 2 ^ 16 := by omega
    have hby0 : i.bytes ≠ 0 := fun e => hsizes (.inr (.inl e))
    have hnl : new.length = n * i.size := by rw [hnr.1, hnews.size]
    have hnl' := hnews.size
    -- a new row
    have fresh : ∀ (h1 : AH) (len cap : Nat) (base : Option Addr) (old : List AV) (olds : List Value) (na : List Nat), su = .slice base len cap → StepR φ φ h h1 w w → cap < len + n → len + n ≤ most →
        (∀ w1 : World, w1.heap = w.heap → (Builtin.firstCells i.size len (.slice base len cap)).run P w1 = .ok olds.toArray w1) → VRL φ old olds → olds.length = len * i.size → old.all AV.atom = true →
        (∀ X ∈ na, X < h1.next ∧ φ X ≠ none ∧ ∀ sx nx fx cx, h1.get X = some (.cells sx nx fx cx) → sx ≠ 0) →
        ∃ u w' φ', (Builtin.append_ #[st, second] ty #[su, xu]).run P w = .ok u w' ∧ StepR φ φ' h (h1.new (.cells 0 na false (old ++ new))) w w' ∧ VR φ' (.slice h1.next 0 (len + n) i.size false) u := by
      intro h1 len cap base old olds na hsu s1 hgt hmost hold hor hol hoa hna'
      obtain ⟨newCap, hnc, hrun⟩ := run_append_new (ty := ty) hst hsec hd hi hzv hnews hgt hold hmost hby hby0
      rw [← hsu] at hrun
      have hcs : (olds.toArray ++ news.toArray ++ Builtin.zeroCells zv.cells (newCap - (len + n))).size = newCap * i.size := by
        simp [zeroCells_size, hzsize, hol, hnl']
        rw [← Nat.add_mul, ← Nat.add_mul]
        congr 1; omega
      have hlen : (old ++ new).length = (len + n) * i.size := by simp [hnl, hor.1, hol, Nat.add_mul]
      have hst' := step_new s1.rel (na := na) (c := old ++ new) (lim := newCap * i.size) (el := el) (fr := (0, 0)) (all_append hoa hna) (by rw [hcs]; exact Nat.le_refl _)
        (by rw [hlen]; exact Nat.mul_le_mul_right _ hnc) (fun j y hy => grown_cells (z := zv.cells) (k := newCap - (len + n)) (hor.append hnr) hy) (fun j _ => by simp) hna'
        (w' := { w with heap := w.heap.push (.cells (olds.toArray ++ news.toArray ++ Builtin.zeroCells zv.cells (newCap - (len + n))) el), drawn := w.drawn + 1 }) rfl rfl rfl rfl
      refine ⟨_, _, _, hrun, s1.trans hst', ?_⟩
      exact .slice (Phi.upd_self _ _ _) hnc (fun e => by cases e) (.inr rfl) (by simp)
    split at hv
    · -- nil
      cases hs.nils_inv
      split at hv
      · rename_i hn0
        cases hv
        subst hn0
        have : news = [] := List.eq_nil_of_length_eq_zero (by rw [hnl']; simp)
        subst this
        refine ⟨.slice none 0 0, w, φ, ?_, StepR.refl r, .nils⟩
        exact run_append_place (P := P) hst hsec hd hsz hnews (Nat.le_refl _) (fun ad e => by cases e) (fun _ => rfl)
      · split at hv
        · cases hv
        · cases hv
          have hf := fresh h 0 0 none [] [] [] rfl (StepR.refl r) (by omega) (by omega) (fun w1 _ => rfl) .nil (by simp) rfl (fun X hX => by cases hX)
          simpa [newRow] using hf
    · rename_i b o len sz tight _ _
      split at hv
      · cases hv
      rename_i hszm
      have hszeq : sz = i.size := by omega
      subst hszeq
      have hmost : len + n ≤ most := by omega
      obtain ⟨loc, ra, cap, hb, rfl, hlc, htight, hra, hlim⟩ := hs.slice_inv
      split at hv
      · rename_i hn0
        cases hv
        subst hn0
        have : news = [] := List.eq_nil_of_length_eq_zero (by rw [hnl']; simp)
        subst this
        refine ⟨.slice (some ra) len cap, w, φ, ?_, StepR.refl r, hs⟩
        exact run_append_place (P := P) hst hsec hd hsz hnews hlc (fun ad e => rfl) (fun e => by cases e)
      rename_i hn0
      split at hv
      · rename_i stt anc fro c hg
        split at hv
        · cases hv
        rename_i hst2
        obtain ⟨old, hcut, hv'⟩ := Option.bind_eq_some_iff.1 hv
        clear hv
        have hv := hv'
        clear hv'
        obtain ⟨hol, hocl⟩ := cut_len hcut
        have hrow : rowOf h b = some c := by simp [rowOf, hg, hst2]
        obtain ⟨cs, el', fr, hw, hcsz, hclen, hcat, h3⟩ := r.row hb hrow
        obtain ⟨olds, hvl, hvr, hcell⟩ := row_cut hw h3 hcut
        have hold : ∀ w1 : World, w1.heap = w.heap → (Builtin.firstCells i.size len (.slice (some ra) len cap)).run P w1 = .ok olds.toArray w1 := fun w1 hh => by
          simp only [Builtin.firstCells]
          rcases hra with h0 | rfl
          · have hl0 : len = 0 := by omega
            subst hl0
            have : olds = [] := List.eq_nil_of_length_eq_zero (by rw [hvl]; simp)
            subst this
            simp [Go.loadCells, loadCellsFrom]
          · rw [← hvl]
            exact run_loadCells (fun j v hv => by rw [cell_heap hh]; exact hcell j v hv)
        have hoa := cut_all hcat hcut
        split at hv
        · rename_i ht
          cases hv
          have := htight ht
          exact fresh h len cap (some ra) old olds [] rfl (StepR.refl r) (by omega) hmost hold hvr hvl hoa (fun X hX => by cases hX)
        · split at hv
          · rename_i hown
            obtain ⟨rfl, rfl⟩ := hown
            have hobj := r.blk b _ loc hg hb
            rcases hobj with h2 | ⟨_, _, hanc, cs1, el1, fr1, g1, _, _, g4⟩
            · cases h2
            rw [hw] at g1; cases g1
            have hfz := g4 rfl
            have hbn : b ∉ anc := fun hm => absurd rfl (r.elder b b _ _ _ _ _ _ _ _ hg (by simp) hm hg)
            -- in place: what the model does
            have hplace : len + n ≤ cap → ra = ⟨loc.blk, loc.base + o, none⟩ ∧ (Builtin.append_ #[st, second] ty #[.slice (some ra) len cap, xu]).run P w =
                .ok (.slice (some ra) (len + n) cap) (World.setBlk w loc.blk (.cells (putA cs (loc.base + o + len * i.size) news) el' fr)) ∧ (loc.base + o + len * i.size) + news.length ≤ loc.base + loc.lim ∧ (len + n) * i.size ≤ loc.lim - o ∧ o ≤ loc.lim := by
              intro hle
              have hra' : ra = ⟨loc.blk, loc.base + o, none⟩ := hra.resolve_left (by omega)
              have hmul : (len + n) * i.size ≤ cap * i.size := Nat.mul_le_mul_right _ hle
              have hmul' : len * i.size + n * i.size = (len + n) * i.size := (Nat.add_mul _ _ _).symm
              refine ⟨hra', ?_, by rw [hnl']; omega, by omega, by omega⟩
              refine run_append_place (P := P) hst hsec hd hsz hnews hle (fun ad e => ?_) (fun e => by cases e)
              cases e
              rw [hra', add_none]
              have := run_storeCells (P := P) (b := loc.blk) (o := loc.base + o + len * i.size) news 0 w cs hw (by rw [hnl']; omega) (hnr.oneCell hna) (fun j hj => by
                have := hfz (o + len * i.size + j) (by rw [hnl'] at hj; omega)
                rw [show loc.base + o + len * i.size + 0 + j = loc.base + (o + len * i.size + j) from by omega]; exact this)
              simpa using this
            have hcells : (loc.base + o + len * i.size) + news.length ≤ loc.base + loc.lim → ∀ (j : Nat) (y : AV), (old ++ new)[j]? = some y → ∃ v, (putA cs (loc.base + o + len * i.size) news)[loc.base + o + j]? = some v ∧ VR φ y v := by
              intro hfit j y hy
              rw [putA_get _ _ _ _ (by omega)]
              rcases Nat.lt_or_ge j (len * i.size) with h1 | h1
              · rw [List.getElem?_append_left (by omega), cut_get hcut h1] at hy
                rw [if_neg (by omega)]
                obtain ⟨v, hv1, hv2⟩ := h3 _ _ hy
                exact ⟨v, by rw [show loc.base + o + j = loc.base + (o + j) from by omega]; exact hv1, hv2⟩
              · rw [List.getElem?_append_right (by omega)] at hy
                obtain ⟨v, hv1, hv2⟩ := hnr.get hy
                have hlt := (List.getElem?_eq_some_iff.1 hv1).1
                rw [if_pos (by omega)]
                exact ⟨v, by rw [show loc.base + o + j - (loc.base + o + len * i.size) = j - old.length from by omega]; exact hv1, hv2⟩
            have hlenon : (old ++ new).length = (len + n) * i.size := by simp [hol, hnl, Nat.add_mul]
            have hownb : Own h b := .inl ⟨anc, c, hg⟩
            split at hv
            · rename_i hend
              cases hv
              have s1 := step_ro r hg (by rw [hb]; simp)
              have hna' : ∀ X ∈ b :: anc, X < (h.put b (.cells 1 anc false c)).next ∧ φ X ≠ none ∧ ∀ sx nx fx cx, (h.put b (.cells 1 anc false c)).get X = some (.cells sx nx fx cx) → sx ≠ 0 := by
                intro X hX
                rcases List.mem_cons.1 hX with rfl | hX
                · refine ⟨r.hdom _ _ hg, by rw [hb]; simp, fun sx nx fx cx hh => ?_⟩
                  rw [AH.put_self] at hh; cases hh; simp
                · refine ⟨r.anclt _ _ _ _ _ hg X hX, hanc X hX, fun sx nx fx cx hh => ?_⟩
                  have hne : X ≠ b := fun e => hbn (e ▸ hX)
                  rw [AH.put_ne _ _ hne] at hh
                  exact r.elder b X _ _ _ _ _ _ _ _ hg (by simp) hX hh
              rcases Nat.lt_or_ge cap (len + n) with hgt | hle
              · exact fresh (h.put b (.cells 1 anc false c)) len cap (some ra) old olds (b :: anc) rfl s1 hgt hmost hold hvr hvl hoa hna'
              · obtain ⟨hra', hrun, hfit, hfit2, holim⟩ := hplace hle
                refine ⟨_, _, _, hrun, step_in (loc := ⟨loc.blk, loc.base + o, loc.lim - o⟩) s1 hownb hb rfl (all_append hoa hna) (by rw [hlenon]; exact hfit2) hw (putA_size _ _ _) (by simp; omega) (hcells hfit) (fun j hj => ?_) hna' (fun A sa na f ca la ga hsa ea hbl => ?_) rfl rfl rfl rfl, ?_⟩
                · have := hfz (o + j) (by simp at hj; omega)
                  simp
                  simp at this
                  omega
                · have hpres : ∀ (q : Nat), q < ca.length → la.base + ca.length ≤ loc.base + c.length → (putA cs (loc.base + o + len * i.size) news)[la.base + q]? = cs[la.base + q]? := fun q hq hle' => by
                    rw [putA_get _ _ _ _ (by omega), if_neg (by omega)]
                  by_cases hA : A = b
                  · subst hA
                    rw [AH.put_self] at ga; cases ga
                    rw [hb] at ea; cases ea
                    exact ⟨by simp, by simp [hlenon]; rw [Nat.add_mul]; omega, fun q hq => hpres q hq (Nat.le_refl _)⟩
                  · rw [AH.put_ne _ _ hA] at ga
                    rcases r.apart A b sa na f ca 0 anc false c la loc ga hg hsa (by simp) ea hb hbl with q1 | ⟨q1, q2⟩ | ⟨q1, _⟩
                    · exact absurd q1 hA
                    · exact ⟨by simp [q1], by simp [hlenon]; rw [Nat.add_mul]; omega, fun q hq => hpres q hq q2⟩
                    · exact absurd rfl (r.elder A b _ _ _ _ _ _ _ _ ga hsa q1 hg)
                · refine .slice (Phi.upd_self _ _ _) hle (fun e => by cases e) (.inr (by simp [hra'])) ?_
                  simp; omega
            · rename_i hend
              cases hv
              have s1 := step_kill r (l := b :: anc) (fun X hX => by
                rcases List.mem_cons.1 hX with rfl | hX
                · rw [hb]; simp
                · exact hanc X hX)
              rw [show h.next = (kill h (b :: anc)).next from (kill_next _ _).symm] at *
              rcases Nat.lt_or_ge cap (len + n) with hgt | hle
              · exact fresh (kill h (b :: anc)) len cap (some ra) old olds [] rfl s1 hgt hmost hold hvr hvl hoa (fun X hX => by cases hX)
              · obtain ⟨hra', hrun, hfit, hfit2, holim⟩ := hplace hle
                refine ⟨_, _, _, hrun, step_in (loc := ⟨loc.blk, loc.base + o, loc.lim - o⟩) s1 hownb hb rfl (all_append hoa hna) (by rw [hlenon]; exact hfit2) hw (putA_size _ _ _) (by simp; omega) (hcells hfit) (fun j hj => ?_) (fun X hX => by cases hX) (fun A sa na f ca la ga hsa ea hbl => ?_) rfl rfl rfl rfl, ?_⟩
                · have := hfz (o + j) (by simp at hj; omega)
                  simp
                  simp at this
                  omega
                · exfalso
                  obtain ⟨sa', ga', hsa'⟩ := kill_cells ga
                  have h1 : sa' ≠ 2 := by intro e; subst e; split at hsa' <;> exact hsa hsa'
                  rcases r.apart A b sa' na f ca 0 anc false c la loc ga' hg h1 (by simp) ea hb hbl with q1 | ⟨q1, q2⟩ | ⟨q1, _⟩
                  · subst q1; simp at hsa'; exact hsa hsa'
                  · simp [q1] at hsa'; exact hsa hsa'
                  · exact absurd rfl (r.elder A b _ _ _ _ _ _ _ _ ga' h1 q1 hg)
                · refine .slice (Phi.upd_self _ _ _) hle (fun e => by cases e) (.inr (by simp [hra'])) ?_
                  simp; omega
          · cases hv
      · cases hv
    · cases hv
  · cases hv

end
end Go.Vai
