/- Laws of slots and memory (printed by gen0.py). -/
import Derived.Test.YtckjdbmadheamaaGreatDoorA0
set_option linter.all false
namespace Go.Fast
open Go.Vai

theorem Fr1At_same (d : D8) (x : Fr1) (v : FV) : (Fr1At d).g ((Fr1At d).s x v) = v := by cases x; cases d <;> rfl
theorem Fr1At_other (d d' : D8) (x : Fr1) (v : FV) (h : d' ≠ d) : (Fr1At d').g ((Fr1At d).s x v) = (Fr1At d').g x := by cases x; cases d <;> cases d' <;> first | rfl | exact absurd rfl h
theorem Fr2At_same (d : D8) (x : Fr2) (v : Fr1) : (Fr2At d).g ((Fr2At d).s x v) = v := by cases x; cases d <;> rfl
theorem Fr2At_other (d d' : D8) (x : Fr2) (v : Fr1) (h : d' ≠ d) : (Fr2At d').g ((Fr2At d).s x v) = (Fr2At d').g x := by cases x; cases d <;> cases d' <;> first | rfl | exact absurd rfl h
theorem Fr3At_same (d : D8) (x : Fr3) (v : Fr2) : (Fr3At d).g ((Fr3At d).s x v) = v := by cases x; cases d <;> rfl
theorem Fr3At_other (d d' : D8) (x : Fr3) (v : Fr2) (h : d' ≠ d) : (Fr3At d').g ((Fr3At d).s x v) = (Fr3At d').g x := by cases x; cases d <;> cases d' <;> first | rfl | exact absurd rfl h
theorem He1At_same (d : D8) (x : He1) (v : FO) : (He1At d).g ((He1At d).s x v) = v := by cases x; cases d <;> rfl
theorem He1At_other (d d' : D8) (x : He1) (v : FO) (h : d' ≠ d) : (He1At d').g ((He1At d).s x v) = (He1At d').g x := by cases x; cases d <;> cases d' <;> first | rfl | exact absurd rfl h
theorem He2At_same (d : D8) (x : He2) (v : He1) : (He2At d).g ((He2At d).s x v) = v := by cases x; cases d <;> rfl
theorem He2At_other (d d' : D8) (x : He2) (v : He1) (h : d' ≠ d) : (He2At d').g ((He2At d).s x v) = (He2At d').g x := by cases x; cases d <;> cases d' <;> first | rfl | exact absurd rfl h
theorem He3At_same (d : D8) (x : He3) (v : He2) : (He3At d).g ((He3At d).s x v) = v := by cases x; cases d <;> rfl
theorem He3At_other (d d' : D8) (x : He3) (v : He2) (h : d' ≠ d) : (He3At d').g ((He3At d).s x v) = (He3At d').g x := by cases x; cases d <;> cases d' <;> first | rfl | exact absurd rfl h
theorem He4At_same (d : D8) (x : He4) (v : He3) : (He4At d).g ((He4At d).s x v) = v := by cases x; cases d <;> rfl
theorem He4At_other (d d' : D8) (x : He4) (v : He3) (h : d' ≠ d) : (He4At d').g ((He4At d).s x v) = (He4At d').g x := by cases x; cases d <;> cases d' <;> first | rfl | exact absurd rfl h
theorem He5At_same (d : D8) (x : He5) (v : He4) : (He5At d).g ((He5At d).s x v) = v := by cases x; cases d <;> rfl
theorem He5At_other (d d' : D8) (x : He5) (v : He4) (h : d' ≠ d) : (He5At d').g ((He5At d).s x v) = (He5At d').g x := by cases x; cases d <;> cases d' <;> first | rfl | exact absurd rfl h
theorem He6At_same (d : D8) (x : He6) (v : He5) : (He6At d).g ((He6At d).s x v) = v := by cases x; cases d <;> rfl
theorem He6At_other (d d' : D8) (x : He6) (v : He5) (h : d' ≠ d) : (He6At d').g ((He6At d).s x v) = (He6At d').g x := by cases x; cases d <;> cases d' <;> first | rfl | exact absurd rfl h

theorem dig_n (n : Nat) (h : n < 8) : (dig n).n = n := by
  match n, h with
  | 0, _ | 1, _ | 2, _ | 3, _ | 4, _ | 5, _ | 6, _ | 7, _ => rfl
theorem dig_of (d : D8) : dig d.n = d := by cases d <;> rfl
theorem D8.n_lt (d : D8) : d.n < 8 := by cases d <;> decide
theorem D8.n_inj {a b : D8} (h : a.n = b.n) : a = b := by rw [← dig_of a, ← dig_of b, h]

theorem slot_same (t : Nat) (e : Fr3) (v : FV) : (slot t).g ((slot t).s e v) = v := by
  simp only [slot, Fr3At_same, Fr2At_same, Fr1At_same]

theorem slot_other {t u : Nat} (ht : t < 512) (hu : u < 512) (h : u ≠ t) (e : Fr3) (v : FV) : (slot u).g ((slot t).s e v) = (slot u).g e := by
  have e1 : Nat.mod t 8 = t % 8 := rfl
  have e2 : Nat.mod u 8 = u % 8 := rfl
  have e3 : Nat.mod (Nat.div t 8) 8 = t / 8 % 8 := rfl
  have e4 : Nat.mod (Nat.div u 8) 8 = u / 8 % 8 := rfl
  have e5 : Nat.div t 64 = t / 64 := rfl
  have e6 : Nat.div u 64 = u / 64 := rfl
  simp only [slot, e1, e2, e3, e4, e5, e6]
  by_cases h3 : u / 64 = t / 64
  · rw [h3, Fr3At_same]
    by_cases h2 : u / 8 % 8 = t / 8 % 8
    · rw [h2, Fr2At_same]
      have h1 : u % 8 ≠ t % 8 := by omega
      rw [Fr1At_other]
      intro hd
      have := congrArg D8.n hd
      rw [dig_n _ (by omega), dig_n _ (by omega)] at this
      exact h1 this
    · rw [Fr2At_other]
      intro hd
      have := congrArg D8.n hd
      rw [dig_n _ (by omega), dig_n _ (by omega)] at this
      exact h2 this
  · rw [Fr3At_other]
    intro hd
    have := congrArg D8.n hd
    rw [dig_n _ (by omega), dig_n _ (by omega)] at this
    exact h3 this

theorem hget_same (h : HeT) (p : Pth) (o : FO) : hget (hset h p o) p = o := by
  simp only [hget, hset, He6At_same, He5At_same, He4At_same, He3At_same, He2At_same, He1At_same]

theorem hget_other (h : HeT) {p q : Pth} (o : FO) (hne : q ≠ p) : hget (hset h p o) q = hget h q := by
  simp only [hget, hset]
  by_cases h6 : q.f = p.f
  · rw [h6, He6At_same]
    by_cases h5 : q.e = p.e
    · rw [h5, He5At_same]
      by_cases h4 : q.d = p.d
      · rw [h4, He4At_same]
        by_cases h3 : q.c = p.c
        · rw [h3, He3At_same]
          by_cases h2 : q.b = p.b
          · rw [h2, He2At_same]
            have h1 : q.a ≠ p.a := fun h1 => hne (by cases q; cases p; simp_all)
            rw [He1At_other _ _ _ _ h1]
          · rw [He2At_other _ _ _ _ h2]
        · rw [He3At_other _ _ _ _ h3]
      · rw [He4At_other _ _ _ _ h4]
    · rw [He5At_other _ _ _ _ h5]
  · rw [He6At_other _ _ _ _ h6]

theorem Pth.dec_lt (p : Pth) : p.dec < top := by
  have := p.a.n_lt; have := p.b.n_lt; have := p.c.n_lt; have := p.d.n_lt; have := p.e.n_lt; have := p.f.n_lt
  unfold Pth.dec top; omega

theorem pth_dec (p : Pth) : pth p.dec = p := by
  have ha := p.a.n_lt; have hb := p.b.n_lt; have hc := p.c.n_lt; have hd := p.d.n_lt; have he := p.e.n_lt; have hf := p.f.n_lt
  have e0 : Nat.mod p.dec 8 = p.a.n := by show p.dec % 8 = _; unfold Pth.dec; omega
  have e1 : Nat.mod (Nat.div p.dec 8) 8 = p.b.n := by show p.dec / 8 % 8 = _; unfold Pth.dec; omega
  have e2 : Nat.mod (Nat.div p.dec 64) 8 = p.c.n := by show p.dec / 64 % 8 = _; unfold Pth.dec; omega
  have e3 : Nat.mod (Nat.div p.dec 512) 8 = p.d.n := by show p.dec / 512 % 8 = _; unfold Pth.dec; omega
  have e4 : Nat.mod (Nat.div p.dec 4096) 8 = p.e.n := by show p.dec / 4096 % 8 = _; unfold Pth.dec; omega
  have e5 : Nat.div p.dec 32768 = p.f.n := by show p.dec / 32768 = _; unfold Pth.dec; omega
  unfold pth
  rw [e0, e1, e2, e3, e4, e5, dig_of, dig_of, dig_of, dig_of, dig_of, dig_of]

theorem dec_pth {n : Nat} (h : n < top) : (pth n).dec = n := by
  unfold top at h
  have e0 : Nat.mod n 8 = n % 8 := rfl
  have e1 : Nat.mod (Nat.div n 8) 8 = n / 8 % 8 := rfl
  have e2 : Nat.mod (Nat.div n 64) 8 = n / 64 % 8 := rfl
  have e3 : Nat.mod (Nat.div n 512) 8 = n / 512 % 8 := rfl
  have e4 : Nat.mod (Nat.div n 4096) 8 = n / 4096 % 8 := rfl
  have e5 : Nat.div n 32768 = n / 32768 := rfl
  unfold pth Pth.dec
  simp only [e0, e1, e2, e3, e4, e5]
  rw [dig_n _ (by omega), dig_n _ (by omega), dig_n _ (by omega), dig_n _ (by omega), dig_n _ (by omega), dig_n _ (by omega)]
  omega

theorem Pth.dec_inj {p q : Pth} (h : p.dec = q.dec) : p = q := by rw [← pth_dec p, ← pth_dec q, h]

theorem D8.suc_n (d : D8) (h : d.last = false) : d.suc.n = d.n + 1 := by cases d <;> first | rfl | cases h
theorem D8.last_n (d : D8) (h : d.last = true) : d.n = 7 := by cases d <;> first | rfl | cases h

theorem Pth.suc_dec (p : Pth) (h : p.f.last = false) : p.suc.dec = p.dec + 1 := by
  obtain ⟨a, b, c, d, e, f⟩ := p
  dsimp only at h
  have h0 : D8.n .d0 = 0 := rfl
  simp only [Pth.suc]
  cases ha : a.last with
  | false =>
    have h1 := D8.suc_n a ha
    simp only [Pth.dec]; omega
  | true =>
    have ha' := D8.last_n a ha
    cases hb : b.last with
    | false =>
      have h1 := D8.suc_n b hb
      simp only [Pth.dec]; omega
    | true =>
      have hb' := D8.last_n b hb
      cases hc : c.last with
      | false =>
        have h1 := D8.suc_n c hc
        simp only [Pth.dec]; omega
      | true =>
        have hc' := D8.last_n c hc
        cases hd : d.last with
        | false =>
          have h1 := D8.suc_n d hd
          simp only [Pth.dec]; omega
        | true =>
          have hd' := D8.last_n d hd
          cases he : e.last with
          | false =>
            have h1 := D8.suc_n e he
            simp only [Pth.dec]; omega
          | true =>
            have he' := D8.last_n e he
            have h1 := D8.suc_n f h
            simp only [Pth.dec]; omega

end Go.Fast
