import PyProof.Rows.All
import Wide.All
import OpenK.AllK
import Wide.FinOn
import HandS.ForMost
import HandS.ForExc
import HandS.IsInst
import HandS.Style
import HandS.SortInts
import PySem.Challenge.RW_ringseat_k04_settled
set_option Elab.async false
set_option linter.all false
set_option maxRecDepth 100000
set_option maxHeartbeats 4000000
/-! ### the ring: seats 0 .. n-1, far from a home, who goes ahead, settled seatings -/
namespace Ring
def far (n h p : Nat) : Nat := if h ≤ p then p - h else p + n - h
def nx (n p : Nat) : Nat := if p + 1 < n then p + 1 else 0
def pv (n p : Nat) : Nat := if p = 0 then n - 1 else p - 1
theorem far_lt {n h p : Nat} (hh : h < n) (hp : p < n) : far n h p < n := by unfold far; split <;> omega
theorem far_self {n h : Nat} : far n h h = 0 := by unfold far; simp
theorem far_zero {n h p : Nat} (hh : h < n) (e : far n h p = 0) : p = h := by unfold far at e; split at e <;> omega
theorem far_inj {n h p q : Nat} (hh : h < n) (hp : p < n) (hq : q < n) (e : far n h p = far n h q) : p = q := by unfold far at e; split at e <;> split at e <;> omega
theorem nx_lt {n p : Nat} (hp : p < n) : nx n p < n := by unfold nx; split <;> omega
theorem pv_lt {n p : Nat} (hp : p < n) : pv n p < n := by unfold pv; split <;> omega
theorem nx_pv {n p : Nat} (hp : p < n) : nx n (pv n p) = p := by unfold nx pv; split <;> split <;> omega
theorem pv_nx {n p : Nat} (hp : p < n) : pv n (nx n p) = p := by
  unfold nx
  split
  · unfold pv; rw [if_neg (by omega)]; omega
  · unfold pv; rw [if_pos rfl]; omega
theorem nx_ne {n p : Nat} (h2 : 2 ≤ n) (hp : p < n) : nx n p ≠ p := by unfold nx; split <;> omega
theorem far_nx {n h p : Nat} (hh : h < n) (hp : p < n) (e : nx n p ≠ h) : far n h (nx n p) = far n h p + 1 := by
  unfold nx at *; unfold far
  split at e <;> rename_i h1
  · rw [if_pos h1]; split <;> split <;> omega
  · rw [if_neg h1]; split <;> split <;> omega
theorem far_last {n h p : Nat} (hh : h < n) (hp : p < n) (e : nx n p = h) : far n h p = n - 1 := by
  unfold nx at *; unfold far
  split at e <;> split <;> omega
theorem far_pv {n h p : Nat} (hh : h < n) (hp : p < n) (e : p ≠ h) : far n h (pv n p) + 1 = far n h p := by
  have := far_nx (n := n) (h := h) (p := pv n p) hh (pv_lt hp) (by rw [nx_pv hp]; exact e)
  rw [nx_pv hp] at this; omega
theorem far_le {n h p q : Nat} (hh : h < n) (hp : p < n) (hq : q < n) (e : nx n p ≠ h) : far n h q < far n h (nx n p) ↔ far n h q < far n h p ∨ q = p := by
  rw [far_nx hh hp e]
  constructor
  · intro h1
    by_cases h2 : far n h q < far n h p
    · exact .inl h2
    · exact .inr (far_inj hh hq hp (by omega))
  · rintro (h1 | rfl) <;> omega
/-- the way to an empty seat grows shorter -/
theorem far_to {n p e : Nat} (hp : p < n) (he : e < n) (h : p ≠ e) : far n (nx n p) e + 1 = far n p e := by
  unfold nx far
  split <;> split <;> split <;> omega

def fup (f : Nat → Option Int) (p : Nat) (v : Option Int) : Nat → Option Int := fun q => if q = p then v else f q
theorem fup_same {f : Nat → Option Int} {p : Nat} {v : Option Int} : fup f p v p = v := by unfold fup; rw [if_pos rfl]
theorem fup_ne {f : Nat → Option Int} {p q : Nat} {v : Option Int} (h : q ≠ p) : fup f p v q = f q := by unfold fup; rw [if_neg h]

section
variable (n : Nat) (h : Int → Nat)
/-- y goes ahead of g at seat q -/
def Ah (y g : Int) (q : Nat) : Prop := far n (h g) q < far n (h y) q ∨ (far n (h y) q = far n (h g) q ∧ y < g)
instance (y g : Int) (q : Nat) : Decidable (Ah n h y g q) := by unfold Ah; exact inferInstance
def Car (f : Nat → Option Int) (g : Int) (p : Nat) : Prop := ∀ q, q < n → far n (h g) q < far n (h g) p → ∃ y, f q = some y ∧ Ah n h y g q
def Path (f : Nat → Option Int) : Prop := ∀ p, p < n → ∀ g, f p = some g → Car n h f g p
def Sits (f : Nat → Option Int) (g : Int) : Prop := ∃ p, p < n ∧ f p = some g
/-- where a look for g ends -/
def Loc (f : Nat → Option Int) (g : Int) (p : Nat) : Prop := Car n h f g p ∧ ∀ y, f p = some y → ¬ Ah n h y g p
end
section
variable {n : Nat} {h : Int → Nat} {f : Nat → Option Int}
theorem ah_irr {g : Int} {q : Nat} : ¬ Ah n h g g q := by unfold Ah; omega
theorem ah_asym {y g : Int} {q : Nat} (a : Ah n h y g q) : ¬ Ah n h g y q := by unfold Ah at *; omega
theorem ah_tot {y g : Int} {q : Nat} (a : ¬ Ah n h y g q) (e : y ≠ g) : Ah n h g y q := by unfold Ah at *; omega
theorem ah_trans {x y z : Int} {q : Nat} (a : Ah n h x y q) (b : Ah n h y z q) : Ah n h x z q := by unfold Ah at *; omega
theorem ah_nx (hh : ∀ g, h g < n) {y z : Int} {p : Nat} (hp : p < n) (ey : nx n p ≠ h y) (ez : nx n p ≠ h z) : Ah n h y z (nx n p) ↔ Ah n h y z p := by
  unfold Ah; rw [far_nx (hh _) hp ey, far_nx (hh _) hp ez]; omega
theorem car_home {g : Int} : Car n h f g (h g) := fun q _ a => by rw [far_self] at a; omega
theorem car_nx (hh : ∀ g, h g < n) {g y : Int} {p : Nat} (hp : p < n) (c : Car n h f g p) (e : f p = some y) (a : Ah n h y g p) : Car n h f g (nx n p) := by
  by_cases w : nx n p = h g
  · rw [w]; exact car_home
  · intro q hq hl
    rcases (far_le (hh g) hp hq w).mp hl with h1 | rfl
    · exact c q hq h1
    · exact ⟨y, e, a⟩
/-- no guest is carried round the whole ring while a seat is empty -/
theorem no_wrap (hh : ∀ g, h g < n) {g : Int} {p e : Nat} (hp : p < n) (he : e < n) (h0 : f e = none) (c : Car n h f g p) (h1 : f p ≠ none) : nx n p ≠ h g := by
  intro w
  have hl := far_last (hh g) hp w
  by_cases ee : e = p
  · exact h1 (ee ▸ h0)
  have : far n (h g) e < far n (h g) p := by
    have h3 := far_lt (hh g) he
    have : far n (h g) e ≠ far n (h g) p := fun x => ee (far_inj (hh g) he hp x)
    omega
  obtain ⟨y, hy, _⟩ := c e he this
  rw [h0] at hy; cases hy
theorem path_one (hh : ∀ g, h g < n) (P : Path n h f) {x : Int} {p q : Nat} (hp : p < n) (hq : q < n) (e1 : f p = some x) (e2 : f q = some x) : p = q := by
  by_cases e : far n (h x) p = far n (h x) q
  · exact far_inj (hh x) hp hq e
  by_cases l : far n (h x) p < far n (h x) q
  · obtain ⟨y, hy, a⟩ := P q hq x e2 p hp l
    rw [e1] at hy; cases hy; exact absurd a ah_irr
  · obtain ⟨y, hy, a⟩ := P p hp x e1 q hq (by omega)
    rw [e2] at hy; cases hy; exact absurd a ah_irr
theorem loc_one (hh : ∀ g, h g < n) {g : Int} {p q : Nat} (hp : p < n) (hq : q < n) (a : Loc n h f g p) (b : Loc n h f g q) : p = q := by
  by_cases e : far n (h g) p = far n (h g) q
  · exact far_inj (hh g) hp hq e
  by_cases l : far n (h g) p < far n (h g) q
  · obtain ⟨y, hy, c⟩ := b.1 p hp l
    exact absurd c (a.2 y hy)
  · obtain ⟨y, hy, c⟩ := a.1 q hq (by omega)
    exact absurd c (b.2 y hy)
theorem path_loc (P : Path n h f) {g : Int} {p : Nat} (hp : p < n) (e : f p = some g) : Loc n h f g p := ⟨P p hp g e, fun y hy => by rw [e] at hy; cases hy; exact ah_irr⟩
/-- a guest sits where the look ends, or nowhere -/
theorem loc_sits (hh : ∀ g, h g < n) (P : Path n h f) {g : Int} {p : Nat} (hp : p < n) (l : Loc n h f g p) : Sits n f g ↔ f p = some g :=
  ⟨fun ⟨q, hq, e⟩ => by rw [loc_one hh hp hq l (path_loc P hq e)]; exact e, fun e => ⟨p, hp, e⟩⟩
theorem step_put {g : Int} {p : Nat} (P : Path n h f) (c : Car n h f g p) (e : f p = none) : Path n h (fup f p (some g)) := by
  intro q hq x hx
  by_cases w : q = p
  · subst w; rw [fup_same] at hx; cases hx
    intro r hr hl
    have : r ≠ q := fun e => by rw [e] at hl; omega
    rw [fup_ne this]; exact c r hr hl
  · rw [fup_ne w] at hx
    intro r hr hl
    obtain ⟨y, hy, a⟩ := P q hq x hx r hr hl
    have : r ≠ p := fun z => by rw [z, e] at hy; cases hy
    rw [fup_ne this]; exact ⟨y, hy, a⟩
theorem step_swap (hh : ∀ g, h g < n) {g y : Int} {p : Nat} (hp : p < n) (P : Path n h f) (c : Car n h f g p) (e : f p = some y) (a : Ah n h g y p) :
    Path n h (fup f p (some g)) ∧ Car n h (fup f p (some g)) y (nx n p) := by
  constructor
  · intro q hq x hx
    by_cases w : q = p
    · subst w; rw [fup_same] at hx; cases hx
      intro r hr hl
      have : r ≠ q := fun e => by rw [e] at hl; omega
      rw [fup_ne this]; exact c r hr hl
    · rw [fup_ne w] at hx
      intro r hr hl
      obtain ⟨z, hz, b⟩ := P q hq x hx r hr hl
      by_cases w2 : r = p
      · subst w2; rw [fup_same]; rw [e] at hz; cases hz
        exact ⟨g, rfl, ah_trans a b⟩
      · rw [fup_ne w2]; exact ⟨z, hz, b⟩
  · refine car_nx hh hp (y := g) ?_ fup_same a
    intro r hr hl
    have : r ≠ p := fun e => by rw [e] at hl; omega
    rw [fup_ne this]; exact P p hp y e r hr hl
/-- who is pushed on goes ahead of who sits on the next seat -/
theorem push_next (h2 : 2 ≤ n) (hh : ∀ g, h g < n) {y z : Int} {p e : Nat} (hp : p < n) (he : e < n) (h0 : f e = none) (P : Path n h f) (ey : f p = some y) (ez : f (nx n p) = some z) : Ah n h y z (nx n p) := by
  have wy := no_wrap hh hp he h0 (P p hp y ey) (by rw [ey]; exact fun x => nomatch x)
  by_cases wz : nx n p = h z
  · have : far n (h z) (nx n p) = 0 := by rw [wz]; exact far_self
    refine .inl ?_
    rw [this, far_nx (hh y) hp wy]; omega
  · rw [ah_nx hh hp wy wz]
    obtain ⟨y', hy', a⟩ := P _ (nx_lt hp) z ez p hp (by rw [far_nx (hh z) hp wz]; omega)
    rw [ey] at hy'; cases hy'; exact a
/-- who sits away from home has one ahead of it on the seat before -/
theorem path_before (hh : ∀ g, h g < n) (P : Path n h f) {g : Int} {p : Nat} (hp : p < n) (e : f p = some g) (w : h g ≠ p) : ∃ y, f (pv n p) = some y ∧ Ah n h y g (pv n p) :=
  P p hp g e _ (pv_lt hp) (by have := far_pv (hh g) hp (fun z => w z.symm); omega)
/-! who sits, behind a step -/
theorem sits_put {g : Int} {p : Nat} (hp : p < n) (e : f p = none) (x : Int) : Sits n (fup f p (some g)) x ↔ Sits n f x ∨ x = g := by
  constructor
  · rintro ⟨q, hq, hx⟩
    by_cases w : q = p
    · subst w; rw [fup_same] at hx; cases hx; exact .inr rfl
    · rw [fup_ne w] at hx; exact .inl ⟨q, hq, hx⟩
  · rintro (⟨q, hq, hx⟩ | rfl)
    · have w : q ≠ p := fun z => by rw [z, e] at hx; cases hx
      exact ⟨q, hq, by rw [fup_ne w]; exact hx⟩
    · exact ⟨p, hp, fup_same⟩
theorem sits_swap {g y : Int} {p : Nat} (hp : p < n) (e : f p = some y) (x : Int) : (Sits n (fup f p (some g)) x ∨ x = y) ↔ (Sits n f x ∨ x = g) := by
  constructor
  · rintro (⟨q, hq, hx⟩ | rfl)
    · by_cases w : q = p
      · subst w; rw [fup_same] at hx; cases hx; exact .inr rfl
      · rw [fup_ne w] at hx; exact .inl ⟨q, hq, hx⟩
    · exact .inl ⟨p, hp, e⟩
  · rintro (⟨q, hq, hx⟩ | rfl)
    · by_cases w : q = p
      · subst w; rw [e] at hx; cases hx; exact .inr rfl
      · exact .inl ⟨q, hq, by rw [fup_ne w]; exact hx⟩
    · exact .inl ⟨p, hp, fup_same⟩
/-! taking a guest out: seat `at` is open, its entry stale -/
def PathX (n : Nat) (h : Int → Nat) (f : Nat → Option Int) (o : Nat) : Prop := ∀ q, q < n → q ≠ o → ∀ x, f q = some x → Car n h f x q
def SitsX (n : Nat) (f : Nat → Option Int) (o : Nat) (g : Int) : Prop := ∃ p, p < n ∧ p ≠ o ∧ f p = some g
theorem pathX_of (P : Path n h f) (o : Nat) : PathX n h f o := fun q hq _ x hx => P q hq x hx
theorem out_step (h2 : 2 ≤ n) (hh : ∀ g, h g < n) {y w : Int} {o : Nat} (ho : o < n) (P : PathX n h f o) (hw : f o = some w) (e : f (nx n o) = some y) (a : h y ≠ nx n o) :
    PathX n h (fup f o (some y)) (nx n o) := by
  have hb := nx_lt ho
  have hne := nx_ne h2 ho
  intro q hq wq x hx
  by_cases c1 : q = o
  · subst c1; rw [fup_same] at hx; cases hx
    intro r hr hl
    have : r ≠ q := fun e => by rw [e] at hl; omega
    rw [fup_ne this]
    exact P _ hb hne y e r hr (by rw [far_nx (hh y) ho (fun z => a z.symm)]; omega)
  · rw [fup_ne c1] at hx
    intro r hr hl
    by_cases c2 : r = o
    · subst c2; rw [fup_same]
      refine ⟨y, rfl, ?_⟩
      have hx2 : nx n r ≠ h x := fun z => by
        have := far_last (hh x) ho z
        have := far_lt (hh x) hq
        omega
      have hl2 : far n (h x) (nx n r) < far n (h x) q := by
        have h3 := far_nx (hh x) ho hx2
        have : far n (h x) (nx n r) ≠ far n (h x) q := fun z => wq (far_inj (hh x) hb hq z).symm
        omega
      obtain ⟨y', hy', ah⟩ := P q hq c1 x hx _ hb hl2
      rw [e] at hy'; cases hy'
      exact (ah_nx hh ho (fun z => a z.symm) hx2).mp ah
    · rw [fup_ne c2]; exact P q hq c1 x hx r hr hl
theorem out_sits (h2 : 2 ≤ n) {y : Int} {o : Nat} (ho : o < n) (e : f (nx n o) = some y) (x : Int) : SitsX n (fup f o (some y)) (nx n o) x ↔ SitsX n f o x := by
  have hne := nx_ne h2 ho
  constructor
  · rintro ⟨q, hq, c, hx⟩
    by_cases w : q = o
    · subst w; rw [fup_same] at hx; cases hx; exact ⟨_, nx_lt ho, hne, e⟩
    · rw [fup_ne w] at hx; exact ⟨q, hq, w, hx⟩
  · rintro ⟨q, hq, c, hx⟩
    by_cases w : q = nx n o
    · subst w; rw [e] at hx; cases hx; exact ⟨o, ho, fun z => hne z.symm, fup_same⟩
    · exact ⟨q, hq, w, by rw [fup_ne c]; exact hx⟩
theorem out_end (h2 : 2 ≤ n) (hh : ∀ g, h g < n) {o : Nat} (ho : o < n) (P : PathX n h f o) (e : ∀ y, f (nx n o) = some y → h y = nx n o) : Path n h (fup f o none) := by
  have hb := nx_lt ho
  have hne := nx_ne h2 ho
  intro q hq x hx
  by_cases c1 : q = o
  · subst c1; rw [fup_same] at hx; cases hx
  · rw [fup_ne c1] at hx
    intro r hr hl
    by_cases c2 : r = o
    · subst c2
      exfalso
      have hx2 : nx n r ≠ h x := fun z => by
        have := far_last (hh x) ho z
        have := far_lt (hh x) hq
        omega
      by_cases c3 : q = nx n r
      · subst c3; exact hx2 (e x hx).symm
      · have h3 := far_nx (hh x) ho hx2
        have : far n (h x) (nx n r) ≠ far n (h x) q := fun z => c3 (far_inj (hh x) hb hq z).symm
        obtain ⟨y, hy, ah⟩ := P q hq c1 x hx _ hb (by omega)
        have e1 := e y hy
        have : far n (h y) (nx n r) = 0 := by rw [e1]; exact far_self
        unfold Ah at ah; omega
    · rw [fup_ne c2]; exact P q hq c1 x hx r hr hl
theorem outEnd_sits {o : Nat} (x : Int) : Sits n (fup f o none) x ↔ SitsX n f o x := by
  constructor
  · rintro ⟨q, hq, hx⟩
    by_cases w : q = o
    · subst w; rw [fup_same] at hx; cases hx
    · rw [fup_ne w] at hx; exact ⟨q, hq, w, hx⟩
  · rintro ⟨q, hq, c, hx⟩
    exact ⟨q, hq, by rw [fup_ne c]; exact hx⟩
theorem sitsX_of (hh : ∀ g, h g < n) (P : Path n h f) {o : Nat} {g : Int} (ho : o < n) (e : f o = some g) (x : Int) : SitsX n f o x ↔ Sits n f x ∧ x ≠ g := by
  constructor
  · rintro ⟨q, hq, c, hx⟩
    exact ⟨⟨q, hq, hx⟩, fun z => c (path_one hh P hq ho hx (z ▸ e))⟩
  · rintro ⟨⟨q, hq, hx⟩, c⟩
    exact ⟨q, hq, fun z => by rw [z, e] at hx; cases hx; exact c rfl, hx⟩
/-! one settled seating alone -/
theorem far_before {n h p q e : Nat} (hh : h < n) (hp : p < n) (hq : q < n) (he : e < n) (h1 : far n h p < far n h q) (h2 : far n h q < far n h e) : far n (nx n e) p < far n (nx n e) q := by
  unfold nx
  split
  · unfold far at *; split <;> split <;> (split at h1 <;> split at h1 <;> split at h2 <;> split at h2 <;> omega)
  · unfold far at *; split <;> split <;> (split at h1 <;> split at h1 <;> split at h2 <;> split at h2 <;> omega)
theorem one_side (hh : ∀ g, h g < n) {s t : Nat → Option Int} (S : Path n h s) (T : Path n h t) (st : ∀ g, Sits n t g → Sits n s g) {e : Nat} (he : e < n) (h0 : t e = none) :
    ∀ (m : Nat) (g : Int) (p q : Nat), p < n → q < n → s p = some g → t q = some g → far n (nx n e) q ≤ m → ¬ far n (h g) p < far n (h g) q := by
  intro m
  induction m with
  | zero =>
    intro g p q hp hq hs ht hm hl
    have c := T q hq g ht
    have : far n (h g) q < far n (h g) e := by
      have h1 : e ≠ q := fun z => by rw [← z, h0] at ht; cases ht
      have h3 : far n (h g) e ≠ far n (h g) q := fun z => h1 (far_inj (hh g) he hq z)
      by_cases h4 : far n (h g) e < far n (h g) q
      · obtain ⟨y, hy, _⟩ := c e he h4; rw [h0] at hy; cases hy
      · omega
    have := far_before (hh g) hp hq he hl this
    omega
  | succ m ih =>
    intro g p q hp hq hs ht hm hl
    have c := T q hq g ht
    have h5 : far n (h g) q < far n (h g) e := by
      have h1 : e ≠ q := fun z => by rw [← z, h0] at ht; cases ht
      have h3 : far n (h g) e ≠ far n (h g) q := fun z => h1 (far_inj (hh g) he hq z)
      by_cases h4 : far n (h g) e < far n (h g) q
      · obtain ⟨y, hy, _⟩ := c e he h4; rw [h0] at hy; cases hy
      · omega
    have h6 := far_before (hh g) hp hq he hl h5
    obtain ⟨y, hy, a⟩ := c p hp hl
    obtain ⟨p', hp', hy'⟩ := st y ⟨p, hp, hy⟩
    refine ih y p' p hp' hp hy' hy (by omega) ?_
    have h7 : p' ≠ p := fun z => by
      rw [z, hs] at hy'; cases hy'; exact ah_irr a
    have h8 : far n (h y) p' ≠ far n (h y) p := fun z => h7 (far_inj (hh y) hp' hp z)
    by_cases h9 : far n (h y) p < far n (h y) p'
    · obtain ⟨z, hz, b⟩ := S p' hp' y hy' p hp h9
      rw [hs] at hz; cases hz
      exact absurd b (ah_asym a)
    · omega
theorem alike (hh : ∀ g, h g < n) {s t : Nat → Option Int} (S : Path n h s) (T : Path n h t) (st : ∀ g, Sits n t g ↔ Sits n s g) (h0 : ∃ e, e < n ∧ t e = none) (h1 : ∃ e, e < n ∧ s e = none) :
    ∀ p, p < n → s p = t p := by
  obtain ⟨e, he, h0⟩ := h0
  obtain ⟨e', he', h1⟩ := h1
  have key : ∀ p g, p < n → (s p = some g ↔ t p = some g) := by
    intro p g hp
    constructor
    · intro hs
      obtain ⟨q, hq, ht⟩ := (st g).mpr ⟨p, hp, hs⟩
      have a := one_side hh S T (fun g => (st g).mp) he h0 _ g p q hp hq hs ht (Nat.le_refl _)
      have b := one_side hh T S (fun g => (st g).mpr) he' h1 _ g q p hq hp ht hs (Nat.le_refl _)
      rw [far_inj (hh g) hp hq (by omega)]; exact ht
    · intro ht
      obtain ⟨q, hq, hs⟩ := (st g).mp ⟨p, hp, ht⟩
      have a := one_side hh S T (fun g => (st g).mp) he h0 _ g q p hq hp hs ht (Nat.le_refl _)
      have b := one_side hh T S (fun g => (st g).mpr) he' h1 _ g p q hp hq ht hs (Nat.le_refl _)
      rw [far_inj (hh g) hp hq (by omega)]; exact hs
  intro p hp
  cases hs : s p with
  | some g => exact ((key p g hp).mp hs).symm
  | none =>
    cases ht : t p with
    | none => rfl
    | some g => rw [(key p g hp).mpr ht] at hs; cases hs
end
end Ring
/-! ### who sits, as a list -/
namespace Ring
def gl (n : Nat) (f : Nat → Option Int) : List Int := (List.range n).filterMap f
def em (n : Nat) (f : Nat → Option Int) : Nat := (List.range n).countP (fun p => (f p).isNone)
theorem mem_gl {n : Nat} {f : Nat → Option Int} {x : Int} : x ∈ gl n f ↔ Sits n f x := by
  unfold gl Sits
  rw [List.mem_filterMap]
  exact ⟨fun ⟨p, hp, e⟩ => ⟨p, List.mem_range.mp hp, e⟩, fun ⟨p, hp, e⟩ => ⟨p, List.mem_range.mpr hp, e⟩⟩
theorem fm_len (l : List Nat) (f : Nat → Option Int) : (l.filterMap f).length + l.countP (fun p => (f p).isNone) = l.length := by
  induction l with
  | nil => rfl
  | cons a l ih =>
    cases e : f a with
    | none => rw [List.filterMap_cons_none e, List.countP_cons_of_pos (by simp [e]), List.length_cons]; omega
    | some y => rw [List.filterMap_cons_some e, List.countP_cons_of_neg (by simp [e]), List.length_cons, List.length_cons]; omega
theorem gl_em (n : Nat) (f : Nat → Option Int) : (gl n f).length + em n f = n := by
  have := fm_len (List.range n) f
  rw [List.length_range] at this; exact this
theorem em_pos {n : Nat} {f : Nat → Option Int} : 0 < em n f ↔ ∃ e, e < n ∧ f e = none := by
  unfold em
  rw [List.countP_pos_iff]
  constructor
  · rintro ⟨a, ha, e⟩; exact ⟨a, List.mem_range.mp ha, by simpa using e⟩
  · rintro ⟨a, ha, e⟩; exact ⟨a, List.mem_range.mpr ha, by simpa using e⟩
theorem fm_nodup (l : List Nat) (hl : l.Nodup) (f : Nat → Option Int) (one : ∀ p q x, p ∈ l → q ∈ l → f p = some x → f q = some x → p = q) : (l.filterMap f).Nodup := by
  induction l with
  | nil => exact List.nodup_nil
  | cons a l ih =>
    obtain ⟨h1, h2⟩ := List.nodup_cons.mp hl
    have ih' := ih h2 fun p q x hp hq => one p q x (List.mem_cons_of_mem _ hp) (List.mem_cons_of_mem _ hq)
    cases e : f a with
    | none => rw [List.filterMap_cons_none e]; exact ih'
    | some y =>
      rw [List.filterMap_cons_some e]
      refine List.nodup_cons.mpr ⟨fun hm => ?_, ih'⟩
      obtain ⟨b, hb, e2⟩ := List.mem_filterMap.mp hm
      have := one a b y List.mem_cons_self (List.mem_cons_of_mem _ hb) e e2
      exact h1 (this ▸ hb)
theorem gl_nodup {n : Nat} {h : Int → Nat} {f : Nat → Option Int} (hh : ∀ g, h g < n) (P : Path n h f) : (gl n f).Nodup :=
  fm_nodup _ List.nodup_range f fun _ _ _ hp hq e1 e2 => path_one hh P (List.mem_range.mp hp) (List.mem_range.mp hq) e1 e2
theorem perm_of {a b : List Int} (ha : a.Nodup) (hb : b.Nodup) (e : ∀ x, x ∈ a ↔ x ∈ b) : a.Perm b := (List.perm_ext_iff_of_nodup ha hb).mpr e
theorem gl_perm {n : Nat} {h : Int → Nat} {f : Nat → Option Int} (hh : ∀ g, h g < n) (P : Path n h f) {gs : List Int} (hn : gs.Nodup) (e : ∀ x, Sits n f x ↔ x ∈ gs) : (gl n f).Perm gs :=
  perm_of (gl_nodup hh P) hn fun x => by rw [mem_gl]; exact e x
theorem em_of {n : Nat} {h : Int → Nat} {f : Nat → Option Int} (hh : ∀ g, h g < n) (P : Path n h f) {gs : List Int} (hn : gs.Nodup) (e : ∀ x, Sits n f x ↔ x ∈ gs) : em n f + gs.length = n := by
  have := gl_em n f
  rw [(gl_perm hh P hn e).length_eq] at this; omega
/-- no seat, no guest -/
theorem path_none {n : Nat} {h : Int → Nat} : Path n h (fun _ => none) := fun _ _ _ e => nomatch e
theorem sits_none {n : Nat} {x : Int} : ¬ Sits n (fun _ => none) x := fun ⟨_, _, e⟩ => nomatch e
/-- a look ends: where a seat is empty -/
theorem loc_or (n : Nat) (h : Int → Nat) (f : Nat → Option Int) (g : Int) (p : Nat) : (f p = none ∨ (∃ y, f p = some y ∧ ¬ Ah n h y g p)) ∨ ∃ y, f p = some y ∧ Ah n h y g p := by
  cases e : f p with
  | none => exact .inl (.inl rfl)
  | some y =>
    by_cases a : Ah n h y g p
    · exact .inr ⟨y, rfl, a⟩
    · exact .inl (.inr ⟨y, rfl, a⟩)
end Ring
namespace Ring
theorem swap_out {n : Nat} {h : Int → Nat} {f : Nat → Option Int} (hh : ∀ g, h g < n) (P : Path n h f) {g y : Int} {p : Nat} (hp : p < n) (e : f p = some y) (ng : ¬ Sits n f g) : ¬ Sits n (fup f p (some g)) y := by
  rintro ⟨q, hq, hx⟩
  by_cases w : q = p
  · subst w; rw [fup_same] at hx; cases hx; exact ng ⟨q, hq, e⟩
  · rw [fup_ne w] at hx; exact w (path_one hh P hq hp hx e)
end Ring
/-! ### the home of a guest, how far it is carried, who goes ahead: as the program reckons, and on the ring -/
namespace RS
def homeI (g n : Int) : Int := (g * 40503 + g / 65536) % 65536 % n
def farI (g p n : Int) : Int := (p - homeI g n) % n
def aheadI (a b p n : Int) : Bool := decide (farI b p n < farI a p n ∨ (farI a p n = farI b p n ∧ a < b))
def hm (n : Nat) (g : Int) : Nat := (homeI g n).toNat
theorem homeI_lo {g n : Int} (hn : 0 < n) : 0 ≤ homeI g n := Int.emod_nonneg _ (by omega)
theorem homeI_hi {g n : Int} (hn : 0 < n) : homeI g n < n := Int.emod_lt_of_pos _ hn
theorem farI_lo {g p n : Int} (hn : 0 < n) : 0 ≤ farI g p n := Int.emod_nonneg _ (by omega)
theorem farI_hi {g p n : Int} (hn : 0 < n) : farI g p n < n := Int.emod_lt_of_pos _ hn
theorem hm_is {n : Nat} (hn : 0 < n) (g : Int) : homeI g n = (hm n g : Int) := by
  have := homeI_lo (g := g) (n := n) (by omega)
  unfold hm; omega
theorem hm_lt {n : Nat} (hn : 0 < n) (g : Int) : hm n g < n := by
  have := homeI_hi (g := g) (n := n) (by omega)
  have := hm_is hn g
  omega
theorem mod_far {n h p : Nat} (hh : h < n) (hp : p < n) : ((p : Int) - (h : Int)) % (n : Int) = (Ring.far n h p : Int) := by
  unfold Ring.far
  split
  · rw [Int.emod_eq_of_lt (by omega) (by omega)]; omega
  · rw [← Int.add_emod_right, Int.emod_eq_of_lt (by omega) (by omega)]; omega
theorem far_is {n p : Nat} (hp : p < n) (g : Int) : farI g p n = (Ring.far n (hm n g) p : Int) := by
  have hn : 0 < n := by omega
  unfold farI
  rw [hm_is hn, mod_far (hm_lt hn g) hp]
theorem nx_is {n p : Nat} (hp : p < n) : ((p : Int) + 1) % (n : Int) = (Ring.nx n p : Int) := by
  unfold Ring.nx
  split
  · rw [Int.emod_eq_of_lt (by omega) (by omega)]; omega
  · have : (p : Int) + 1 = n := by omega
    rw [this, Int.emod_self]; rfl
theorem pv_is {n p : Nat} (hp : p < n) : ((p : Int) - 1) % (n : Int) = (Ring.pv n p : Int) := by
  unfold Ring.pv
  split
  · rename_i e
    rw [← Int.add_emod_right, Int.emod_eq_of_lt (by omega) (by omega)]; omega
  · rw [Int.emod_eq_of_lt (by omega) (by omega)]; omega
theorem ahead_is {n p : Nat} (hp : p < n) (a b : Int) : aheadI a b p n = decide (Ring.Ah n (hm n) a b p) := by
  unfold aheadI Ring.Ah
  rw [far_is hp, far_is hp]
  refine decide_eq_decide.mpr ?_
  constructor
  · rintro (h | ⟨h1, h2⟩)
    · exact .inl (by omega)
    · exact .inr ⟨by omega, h2⟩
  · rintro (h | ⟨h1, h2⟩)
    · exact .inl (by omega)
    · exact .inr ⟨by omega, h2⟩
end RS
/-! ### words of our own: a def that stands behind the top, a def that keeps its promise, the call of one -/
namespace RS
open PySem PySem.Spec PyProof.Rows L2

abbrev rAdd : R2 := rI0 fun i j => .int (i + j)
abbrev rSub : R2 := rI0 fun i j => .int (i - j)
abbrev rMod : R2 := rI (fun _ j => 0 < j) fun i j => .int (i % j)
abbrev rFdv : R2 := rI CDiv fun i j => .int (i / j)
abbrev rLt : R2 := rI0 fun i j => .bl (decide (i < j))
abbrev rLe : R2 := rI0 fun i j => .bl (decide (i ≤ j))
abbrev rGt : R2 := rI0 fun i j => .bl (decide (j < i))
abbrev rGe : R2 := rI0 fun i j => .bl (decide (j ≤ i))
abbrev rNeg : V → Hp → VK → Prop := rU fun i => .int (-i)
/-- one factor within 64 bits -/
def CMl (i j : Int) : Prop := (-18446744073709551616 < i ∧ i < 18446744073709551616) ∨ (-18446744073709551616 < j ∧ j < 18446744073709551616)
theorem CMl.ok {i j : Int} (h : CMl i j) : CMul i j := h
abbrev rMul : R2 := rI CMl fun i j => .int (i * j)
theorem op_mulL {X : Cx} : OpR X (binaryOp .Mult) rMul := by
  intro pins s σ H x y u v Q I rx ry h
  obtain ⟨i, j, hx, hy, hc, q⟩ := h
  exact op_mul pins s σ H x y u v Q I rx ry ⟨i, j, hx, hy, hc.ok, q⟩
/-- a power of two written numbers, by its value -/
theorem pe_pow {X : Cx} {a b : Int} {m n N : Nat} {j1 j2 : Nat} {p1 p2 pos : Pos} (ha : a = (m : Int)) (hb : b = (n : Int)) (hN : m ^ n = N) (hn : (n : Int) ≤ 1000000) (hm : m < 18446744073709551616) :
    PE X (.BinOp (.Constant (.int a) j1 p1) .Pow (.Constant (.int b) j2 p2) pos) (tC (.int (N : Int))) := by
  refine ⟨fun pins s σ H Q I h => ?_⟩
  refine (pe_op op_pow pe_int pe_int).run pins s σ H Q I ⟨a, b, rfl, rfl, ⟨by omega, by omega, by subst ha; rw [Int.natAbs_natCast]; exact hm⟩, ?_⟩
  show Q (.int (a ^ b.toNat)) H
  rw [hb, Int.toNat_natCast, ha, ← Int.natCast_pow, hN]
  exact h
def rLenS (K : PySem.W.Frag) : List V → Hp → VK → Prop := fun xs H Q => ∃ p ys, xs = [.ref p] ∧ (SqL K H p ys ∨ SqT K H p ys) ∧ Q (.int ys.length) H
def rLenD : List V → Hp → VK → Prop := fun xs H Q => ∃ a kvs, xs = [V.ref a] ∧ H a = some (.dK kvs) ∧ Q (.int kvs.length) H
def rListS (K : PySem.W.Frag) : List V → Hp → VK → Prop := fun xs H Q => ∃ p ys, xs = [.ref p] ∧ (SqL K H p ys ∨ SqT K H p ys) ∧ ∀ l, H l = none → Q (.ref l) (upd H l (.lst ys))
def rMax2 : List V → Hp → VK → Prop := fun xs H Q => ∃ i j, xs = [.int i, .int j] ∧ Q (.int (if j > i then j else i)) H
def rMin2 : List V → Hp → VK → Prop := fun xs H Q => ∃ i j, xs = [.int i, .int j] ∧ Q (.int (if j < i then j else i)) H
def rInt1 : List V → Hp → VK → Prop := fun xs H Q => (∃ i, xs = [.int i] ∧ Q (.int i) H) ∨ ∃ k, xs = [.bl k] ∧ Q (.int (if k then 1 else 0)) H
def rStr1 : List V → Hp → VK → Prop := fun xs H Q => ∃ i, xs = [.int i] ∧ i.natAbs.log2 < 1920 ∧ Q (.str (toString i)) H

/-- the program's classes, by where they stand -/
structure Cs where
  cRingError : Addr
  cNoGuest : Addr
  cNoSize : Addr
  cTwice : Addr
  cAway : Addr
  cFull : Addr
  cHouse : Addr

/-- a def of the text, by its name -/
structure Def (K : PySem.W.Frag) (mg : Str → Option Value) (x : Str) (st : Stmt) : Prop where
  ex : ∃ f fd, Fun K x x st f fd ∧ mg x = some (.ref f)
theorem def_mk {K : PySem.W.Frag} {h : Heap} {mg : Str → Option Value} {x : Str} {st : Stmt} {f : Addr} (X : K.In h) (G : h.Ns mainGlobals mg)
    {od an : Option Addr} {sl : Array (Option Value)} {oc kV dc pm cd ct : Value}
    (a : PySem.W.nsIn K mainGlobals x = some (some (.ref f))) (l : K.lookup f = some ⟨oc, od, .func (PySem.W.fnOf x x (defArgs st) (defBody st) (defScope st) .none kV dc pm an cd ct), sl⟩)
    (c : PySem.W.codeIn K cd x = true) (k : PySem.W.keepIn K (.ref f) = true) : Def K mg x st :=
  ⟨f, _, fun_mk l c k, PySem.W.mg_of X G a⟩

/-- a def that keeps its promise, by its name -/
structure Cal (P : Program) (w : World) (K : PySem.W.Frag) (mg : Str → Option Value) (base : Heap) (CX : CXT) (k : Nat) (x : Str) (ps : List Str) (sp : Sp) : Prop where
  ex : ∃ f fd, FnOk P w K mg base CX k f fd ps sp ∧ mg x = some (.ref f) ∧ PySem.W.keepIn K (.ref f) = true ∧ Binds K fd ps []
section
variable {X : Cx} {CX : CXT} {k : Nat} {ps : List Str} {sp : Sp} {E : XK} {x : Str} {p pos : Pos} {e : Expr} {es : List Expr} {t : TA}
theorem pe_fn (c : Cal X.prog X.w X.K X.mg X.base CX k x ps sp) (hr : Room k X.A) (hx : Passes CX X E) (ha : PA X (e :: es) t) (hg : Gl X x := by rfl) (hdb : (x == ("__debug__" : Str)) = false := by decide)
    (he : starEach (e :: es) X.env = (false, eval e X.env) :: starEach es X.env := by rfl) (hpl : (backTo pos (starEach es X.env)).any (·.1) = false := by rfl) :
    PE X (.Call (.Name x p) (e :: es) [] pos) (tCall sp [] E t) := by
  obtain ⟨f, fd, G, hm, hk, hb⟩ := c.ex
  exact pe_call G hr hg hm hk hb .nil hx ha hdb he hpl
end
theorem iteB {c : Bool} {A B : Prop} (h1 : c = true → A) (h2 : c = false → B) : if c = true then A else B := by
  cases c with
  | true => rw [if_pos rfl]; exact h1 rfl
  | false => rw [if_neg Bool.false_ne_true]; exact h2 rfl
end RS
/-! ### isinstance of the built-in kinds, by what a value is -/
namespace RS
open PySem PySem.Spec PyProof.Rows L2
inductive Ty where
  | int | bool | none | str | list | tuple | dict
  deriving DecidableEq
def Ty.nm : Ty → String
  | .int => "int" | .bool => "bool" | .none => "NoneType" | .str => "str" | .list => "list" | .tuple => "tuple" | .dict => "dict"
def Ty.isA : Ty → Ty → Bool
  | .int, .int => true | .bool, .bool => true | .bool, .int => true | .none, .none => true | .str, .str => true | .list, .list => true | .tuple, .tuple => true | .dict, .dict => true | _, _ => false
def hoTy : HO → Option Ty
  | .lst _ => some .list | .tup _ => some .tuple | .dK _ => some .dict | .frz _ (.lst _) => some .list | _ => Option.none
def tyOf (H : Hp) : V → Option Ty
  | .int _ => some .int | .bl _ => some .bool | .non => some .none | .str _ => some .str
  | .ref a => (H a).bind hoTy
  | _ => Option.none
theorem tyOf_int {H : Hp} {i : Int} : tyOf H (.int i) = some .int := rfl
theorem tyOf_bl {H : Hp} {i : Bool} : tyOf H (.bl i) = some .bool := rfl
theorem tyOf_non {H : Hp} : tyOf H .non = some .none := rfl
theorem tyOf_str {H : Hp} {i : Str} : tyOf H (.str i) = some .str := rfl
theorem tyX_of {K : PySem.W.Frag} {H : Hp} {x : V} {s : Ty} (h : tyOf H x = some s) : TyX K H x (.type s.nm) := by
  cases x with
  | int i => cases h; exact .base (.int i)
  | bl b => cases h; exact .base (.bl b)
  | non => cases h; exact .base .non
  | str z => cases h; exact .base (.str z)
  | byt b => cases h
  | flt b => cases h
  | ty n => cases h
  | ref a =>
    have h' : (H a).bind hoTy = some s := h
    cases e : H a with
    | none => rw [e] at h'; cases h'
    | some o =>
      rw [e] at h'
      have h2 : hoTy o = some s := h'
      cases o with
      | lst xs => cases h2; exact .base (.lst e)
      | tup xs => cases h2; exact .base (.tup e)
      | dK kvs => cases h2; exact .base (.dK e)
      | frz ob u =>
        cases u with
        | lst xs => cases h2; exact .base (.frz e)
        | _ => cases h2
      | _ => cases h2
theorem kit_is : ∀ s c : Ty, (c = .int ∨ c = .bool ∨ c = .list ∨ c = .tuple) → kitB s.nm c.nm = some (s.isA c) := by
  intro s c hc
  rcases hc with rfl | rfl | rfl | rfl <;> cases s <;> decide +kernel
def isWh : V → Bool
  | .int _ => true
  | _ => false
theorem isWh_int {i : Int} : isWh (.int i) = true := rfl
theorem isWh_bl {i : Bool} : isWh (.bl i) = false := rfl
theorem isWh_non : isWh .non = false := rfl
theorem isWh_ref {i : Addr} : isWh (.ref i) = false := rfl
def rIsA (c : Ty) : List V → Hp → VK → Prop := fun xs H Q => ∃ x s, xs = [x, .ty c.nm] ∧ tyOf H x = some s ∧ Q (.bl (s.isA c)) H
theorem call_isA {X : Cx} {c : Ty} (hc : c = .int ∨ c = .bool ∨ c = .list ∨ c = .tuple := by first | exact .inl rfl | exact .inr (.inl rfl) | exact .inr (.inr (.inl rfl)) | exact .inr (.inr (.inr rfl))) : CallR X (.builtin "isinstance") (rIsA c) := by
  intro pins s σ H xs us Q I r h
  obtain ⟨x, t, rfl, ht, q⟩ := h
  exact call_isi pins s σ H _ us Q I r ⟨x, .ty c.nm, _, _, _, rfl, .ty _, tyX_of ht, kit_ty (kit_is t c hc), q⟩

/-! ### steps -/
section
variable {K : PySem.W.Frag} {ta : TA} {te tl : TE} {g : TG} {tb t u : TS} {c : TT} {D : Ends} {σ : L2.St} {H H' : Hp}
theorem for_rng1 {j : Int} {n : Nat} (hta : ∀ R : List V → Hp → Prop, R [.int j] H' → ta σ H R) (hj : j = (n : Int)) (hn : n < 2 ^ 62) (Pv : Nat → L2.St → Hp → Prop) (h0 : Pv 0 σ H')
    (hs : ∀ (i : Nat) σ H, i < n → Pv i σ H → g (.int (i : Int)) σ H fun σ2 H2 => tb { D with nx := Pv (i + 1), ct := Pv (i + 1), bk := D.nx } σ2 H2) (hd : ∀ σ H, Pv n σ H → D.nx σ H) : tFor (iRng1 ta) g tb D σ H := by
  subst hj
  refine hta _ ⟨(n : Int), rfl, ?_, ?_, ?_⟩
  · have : (0 : Int) ≤ n := Int.natCast_nonneg n
    omega
  · omega
  · rw [Int.toNat_natCast]
    exact for_range (lo := 0) Pv h0 (fun i σ H hi p => by rw [Int.zero_add]; exact hs i σ H hi p) hd
theorem for_lst {a : Addr} {xs : List V} (htl : ∀ R : VK, R (.ref a) H' → tl σ H R) (hx : SqL K H' a xs) (Pv : Nat → L2.St → Hp → Prop) (h0 : Pv 0 σ H') (hl : ∀ i σ H, i ≤ xs.length → Pv i σ H → SqL K H a xs)
    (hs : ∀ i x σ H, xs[i]? = some x → Pv i σ H → g x σ H fun σ2 H2 => tb { D with nx := Pv (i + 1), ct := Pv (i + 1), bk := D.nx } σ2 H2) (hd : ∀ σ H, Pv xs.length σ H → D.nx σ H) : tFor (iList K tl) g tb D σ H :=
  htl _ ⟨a, rfl, ⟨xs, hx⟩, for_list Pv h0 hl hs hd⟩
theorem if_step {b : Bool} (hc : ∀ R : Bool → Hp → Prop, R b H' → c σ H R) (h1 : b = true → t D σ H') (h2 : b = false → u D σ H') : tIfS c t u D σ H := hc _ (iteB h1 h2)
theorem asg_step {v : V} {i : Nat} (he : ∀ R : VK, R v H' → te σ H R) (h : D.nx (σ.set i (some v)) H') : tAsg te (gName i) D σ H := he _ h
end
end RS
namespace RS
open PySem PySem.Spec PyProof.Rows L2
section
variable {K : PySem.W.Frag} {ta : TA} {te tl : TE} {g : TG} {tb t u : TS} {c : TT} {D : Ends} {σ : L2.St} {H H' : Hp}
theorem asg_ext {v : V} {i : Nat} (he : ∀ R : VK, (∀ H', Same H H' → R v H') → te σ H R) (h : ∀ H', Same H H' → D.nx (σ.set i (some v)) H') : tAsg te (gName i) D σ H := he _ h
theorem if_ext {b : Bool} (hc : ∀ R : Bool → Hp → Prop, (∀ H', Same H H' → R b H') → c σ H R) (h1 : b = true → ∀ H', Same H H' → t D σ H') (h2 : b = false → ∀ H', Same H H' → u D σ H') : tIfS c t u D σ H :=
  hc _ fun H' s => iteB (fun e => h1 e H' s) (fun e => h2 e H' s)
theorem same_new {p : Addr} {o : HO} (h : H p = none) : Same H (upd H p o) := fun b x e => by
  rw [upd_ne (ne_of_none e h)]
  exact e
theorem sizes {n : Nat} (h : n ≤ 100000) : n ≤ sizeLine := Nat.le_trans h (by decide)
theorem sizel {n : Nat} (h : n < 100000) : n < sizeLine := Nat.lt_of_lt_of_le h (by decide)
end
end RS
namespace RS
open PySem PySem.Spec PyProof.Rows L2
/-- an if behind which the ways meet: D is a letter in both -/
theorem if_join {c : TT} {t u : TS} {D : Ends} {σ : L2.St} {H : Hp} {b : Bool} (P : L2.St → Hp → Prop) (hc : ∀ R : Bool → Hp → Prop, (∀ H', Same H H' → R b H') → c σ H R)
    (h1 : b = true → ∀ H', Same H H' → ∀ D' : Ends, D'.rt = D.rt → D'.bk = D.bk → D'.ct = D.ct → (∀ σ' H', P σ' H' → D'.nx σ' H') → t D' σ H')
    (h2 : b = false → ∀ H', Same H H' → ∀ D' : Ends, D'.rt = D.rt → D'.bk = D.bk → D'.ct = D.ct → (∀ σ' H', P σ' H' → D'.nx σ' H') → u D' σ H')
    (rest : ∀ σ' H', P σ' H' → D.nx σ' H') : tIfS c t u D σ H :=
  hc _ fun H' s => iteB (fun e => h1 e H' s D rfl rfl rfl rest) (fun e => h2 e H' s D rfl rfl rfl rest)
end RS
namespace RS
open PySem PySem.Spec PyProof.Rows L2
section
variable {K : PySem.W.Frag} {ta : TA} {te tl : TE} {g : TG} {tb t u : TS} {c : TT} {D : Ends} {σ : L2.St} {H H' : Hp}
/-- what is known of the value and the heap behind it: P -/
theorem asg_any {i : Nat} (P : V → Hp → Prop) (he : ∀ R : VK, (∀ v H', P v H' → R v H') → te σ H R) (h : ∀ v H', P v H' → D.nx (σ.set i (some v)) H') : tAsg te (gName i) D σ H := he _ h
theorem ret_any (P : V → Hp → Prop) (he : ∀ R : VK, (∀ v H', P v H' → R v H') → te σ H R) (h : ∀ v H', P v H' → D.rt v H') : tRet te D σ H := he _ h
theorem drop_any (P : V → Hp → Prop) (he : ∀ R : VK, (∀ v H', P v H' → R v H') → te σ H R) (h : ∀ v H', P v H' → D.nx σ H') : tDrop te D σ H := he _ h
theorem if_any {b : Bool} (P : Hp → Prop) (hc : ∀ R : Bool → Hp → Prop, (∀ H', P H' → R b H') → c σ H R) (h1 : b = true → ∀ H', P H' → t D σ H') (h2 : b = false → ∀ H', P H' → u D σ H') : tIfS c t u D σ H :=
  hc _ fun H' s => iteB (fun e => h1 e H' s) (fun e => h2 e H' s)
theorem for_rng3 {a b c : Int} {n : Nat} (hta : ∀ R : List V → Hp → Prop, R [.int a, .int b, .int c] H' → ta σ H R) (hn : RgC a b c n) (Pv : Nat → L2.St → Hp → Prop) (h0 : Pv 0 σ H')
    (hs : ∀ (i : Nat) σ H, i < n → Pv i σ H → g (.int (a + (i : Int) * c)) σ H fun σ2 H2 => tb { D with nx := Pv (i + 1), ct := Pv (i + 1), bk := D.nx } σ2 H2) (hd : ∀ σ H, Pv n σ H → D.nx σ H) : tFor (iRng3 ta) g tb D σ H :=
  hta _ ⟨a, b, c, n, rfl, hn, for_rangeC Pv h0 hs hd⟩
end
theorem rgc_2 {N : Int} (h1 : 0 < N) (h2 : N ≤ 100000) : RgC 0 N 2 ((N - 1) / 2 + 1).toNat := by
  have e : Builtin.Range.rangeSize 0 N 2 = (N - 1) / 2 + 1 := by
    unfold Builtin.Range.rangeSize
    rw [if_pos (by decide), if_pos h1, Int.sub_zero]
  refine ⟨by decide, by decide, ?_, by rw [e]; omega⟩
  unfold Builtin.Range.small
  rw [e]
  simp only [Builtin.Range.rangeFitsLong, Bool.and_eq_true, Bool.or_eq_true, decide_eq_true_eq, beq_iff_eq, show ((2 : Int) > 0) by decide, if_true]
  omega
theorem rgc_4 {N : Int} (h1 : 0 < N) (h2 : N ≤ 100000) : RgC 0 N 4 ((N - 1) / 4 + 1).toNat := by
  have e : Builtin.Range.rangeSize 0 N 4 = (N - 1) / 4 + 1 := by
    unfold Builtin.Range.rangeSize
    rw [if_pos (by decide), if_pos h1, Int.sub_zero]
  refine ⟨by decide, by decide, ?_, by rw [e]; omega⟩
  unfold Builtin.Range.small
  rw [e]
  simp only [Builtin.Range.rangeFitsLong, Bool.and_eq_true, Bool.or_eq_true, decide_eq_true_eq, beq_iff_eq, show ((4 : Int) > 0) by decide, if_true]
  omega
theorem tyOf_same {H H' : Hp} {x : V} {s : Ty} (h : tyOf H x = some s) (e : Same H H') : tyOf H' x = some s := by
  cases x with
  | ref a =>
    have h' : (H a).bind hoTy = some s := h
    show (H' a).bind hoTy = some s
    cases q : H a with
    | none => rw [q] at h'; cases h'
    | some o => rw [e a o q]; rw [q] at h'; exact h'
  | _ => exact h
theorem tyOf_at {H : Hp} {a : Addr} {o : HO} {s : Ty} (h : H a = some o) (e : hoTy o = some s) : tyOf H (.ref a) = some s := by
  show (H a).bind hoTy = some s
  rw [h]; exact e
end RS
namespace RS
open PySem PySem.Spec PyProof.Rows L2
section
variable {K : PySem.W.Frag} {tl : TE} {g : TG} {tb : TS} {D : Ends} {σ : L2.St} {H H' : Hp}
/-- a for over a list that is made there: what is known of it and the heap is P -/
theorem for_any (P : Addr → List V → Hp → Prop) (htl : ∀ R : VK, (∀ a xs H', P a xs H' → R (.ref a) H') → tl σ H R)
    (hb : ∀ a xs H', P a xs H' → SqL K H' a xs ∧ ∃ Pv : Nat → L2.St → Hp → Prop, Pv 0 σ H' ∧ (∀ i σ H, i ≤ xs.length → Pv i σ H → SqL K H a xs) ∧
      (∀ i x σ H, xs[i]? = some x → Pv i σ H → g x σ H fun σ2 H2 => tb { D with nx := Pv (i + 1), ct := Pv (i + 1), bk := D.nx } σ2 H2) ∧ ∀ σ H, Pv xs.length σ H → D.nx σ H) : tFor (iList K tl) g tb D σ H :=
  htl _ fun a xs H' p => by
    obtain ⟨hx, Pv, h0, hl, hs, hd⟩ := hb a xs H' p
    exact ⟨a, rfl, ⟨xs, hx⟩, for_list Pv h0 hl hs hd⟩
end
end RS
namespace RS
open PySem PySem.Spec PyProof.Rows L2
/-- a while whose test leaves the heap -/
theorem while_step {c : TT} {tb : TS} {D : Ends} {σ : L2.St} {H : Hp} (W : Nat → L2.St → Hp → Prop) (h0 : ∃ m, W m σ H)
    (hs : ∀ m σ H, W m σ H → ∃ b : Bool, (∀ R : Bool → Hp → Prop, R b H → c σ H R) ∧
      (b = true → tb { D with nx := fun σ' H' => ∃ m', m' < m ∧ W m' σ' H', ct := fun σ' H' => ∃ m', m' < m ∧ W m' σ' H', bk := D.nx } σ H) ∧ (b = false → D.nx σ H)) : tWhile c tb D σ H := by
  refine ⟨W, h0, fun m σ H w => ?_⟩
  obtain ⟨b, hc, h1, h2⟩ := hs m σ H w
  exact hc _ (iteB (fun e => ⟨_, fun _ _ z => z, h1 e⟩) h2)
end RS
namespace RS
open PySem PySem.Spec PyProof.Rows L2
/-- for i, x in enumerate(xs): the pair is laid anew -/
theorem for_enum {K : PySem.W.Frag} {ta : TA} {g : TG} {tb : TS} {D : Ends} {σ : L2.St} {H H' : Hp} {a : Addr} {xs : List V} (hta : ∀ R : List V → Hp → Prop, R [.ref a] H' → ta σ H R) (hx : SqL K H' a xs) (Pv : Nat → L2.St → Hp → Prop) (h0 : Pv 0 σ H')
    (hl : ∀ i σ H, Pv i σ H → SqL K H a xs)
    (hs : ∀ i x σ H, xs[i]? = some x → Pv i σ H → ∀ T, H T = none → g (.ref T) σ (upd H T (.tup [.int (i : Nat), x])) fun σ2 H2 => tb { D with nx := Pv (i + 1), ct := Pv (i + 1), bk := D.nx } σ2 H2) (hd : ∀ σ H, Pv xs.length σ H → D.nx σ H) : tFor (iEnum K ta) g tb D σ H := by
  refine hta _ ⟨a, xs, rfl, hx, fun i m σ H => m = xs.length - i ∧ i ≤ xs.length ∧ Pv i σ H, ⟨xs.length, by simp, Nat.zero_le _, h0⟩, ?_⟩
  rintro i m σ H ⟨rfl, hi, p⟩
  have q := hl i σ H p
  by_cases hlt : i < xs.length
  · refine .inr ⟨⟨xs, xs[i], q, by simp [hlt]⟩, Pv (i + 1), fun σ' H' p' => ⟨xs.length - (i + 1), by omega, rfl, hlt, p'⟩, fun v H1 y => ?_⟩
    obtain ⟨T, x, rfl, hT, rfl, hx⟩ := y
    exact hs i x σ H (hx xs q) p T hT
  · have e : i = xs.length := by omega
    subst e
    exact .inl ⟨⟨xs, q, Nat.le_refl _⟩, hd σ H p⟩
end RS
namespace RS
open PySem PySem.Spec PyProof.Rows L2
/-- xs[i] = v -/
theorem set_step {te to ti : TE} {D : Ends} {σ : L2.St} {H H' : Hp} {v : V} {a : Addr} {xs : List V} {z : Int} {j : Nat} (he : ∀ R : VK, R v H' → te σ H R) (ho : ∀ R : VK, R (.ref a) H' → to σ H' R) (hi : ∀ R : VK, R (.int z) H' → ti σ H' R)
    (hx : H' a = some (.lst xs)) (hj : ixN xs.length z = some j) (h : D.nx σ (upd H' a (.lst (xs.set j v)))) : tAsg te (gSub to ti rSetL) D σ H :=
  he _ (ho _ (hi _ ⟨a, xs, z, j, rfl, rfl, hx, hj, h⟩))
theorem var_is {σ : L2.St} {i : Nat} {v : V} (h : σ[i]? = some (some v)) {R : VK} {H : Hp} (r : R v H) : tVar i σ H R := ⟨v, h, r⟩
end RS
namespace RS
open PySem PySem.Spec PyProof.Rows L2
/-- d[k] = v -/
theorem dput_step {td ty tv : TE} {D : Ends} {σ : L2.St} {H H' : Hp} {v : V} {d : Addr} {kvs : List (Key × V)} {k : Key} (hv : ∀ R : VK, R v H' → tv σ H R) (hd : ∀ R : VK, R (.ref d) H' → td σ H' R) (hk : ∀ R : VK, R (kV k) H' → ty σ H' R)
    (hx : H' d = some (.dK kvs)) (hl : kvs.length < sizeLine) (h : D.nx σ (upd H' d (.dK (putK kvs k v)))) : sDPut td ty tv D σ H :=
  hv _ (hd _ (hk _ ⟨d, _, rfl, DPut.k hx hl, h⟩))
end RS
namespace RS
open PySem PySem.Spec PyProof.Rows L2
section
variable {K : PySem.W.Frag} {ta : TA} {te tl : TE} {tt : TT} {vs : List Nat} {σ : L2.St} {H H' : Hp} {Q : VK} {k : Nat}
/-- a comprehension over range(n) that leaves the heap: P by the turn and what is made so far -/
theorem lc_rng1 {j : Int} {n : Nat} (hta : ∀ R : List V → Hp → Prop, R [.int j] H' → ta σ H R) (hj : j = (n : Int)) (hn : n ≤ 100000) (hw : ∀ x, wipe ((wipe σ vs).set k (some x)) vs = wipe σ vs) (P : Nat → List V → Prop) (h0 : P 0 [])
    (hs : ∀ (i : Nat) acc H2, i < n → Same H' H2 → P i acc → ∃ b : Bool, (∀ R : Bool → Hp → Prop, R b H2 → tt ((wipe σ vs).set k (some (.int (i : Int)))) H2 R) ∧
      (b = true → ∃ v, (∀ R : VK, R v H2 → te ((wipe σ vs).set k (some (.int (i : Int)))) H2 R) ∧ P (i + 1) (acc ++ [v])) ∧ (b = false → P (i + 1) acc))
    (hd : ∀ D H3 acc, H' D = none → Same H' H3 → H3 D = some (.lst acc) → P n acc → acc.length ≤ n → Q (.ref D) H3) : tLc (iRng1 ta) (gName k) tt te vs σ H Q := by
  subst hj
  refine hta _ ⟨(n : Int), rfl, ?_, ?_, ?_⟩
  · have : (0 : Int) ≤ n := Int.natCast_nonneg n
    omega
  · omega
  rw [Int.toNat_natCast]
  intro D hD
  refine lc_range (lo := 0) (fun i H2 => Same H' H2 ∧ ∃ acc, H2 D = some (.lst acc) ∧ P i acc ∧ acc.length ≤ i) ⟨same_new hD, [], upd_same, h0, Nat.le_refl _⟩ ?_ ?_
  · rintro i H2 hi ⟨sm, acc, ha, p, hl⟩
    rw [Int.zero_add]
    obtain ⟨b, h1, h2, h3⟩ := hs i acc H2 hi sm p
    refine ⟨hw _, h1 _ ?_⟩
    cases b with
    | true =>
      obtain ⟨v, h4, h5⟩ := h2 rfl
      rw [if_pos rfl]
      refine h4 _ ⟨acc, ha, sizel (by omega), fun b o hb => ?_, _, upd_same, h5, by rw [List.length_append]; simp; omega⟩
      rw [upd_ne (fun z => by rw [z, hD] at hb; cases hb)]; exact sm _ _ hb
    | false =>
      rw [if_neg (by decide)]
      exact ⟨sm, acc, ha, h3 rfl, by omega⟩
  · rintro H2 ⟨sm, acc, ha, p, hl⟩
    exact hd D H2 acc hD sm ha p hl
theorem lc_lst {a : Addr} {xs : List V} (htl : ∀ R : VK, R (.ref a) H' → tl σ H R) (hx : SqL K H' a xs) (hn : xs.length ≤ 90000) (hw : ∀ x, wipe ((wipe σ vs).set k (some x)) vs = wipe σ vs) (P : Nat → List V → Prop) (h0 : P 0 [])
    (hs : ∀ (i : Nat) x acc H2, xs[i]? = some x → Same H' H2 → P i acc → ∃ b : Bool, (∀ R : Bool → Hp → Prop, R b H2 → tt ((wipe σ vs).set k (some x)) H2 R) ∧
      (b = true → ∃ v, (∀ R : VK, R v H2 → te ((wipe σ vs).set k (some x)) H2 R) ∧ P (i + 1) (acc ++ [v])) ∧ (b = false → P (i + 1) acc))
    (hd : ∀ D H3 acc, H' D = none → Same H' H3 → H3 D = some (.lst acc) → P xs.length acc → acc.length ≤ xs.length → Q (.ref D) H3) : tLc (iList K tl) (gName k) tt te vs σ H Q := by
  refine htl _ ⟨a, rfl, ⟨xs, hx⟩, ?_⟩
  intro D hD
  refine lc_list (xs := xs) (fun i H2 => Same H' H2 ∧ ∃ acc, H2 D = some (.lst acc) ∧ P i acc ∧ acc.length ≤ i) ⟨same_new hD, [], upd_same, h0, Nat.le_refl _⟩ (fun i H2 _ p => p.1.seq hx) ?_ ?_
  · rintro i x H2 hi ⟨sm, acc, ha, p, hl⟩
    have hlt := (List.getElem?_eq_some_iff.mp hi).1
    obtain ⟨b, h1, h2, h3⟩ := hs i x acc H2 hi sm p
    refine ⟨hw _, h1 _ ?_⟩
    cases b with
    | true =>
      obtain ⟨v, h4, h5⟩ := h2 rfl
      rw [if_pos rfl]
      refine h4 _ ⟨acc, ha, sizel (by omega), fun b o hb => ?_, _, upd_same, h5, by rw [List.length_append]; simp; omega⟩
      rw [upd_ne (fun z => by rw [z, hD] at hb; cases hb)]; exact sm _ _ hb
    | false =>
      rw [if_neg (by decide)]
      exact ⟨sm, acc, ha, h3 rfl, by omega⟩
  · rintro H2 ⟨sm, acc, ha, p, hl⟩
    exact hd D H2 acc hD sm ha p hl
end
end RS
namespace RS
open PySem PySem.Spec PyProof.Rows L2
theorem for_tp {K : PySem.W.Frag} {tl : TE} {g : TG} {tb : TS} {D : Ends} {σ : L2.St} {H H' : Hp} {a : Addr} {xs : List V} (htl : ∀ R : VK, R (.ref a) H' → tl σ H R) (hx : SqT K H' a xs) (Pv : Nat → L2.St → Hp → Prop) (h0 : Pv 0 σ H') (hl : ∀ i σ H, i ≤ xs.length → Pv i σ H → SqT K H a xs)
    (hs : ∀ i x σ H, xs[i]? = some x → Pv i σ H → g x σ H fun σ2 H2 => tb { D with nx := Pv (i + 1), ct := Pv (i + 1), bk := D.nx } σ2 H2) (hd : ∀ σ H, Pv xs.length σ H → D.nx σ H) : tFor (iTup K tl) g tb D σ H :=
  htl _ ⟨a, rfl, ⟨xs, hx⟩, for_tup Pv h0 hl hs hd⟩
end RS
namespace RS
open PySem PySem.Spec PyProof.Rows L2
theorem seqT_of {K : PySem.W.Frag} {H H' : Hp} {a : Addr} {xs : List V} (e : Same H H') (h : SqT K H a xs) : SqT K H' a xs := by
  rcases h with (h | ⟨o, h⟩) | h
  · exact .inl (.inl (e _ _ h))
  · exact .inl (.inr ⟨o, e _ _ h⟩)
  · exact .inr h
end RS
namespace RS
open PySem PySem.Spec PyProof.Rows L2
theorem gtup2 {K : PySem.W.Frag} {i j : Nat} {p : Addr} {x y : V} {σ : L2.St} {H : Hp} {Q : L2.St → Hp → Prop} (h : H p = some (.tup [x, y])) (q : Q ((σ.set i (some x)).set j (some y)) H) : gTup K 2 (gCons (gName i) (gCons (gName j) gNil)) (.ref p) σ H Q :=
  ⟨p, _, rfl, .inl (.inl h), rfl, ⟨_, _, rfl, ⟨_, _, rfl, rfl, q⟩⟩⟩
end RS
/-! ### a ring of seats as a list -/
namespace RS
open PySem PySem.Spec PyProof.Rows L2
def ov : Option Int → V
  | .none => .non
  | .some g => .int g
theorem ov_non : ov none = .non := rfl
theorem ov_some {g : Int} : ov (some g) = .int g := rfl
theorem ov_inj {a b : Option Int} (h : ov a = ov b) : a = b := by
  cases a <;> cases b <;> simp [ov] at h ⊢
  exact h
def row (n : Nat) (f : Nat → Option Int) : List V := (List.range n).map fun p => ov (f p)
theorem row_len {n : Nat} {f : Nat → Option Int} : (row n f).length = n := by unfold row; rw [List.length_map, List.length_range]
theorem row_get {n : Nat} {f : Nat → Option Int} {p : Nat} (hp : p < n) : (row n f)[p]? = some (ov (f p)) := by
  unfold row; rw [List.getElem?_map, List.getElem?_range hp]; rfl
theorem row_some {n : Nat} {f : Nat → Option Int} {p : Nat} {v : V} (h : (row n f)[p]? = some v) : p < n ∧ v = ov (f p) := by
  have hp : p < n := by
    have := (List.getElem?_eq_some_iff.mp h).1
    rw [row_len] at this; exact this
  rw [row_get hp] at h
  exact ⟨hp, (Option.some.inj h).symm⟩
theorem row_ext {n : Nat} {f f' : Nat → Option Int} (h : ∀ p, p < n → f p = f' p) : row n f = row n f' := by
  unfold row
  exact List.map_congr_left fun p hp => by rw [h p (List.mem_range.mp hp)]
theorem row_inj {n : Nat} {f f' : Nat → Option Int} (h : row n f = row n f') (p : Nat) (hp : p < n) : f p = f' p := by
  have := row_get (f := f) hp
  rw [h, row_get hp] at this
  exact (ov_inj (Option.some.inj this)).symm
theorem row_set {n : Nat} {f : Nat → Option Int} {p : Nat} {v : Option Int} : (row n f).set p (ov v) = row n (Ring.fup f p v) := by
  refine List.ext_getElem? fun q => ?_
  by_cases hq : q < n
  · rw [row_get hq, List.getElem?_set]
    by_cases w : p = q
    · subst w; rw [if_pos rfl, if_pos (by rw [row_len]; exact hq), Ring.fup_same]
    · rw [if_neg w, row_get hq, Ring.fup_ne (fun e => w e.symm)]
  · rw [List.getElem?_eq_none (by rw [List.length_set, row_len]; omega), List.getElem?_eq_none (by rw [row_len]; omega)]
theorem row_none {n : Nat} : (List.replicate n [V.non]).flatten = row n fun _ => none := by
  refine List.ext_getElem? fun q => ?_
  have e : (List.replicate n [V.non]).flatten = List.replicate n V.non := by
    induction n with
    | zero => rfl
    | succ n ih => rw [List.replicate_succ, List.flatten_cons, ih]; rfl
  rw [e]
  by_cases hq : q < n
  · rw [row_get hq, List.getElem?_replicate, if_pos hq]; rfl
  · rw [List.getElem?_eq_none (by rw [List.length_replicate]; omega), List.getElem?_eq_none (by rw [row_len]; omega)]
theorem row_at {n : Nat} {f : Nat → Option Int} {p : Nat} (hp : p < n) : atI (row n f) (p : Int) = some (ov (f p)) := at_of (j := p) rfl (row_get hp)
theorem row_ix {n : Nat} {f : Nat → Option Int} {p : Nat} (hp : p < n) : ixN (row n f).length (p : Int) = some p := by
  rw [row_len]; unfold ixN; rw [if_pos (by omega), if_pos (by omega), Int.toNat_natCast]
/-- a heap but for one list -/
def Off (a : Addr) (H H' : Hp) : Prop := ∀ b o, b ≠ a → H b = some o → H' b = some o
theorem Off.refl {a : Addr} {H : Hp} : Off a H H := fun _ _ _ h => h
theorem Off.trans {a : Addr} {H H1 H2 : Hp} (x : Off a H H1) (y : Off a H1 H2) : Off a H H2 := fun b o hb h => y b o hb (x b o hb h)
theorem Off.same {a : Addr} {H H' : Hp} (x : Same H H') : Off a H H' := fun b o _ h => x b o h
theorem Off.upd {a : Addr} {H : Hp} {o : HO} : Off a H (upd H a o) := fun b o hb h => by rw [upd_ne hb]; exact h
end RS
namespace RS
open PySem PySem.Spec PyProof.Rows L2
theorem upd_id {H : Hp} {a : Addr} {o : HO} (h : H a = some o) : upd H a o = H := by
  funext b
  by_cases e : b = a
  · subst e; rw [upd_same, h]
  · rw [upd_ne e]
theorem row_put {n : Nat} {f : Nat → Option Int} {p : Nat} {g : Int} : (row n f).set p (.int g) = row n (Ring.fup f p (some g)) := row_set (v := some g)
theorem row_open {n : Nat} {f : Nat → Option Int} {p : Nat} : (row n f).set p .non = row n (Ring.fup f p none) := row_set (v := none)
end RS
/-! ### == of lists and tuples of flat things -/
namespace RS
open PySem PySem.Spec PyProof.Rows L2
def datV : V → PyData
  | .bl b => .bool b | .int i => .int i | _ => .none
/-- none, truths, whole numbers -/
def flD : V → Bool
  | .non => true | .bl _ => true | .int _ => true | _ => false
theorem dp_flat {K : PySem.W.Frag} {H : Hp} : ∀ v : V, flD v = true → Dp K H v (datV v) := by
  intro v h
  cases v with
  | non => exact .non
  | bl b => exact .bl b
  | int i => exact .int i
  | _ => cases h
theorem dp_all {K : PySem.W.Frag} {H : Hp} : ∀ xs : List V, xs.all flD = true → DpAll K H xs (xs.map datV)
  | [], _ => .nil
  | x :: xs, h => by
    rw [List.all_cons, Bool.and_eq_true] at h
    exact .cons (dp_flat x h.1) (dp_all xs h.2)
theorem row_flD {n : Nat} {f : Nat → Option Int} : (row n f).all flD = true := by
  unfold row
  rw [List.all_eq_true]
  intro x hx
  obtain ⟨p, hp, rfl⟩ := List.mem_map.mp hx
  cases f p <;> rfl
theorem lay_all : ∀ xs : List V, PyData.canLayAll0 (xs.map datV) = true ∧ PyData.depthAll (xs.map datV) = 0
  | [] => ⟨rfl, rfl⟩
  | x :: xs => by
    obtain ⟨h1, h2⟩ := lay_all xs
    rw [List.map_cons, PyData.canLayAll0, PyData.depthAll, h1, h2]
    cases x <;> exact ⟨by simp [datV, PyData.canLay0], by simp [datV, PyData.depth]⟩
theorem shp_lst (xs : List V) : SeqAt.shaped (.list (xs.map datV)) = true := by
  obtain ⟨h1, h2⟩ := lay_all xs
  unfold SeqAt.shaped
  rw [PyData.canLay0, PyData.depth, h1, h2]; rfl
theorem shp_tup (xs : List V) : SeqAt.shaped (.tuple (xs.map datV)) = true := by
  obtain ⟨h1, h2⟩ := lay_all xs
  unfold SeqAt.shaped
  rw [PyData.canLay0, PyData.depth, h1, h2]; rfl
section
variable {K : PySem.W.Frag} {H : Hp} {a b : Addr} {xs : List V} {R : VK}
theorem eqD_lst (hx : SqL K H a xs) (hy : SqL K H b xs) (hf : xs.all flD = true) (r : R (.bl true) H) : rEqD K (.ref a) (.ref b) H R := by
  refine ⟨_, _, .lst hx (dp_all xs hf), .lst hy (dp_all xs hf), shp_lst xs, shp_lst xs, ?_⟩
  rw [SeqAt.eqv_refl _ (SeqAt.canLay_of_shaped (shp_lst xs))]; exact r
theorem neD_lst (hx : SqL K H a xs) (hy : SqL K H b xs) (hf : xs.all flD = true) (r : R (.bl false) H) : rNeD K (.ref a) (.ref b) H R := by
  refine ⟨_, _, .lst hx (dp_all xs hf), .lst hy (dp_all xs hf), shp_lst xs, shp_lst xs, ?_⟩
  rw [SeqAt.eqv_refl _ (SeqAt.canLay_of_shaped (shp_lst xs))]; exact r
theorem eqD_tup (hx : SqT K H a xs) (hy : SqT K H b xs) (hf : xs.all flD = true) (r : R (.bl true) H) : rEqD K (.ref a) (.ref b) H R := by
  refine ⟨_, _, .tup hx (dp_all xs hf), .tup hy (dp_all xs hf), shp_tup xs, shp_tup xs, ?_⟩
  rw [SeqAt.eqv_refl _ (SeqAt.canLay_of_shaped (shp_tup xs))]; exact r
theorem neD_tup (hx : SqT K H a xs) (hy : SqT K H b xs) (hf : xs.all flD = true) (r : R (.bl false) H) : rNeD K (.ref a) (.ref b) H R := by
  refine ⟨_, _, .tup hx (dp_all xs hf), .tup hy (dp_all xs hf), shp_tup xs, shp_tup xs, ?_⟩
  rw [SeqAt.eqv_refl _ (SeqAt.canLay_of_shaped (shp_tup xs))]; exact r
end
end RS
/-! "run": a reading is worked off by rewriting, from the left -/
local macro_rules | `(tactic| walk_at "run") => `(tactic| simp only [L2.tSeq, L2.tAsg, L2.gName, L2.tVar, L2.tC, L2.tOp, L2.tUn, L2.tTest, L2.tB, L2.tIfS, L2.tNext, L2.tRet, L2.tRetN, L2.tDrop, L2.tCall, L2.tCons, L2.tNil, L2.tCB, L2.tAnd, L2.tOr, L2.tNot, L2.tAndV, L2.tOrV, L2.tNotV, L2.tIf, L2.tIsN, L2.tNotN, L2.tBreak, L2.tCont, L2.tTup, L2.tLst, L2.gTup, L2.gCons, L2.gNil, L2.gSub, L2.tChain, L2.tDGet, L2.tDIn, L2.tDNotIn, L2.sDPut, L2.tDNewK,
  L2.rI, L2.rI0, L2.rU, L2.rEq, L2.rNe, L2.rIxL, L2.rIxT, L2.rIn, L2.rIsi, L2.rSetL, L2.rCat, L2.rRep, L2.rSlL, L2.tSl, L2.tPart, L2.tNoPart, L2.tYes, RS.ov_non, RS.ov_some, L2.rIsB, L2.rNotB, RS.rIsA, RS.isWh_int, RS.isWh_bl, RS.isWh_non, RS.isWh_ref, RS.Ty.nm, RS.Ty.isA, RS.tyOf_int, RS.tyOf_bl, RS.tyOf_non, RS.tyOf_str, RS.rLenS, RS.rLenD, RS.rListS, RS.rMax2, RS.rMin2, RS.rInt1, RS.rStr1, RS.CMl, L2.CDiv, L2.scal,
  List.getElem?_cons_zero, List.getElem?_cons_succ, List.set_cons_zero, List.set_cons_succ, List.append_nil, List.nil_append, List.cons_append,
  Option.some.injEq, L2.V.int.injEq, L2.V.bl.injEq, L2.V.ref.injEq, L2.V.str.injEq, List.cons.injEq, List.nil_eq, reduceCtorEq,
  exists_eq, exists_eq', exists_eq_left, exists_eq_left', exists_eq_right, exists_eq_right', exists_and_left, exists_and_right, exists_const, and_assoc, Int.reduceLT, Int.reduceLE, Int.reduceNeg, Nat.reduceLT, Nat.reduceLeDiff, List.length_cons, List.length_nil, Nat.reduceAdd, Int.reduceMul, Int.reduceSub, true_or, or_true, true_and, and_true, and_self, false_and, and_false, or_false, false_or, decide_eq_true_eq, Bool.not_eq_true', Bool.not_eq_true, decide_eq_false_iff_not, Bool.not_not, Bool.true_eq_false, Bool.false_eq_true, if_true, if_false, Bool.not_true, Bool.not_false, decide_true, decide_false, eq_self, not_true_eq_false, not_false_eq_true, ite_true, ite_false])
local macro_rules | `(tactic| walk_at "nxt") => `(tactic| dsimp only [L2.tSeq, L2.tNext, List.set_cons_zero, List.set_cons_succ])
namespace RS
open PySem PySem.Spec PyProof.Rows L2
def sp_home (K : PySem.W.Frag) (C : Cs) : Sp := fun vs H Q _ => ∃ g n : Int, vs = [.int g, .int n] ∧ 0 < n ∧ Q (.int (homeI g n)) H
def sp_carried (K : PySem.W.Frag) (C : Cs) : Sp := fun vs H Q _ => ∃ g p n : Int, vs = [.int g, .int p, .int n] ∧ 0 < n ∧ Q (.int (farI g p n)) H
def sp_ahead (K : PySem.W.Frag) (C : Cs) : Sp := fun vs H Q _ => ∃ a b p n : Int, vs = [.int a, .int b, .int p, .int n] ∧ 0 < n ∧ Q (.bl (aheadI a b p n)) H
def sp_well_seated (K : PySem.W.Frag) (C : Cs) : Sp := fun vs H Q _ => ∃ (a : Addr) (n : Nat) (f : Nat → Option Int) (p : Nat) (g : Int), vs = [.ref a, .int p] ∧ SqL K H a (row n f) ∧ p < n ∧ f p = some g ∧
  ∀ b : Bool, (b = true ↔ Ring.Car n (hm n) f g p) → Q (.bl b) H
theorem in_none {n : Nat} {f : Nat → Option Int} : inV .non (row n f) = true ↔ ∃ e, e < n ∧ f e = none := by
  unfold inV row
  rw [List.any_eq_true]
  constructor
  · rintro ⟨x, hx, e⟩
    obtain ⟨p, hp, rfl⟩ := List.mem_map.mp hx
    refine ⟨p, List.mem_range.mp hp, ?_⟩
    cases h : f p with
    | none => rfl
    | some g => rw [h] at e; cases e
  · rintro ⟨p, hp, e⟩
    exact ⟨_, List.mem_map.mpr ⟨p, List.mem_range.mpr hp, rfl⟩, by rw [e]; rfl⟩
theorem row_flat {n : Nat} {f : Nat → Option Int} : (row n f).all flatV = true := by
  unfold row
  rw [List.all_eq_true]
  intro x hx
  obtain ⟨p, hp, rfl⟩ := List.mem_map.mp hx
  cases f p <;> rfl
def sp_is_settled (K : PySem.W.Frag) (C : Cs) : Sp := fun vs H Q _ => ∃ (a : Addr) (n : Nat) (f : Nat → Option Int), vs = [.ref a] ∧ SqL K H a (row n f) ∧ n ≤ 1024 ∧
  ∀ b : Bool, (b = true ↔ (∃ e, e < n ∧ f e = none) ∧ Ring.Path n (hm n) f) → Q (.bl b) H
def sT (n : Nat) (f : Nat → Option Int) : Nat → Int
  | 0 => 0
  | k + 1 => match f k with
    | none => sT n f k
    | some g => sT n f k + farI g k n
def sM (n : Nat) (f : Nat → Option Int) : Nat → Int
  | 0 => 0
  | k + 1 => match f k with
    | none => sM n f k
    | some g => if farI g k n > sM n f k then farI g k n else sM n f k
def sS (n : Nat) (f : Nat → Option Int) : Nat → Int
  | 0 => 0
  | k + 1 => match f k with
    | none => sS n f k
    | some g => sS n f k + farI g k n * farI g k n
def sp_strain (K : PySem.W.Frag) (C : Cs) : Sp := fun vs H Q _ => ∃ (a : Addr) (n : Nat) (f : Nat → Option Int), vs = [.ref a] ∧ SqL K H a (row n f) ∧ n ≤ 1024 ∧
  ∀ H' t, Same H H' → H' t = some (.tup [.int (sT n f n), .int (sM n f n), .int (sS n f n)]) → Q (.ref t) H'
def cellI (ns : List Int) (k : Int) : Int := if k < ns.length then ns.getD k.toNat 0 else 0
def sp_law_cell_at (K : PySem.W.Frag) (C : Cs) : Sp := fun vs H Q _ => ∃ (a : Addr) (ns : List Int) (k : Int), vs = [.ref a, .int k] ∧ SqL K H a (ns.map V.int) ∧ 0 ≤ k ∧ Q (.int (cellI ns k)) H
def sp_law_whole (K : PySem.W.Frag) (C : Cs) : Sp := fun vs H Q _ => ∃ (x : V) (s : Ty), vs = [x] ∧ tyOf H x = some s ∧ Q (.bl (isWh x)) H
def guestI (c b : Int) : Int := if c % 4 = 0 then b + 4294967296 * (c / 4 % 1000) else if c % 4 = 1 then b + 65536 * (c / 4 % 9) + 4294967296 * (c / 4 / 9 % 1000) else if c % 4 = 2 then c / 4 % 1000000000000000000000000000000000000000000000000000000000000 else c / 4 % 200000
theorem guestI_ok (c b : Int) (h0 : 0 ≤ b) (h1 : b < 999999999999999999999999999999999999999999999990000000000000) : 0 ≤ guestI c b ∧ guestI c b < 1000000000000000000000000000000000000000000000000000000000000 := by
  unfold guestI; repeat' split
  all_goals omega
def sp_law_guest_by (K : PySem.W.Frag) (C : Cs) : Sp := fun vs H Q _ => ∃ c b : Int, vs = [.int c, .int b] ∧ Q (.int (guestI c b)) H
def manyI (c : Int) : Int := if c % 8 = 0 then 65 + c / 8 % 960 else if c % 8 < 4 then 2 + c / 8 % 9 else 2 + c / 8 % 63
theorem manyI_ok (c : Int) : 2 ≤ manyI c ∧ manyI c ≤ 1024 := by
  unfold manyI; repeat' split
  all_goals omega
def sp_law_many_by (K : PySem.W.Frag) (C : Cs) : Sp := fun vs H Q _ => ∃ c : Int, vs = [.int c] ∧ Q (.int (manyI c)) H
def sp_law_home (K : PySem.W.Frag) (C : Cs) : Sp := fun vs H Q _ => ∃ g n : Int, vs = [.int g, .int n] ∧ 0 < n ∧ Q (.int (homeI g n)) H
def sp_law_ahead (K : PySem.W.Frag) (C : Cs) : Sp := fun vs H Q _ => ∃ a b p n : Int, vs = [.int a, .int b, .int p, .int n] ∧ 0 < n ∧ Q (.bl (aheadI a b p n)) H
def sp_law_put (K : PySem.W.Frag) (C : Cs) : Sp := fun vs H Q _ => ∃ (a : Addr) (n : Nat) (f : Nat → Option Int) (g : Int), vs = [.ref a, .int g] ∧ H a = some (.lst (row n f)) ∧ 2 ≤ n ∧ n ≤ 1024 ∧ Ring.Path n (hm n) f ∧ (∃ e, e < n ∧ f e = none) ∧ ¬ Ring.Sits n f g ∧
  ∀ f', Ring.Path n (hm n) f' → (∀ x, Ring.Sits n f' x ↔ Ring.Sits n f x ∨ x = g) → Q .non (upd H a (.lst (row n f')))
/-- the guests known so far, as the dict's entries -/
def dG (gs : List Int) : List (Key × V) := gs.map fun g => (.inl g, .bl true)
theorem dG_len {gs : List Int} : (dG gs).length = gs.length := List.length_map _
theorem dG_val {gs : List Int} {g : Int} : (valV (dG gs) (.inl g)).isSome = decide (g ∈ gs) := by
  rw [← valV_any]
  unfold dG
  rw [List.any_map, Bool.eq_iff_iff, List.any_eq_true, decide_eq_true_eq]
  constructor
  · rintro ⟨x, hx, e⟩
    have : (Sum.inl x : Key) = .inl g := of_decide_eq_true e
    cases this; exact hx
  · intro h; exact ⟨g, h, decide_eq_true rfl⟩
theorem dG_put {gs : List Int} {g : Int} (h : g ∉ gs) : putK (dG gs) (.inl g) (.bl true) = dG (gs ++ [g]) := by
  unfold putK
  rw [valV_any, dG_val, decide_eq_false h, if_neg (by decide)]
  unfold dG; rw [List.map_append]; rfl
def sp_law_seated (K : PySem.W.Frag) (C : Cs) : Sp := fun vs H Q _ => ∃ (a : Addr) (cs : List Int) (b : Int) (n : Nat), vs = [.ref a, .int b, .int n] ∧ SqL K H a (cs.map V.int) ∧ cs.length ≤ 63 ∧ 2 ≤ n ∧ n ≤ 1024 ∧
  ∀ (H' : Hp) (s : Addr) (f : Nat → Option Int) (gs : List Int), Same H H' → H' s = some (.lst (row n f)) → H s = none → Ring.Path n (hm n) f → gs.Nodup → gs.length + 1 ≤ n → (∀ x, Ring.Sits n f x ↔ x ∈ gs) → (∀ x ∈ gs, ∃ c, x = guestI c b) → Q (.ref s) H'
def sp_law_spot (K : PySem.W.Frag) (C : Cs) : Sp := fun vs H Q _ => ∃ (a : Addr) (n : Nat) (f : Nat → Option Int) (c : Int), vs = [.ref a, .int c] ∧ SqL K H a (row n f) ∧ 1 ≤ n ∧ n ≤ 1024 ∧ ∀ (H' : Hp) (p : Nat), Same H H' → p < n → Q (.int p) H'
theorem cut_last {n : Nat} {f : Nat → Option Int} (h1 : 1 ≤ n) : cutV (row n f) (some (-1)) none = [ov (f (n - 1))] := by
  unfold cutV
  rw [show HT.sIx (row n f).length 0 (some (-1)) = n - 1 by rw [row_len]; show (if (-1 : Int) < 0 then ((-1 : Int) + (n : Int)).toNat else min (-1 : Int).toNat n) = n - 1; rw [if_pos (by decide)]; omega]
  rw [show HT.sIx (row n f).length (row n f).length none = n by rw [row_len]; rfl]
  have e : row n f = row (n - 1) f ++ [ov (f (n - 1))] := by
    unfold row
    rw [show List.range n = List.range (n - 1) ++ [n - 1] by rw [← List.range_succ]; congr 1; omega, List.map_append]; rfl
  rw [e, List.drop_left' row_len, List.take_of_length_le (by simp; omega)]
theorem cut_init {n : Nat} {f : Nat → Option Int} (h1 : 1 ≤ n) : cutV (row n f) none (some (-1)) = row (n - 1) f := by
  unfold cutV
  rw [show HT.sIx (row n f).length (row n f).length (some (-1)) = n - 1 by rw [row_len]; show (if (-1 : Int) < 0 then ((-1 : Int) + (n : Int)).toNat else min (-1 : Int).toNat n) = n - 1; rw [if_pos (by decide)]; omega]
  rw [show HT.sIx (row n f).length 0 none = 0 by rfl]
  have e : row n f = row (n - 1) f ++ [ov (f (n - 1))] := by
    unfold row
    rw [show List.range n = List.range (n - 1) ++ [n - 1] by rw [← List.range_succ]; congr 1; omega, List.map_append]; rfl
  rw [List.drop_zero, Nat.sub_zero, e, List.take_left' row_len]
theorem row_turn {n : Nat} {f : Nat → Option Int} (h1 : 1 ≤ n) : ov (f (n - 1)) :: row (n - 1) f = row n (fun p => if p = 0 then f (n - 1) else f (p - 1)) := by
  refine List.ext_getElem? fun q => ?_
  cases q with
  | zero => rw [row_get (by omega)]; rfl
  | succ q =>
    rw [List.getElem?_cons_succ]
    by_cases hq : q + 1 < n
    · rw [row_get hq, row_get (by omega), if_neg (by omega)]; rfl
    · rw [List.getElem?_eq_none (by rw [row_len]; omega), List.getElem?_eq_none (by rw [row_len]; omega)]
def sp_law_spoiled (K : PySem.W.Frag) (C : Cs) : Sp := fun vs H Q _ => ∃ (a : Addr) (n : Nat) (f : Nat → Option Int) (w b : Int) (one two : Nat), vs = [.ref a, .int w, .int one, .int two, .int b] ∧ SqL K H a (row n f) ∧ n ≤ 1024 ∧ one < n ∧ two < n ∧
  ∀ (H' : Hp) (s : Addr) (f' : Nat → Option Int), Same H H' → H' s = some (.lst (row n f')) → Q (.ref s) H'
def sp_law_settled (K : PySem.W.Frag) (C : Cs) : Sp := fun vs H Q _ => ∃ (a : Addr) (n : Nat) (f : Nat → Option Int), vs = [.ref a] ∧ SqL K H a (row n f) ∧ n ≤ 1024 ∧
  ∀ b : Bool, (b = true ↔ (∃ e, e < n ∧ f e = none) ∧ Ring.Path n (hm n) f) → Q (.bl b) H
def sp_law_strained (K : PySem.W.Frag) (C : Cs) : Sp := fun vs H Q _ => ∃ (a t : Addr) (n : Nat) (f : Nat → Option Int), vs = [.ref t, .ref a] ∧ SqL K H a (row n f) ∧ n ≤ 1024 ∧ H t = some (.tup [.int (sT n f n), .int (sM n f n), .int (sS n f n)]) ∧
  ∀ H', Same H H' → Q (.bl true) H'
def sp_law0 (K : PySem.W.Frag) : Sp := fun vs H Q _ => ∃ (a : Addr) (ns : List Int), vs = [.ref a] ∧ SqL K H a (ns.map V.int) ∧ ns.length ≤ 63 ∧ ∀ H', Q (.bl true) H'
def sp_law (K : PySem.W.Frag) (C : Cs) : Sp := sp_law0 K
theorem cut_ints {ns : List Int} {lo hi : Option Int} : ∃ cs : List Int, cutV (ns.map V.int) lo hi = cs.map V.int ∧ cs.length ≤ ns.length := by
  unfold cutV
  refine ⟨(ns.drop _).take _, by rw [List.map_take, List.map_drop], ?_⟩
  rw [List.length_take, List.length_drop]; omega
theorem baseI_ok (c : Int) : 0 ≤ c % (999999999999999999999999999999999999999999999990000000000000) ∧ c % (999999999999999999999999999999999999999999999990000000000000) < 999999999999999999999999999999999999999999999990000000000000 := by omega
end RS
namespace RS
open PySem PySem.Spec PyProof.Rows L2
def t_home (K : PySem.W.Frag) (C : Cs) (E : XK) : TS :=
  (tRet (tOp rMod (tOp rMod (tOp rAdd (tOp rMul (tVar 0) (tC (.int 40503))) (tOp rFdv (tVar 0) (tC (.int 65536)))) (tC (.int 65536))) (tVar 1)))
def t_carried (K : PySem.W.Frag) (C : Cs) (E : XK) : TS :=
  (tRet (tOp rMod (tOp rSub (tVar 1) (tCall (sp_home K C) [] E0 (tCons (tVar 0) (tCons (tVar 2) tNil)))) (tVar 2)))
def t_ahead (K : PySem.W.Frag) (C : Cs) (E : XK) : TS :=
  (tSeq (tAsg (tCall (sp_carried K C) [] E0 (tCons (tVar 0) (tCons (tVar 2) (tCons (tVar 3) tNil)))) (gName 4))
    (tSeq (tAsg (tCall (sp_carried K C) [] E0 (tCons (tVar 1) (tCons (tVar 2) (tCons (tVar 3) tNil)))) (gName 5))
    (tSeq (tIfS (tTest (tOp rNe (tVar 4) (tVar 5))) (tRet (tOp rGt (tVar 4) (tVar 5))) tNext)
    (tRet (tOp rLt (tVar 0) (tVar 1))))))
def t_well_seated_b1 (K : PySem.W.Frag) (C : Cs) (E : XK) : TS :=
  (tSeq (tAsg (tOp (rIxL K) (tVar 0) (tVar 4)) (gName 5))
    (tSeq (tIfS (tOr (tB (tIsN (tVar 5))) (tNot (tB (tCall (sp_ahead K C) [] E0 (tCons (tVar 5) (tCons (tVar 3) (tCons (tVar 4) (tCons (tVar 2) tNil)))))))) (tRet (tC (.bl false))) tNext)
    (tAsg (tOp rMod (tOp rAdd (tVar 4) (tC (.int 1))) (tVar 2)) (gName 4))))
def t_well_seated (K : PySem.W.Frag) (C : Cs) (E : XK) : TS :=
  (tSeq (tAsg (tCB (rLenS K) (tCons (tVar 0) tNil)) (gName 2))
    (tSeq (tAsg (tOp (rIxL K) (tVar 0) (tVar 1)) (gName 3))
    (tSeq (tAsg (tCall (sp_home K C) [] E0 (tCons (tVar 3) (tCons (tVar 2) tNil))) (gName 4))
    (tSeq (tWhile (tTest (tOp rNe (tVar 4) (tVar 1))) (t_well_seated_b1 K C E))
    (tRet (tC (.bl true)))))))
def t_is_settled_b1 (K : PySem.W.Frag) (C : Cs) (E : XK) : TS :=
  (tIfS (tAnd (tB (tNotN (tOp (rIxL K) (tVar 0) (tVar 1)))) (tNot (tB (tCall (sp_well_seated K C) [] E0 (tCons (tVar 0) (tCons (tVar 1) tNil)))))) (tRet (tC (.bl false))) tNext)
def t_is_settled (K : PySem.W.Frag) (C : Cs) (E : XK) : TS :=
  (tSeq (tIfS (tTest (tOp (rIn K true) (tC .non) (tVar 0))) (tRet (tC (.bl false))) tNext)
    (tSeq (tFor (iRng1 (tCons (tCB (rLenS K) (tCons (tVar 0) tNil)) tNil)) (gName 1) (t_is_settled_b1 K C E))
    (tRet (tC (.bl true)))))
def t_strain_b1 (K : PySem.W.Frag) (C : Cs) (E : XK) : TS :=
  (tIfS (tB (tNotN (tVar 5))) (tSeq (tAsg (tCall (sp_carried K C) [] E0 (tCons (tVar 5) (tCons (tVar 4) (tCons (tCB (rLenS K) (tCons (tVar 0) tNil)) tNil)))) (gName 6))
    (tSeq (tAsg (tOp rAdd (tVar 1) (tVar 6)) (gName 1))
    (tSeq (tAsg (tCB rMax2 (tCons (tVar 2) (tCons (tVar 6) tNil))) (gName 2))
    (tAsg (tOp rAdd (tVar 3) (tOp rMul (tVar 6) (tVar 6))) (gName 3))))) tNext)
def t_strain (K : PySem.W.Frag) (C : Cs) (E : XK) : TS :=
  (tSeq (tAsg (tC (.int 0)) (gName 1))
    (tSeq (tAsg (tC (.int 0)) (gName 2))
    (tSeq (tAsg (tC (.int 0)) (gName 3))
    (tSeq (tFor (iEnum K (tCons (tVar 0) tNil)) (gTup K 2 (gCons (gName 4) (gCons (gName 5) gNil))) (t_strain_b1 K C E))
    (tRet (tTup (tCons (tVar 1) (tCons (tVar 2) (tCons (tVar 3) tNil)))))))))
def t_law_cell_at (K : PySem.W.Frag) (C : Cs) (E : XK) : TS :=
  (tSeq (tIfS (tTest (tOp rLt (tVar 1) (tCB (rLenS K) (tCons (tVar 0) tNil)))) (tRet (tOp (rIxL K) (tVar 0) (tVar 1))) tNext)
    (tRet (tC (.int 0))))
def t_law_whole (K : PySem.W.Frag) (C : Cs) (E : XK) : TS :=
  (tRet (tAndV (tCB (rIsA .int) (tCons (tVar 0) (tCons (tC (.ty "int")) tNil))) (tNotV (tCB (rIsA .bool) (tCons (tVar 0) (tCons (tC (.ty "bool")) tNil))))))
def t_law_guest_by (K : PySem.W.Frag) (C : Cs) (E : XK) : TS :=
  (tSeq (tAsg (tOp rFdv (tVar 0) (tC (.int 4))) (gName 2))
    (tSeq (tIfS (tTest (tOp rEq (tOp rMod (tVar 0) (tC (.int 4))) (tC (.int 0)))) (tRet (tOp rAdd (tVar 1) (tOp rMul (tC (.int 4294967296)) (tOp rMod (tVar 2) (tC (.int 1000)))))) tNext)
    (tSeq (tIfS (tTest (tOp rEq (tOp rMod (tVar 0) (tC (.int 4))) (tC (.int 1)))) (tRet (tOp rAdd (tOp rAdd (tVar 1) (tOp rMul (tC (.int 65536)) (tOp rMod (tVar 2) (tC (.int 9))))) (tOp rMul (tC (.int 4294967296)) (tOp rMod (tOp rFdv (tVar 2) (tC (.int 9))) (tC (.int 1000)))))) tNext)
    (tSeq (tIfS (tTest (tOp rEq (tOp rMod (tVar 0) (tC (.int 4))) (tC (.int 2)))) (tRet (tOp rMod (tVar 2) (tC (.int 1000000000000000000000000000000000000000000000000000000000000)))) tNext)
    (tRet (tOp rMod (tVar 2) (tC (.int 200000))))))))
def t_law_many_by (K : PySem.W.Frag) (C : Cs) (E : XK) : TS :=
  (tSeq (tIfS (tTest (tOp rEq (tOp rMod (tVar 0) (tC (.int 8))) (tC (.int 0)))) (tRet (tOp rAdd (tC (.int 65)) (tOp rMod (tOp rFdv (tVar 0) (tC (.int 8))) (tC (.int 960))))) tNext)
    (tSeq (tIfS (tTest (tOp rLt (tOp rMod (tVar 0) (tC (.int 8))) (tC (.int 4)))) (tRet (tOp rAdd (tC (.int 2)) (tOp rMod (tOp rFdv (tVar 0) (tC (.int 8))) (tC (.int 9))))) tNext)
    (tRet (tOp rAdd (tC (.int 2)) (tOp rMod (tOp rFdv (tVar 0) (tC (.int 8))) (tC (.int 63)))))))
def t_law_home (K : PySem.W.Frag) (C : Cs) (E : XK) : TS :=
  (tRet (tOp rMod (tOp rMod (tOp rAdd (tOp rMul (tVar 0) (tC (.int 40503))) (tOp rFdv (tVar 0) (tC (.int 65536)))) (tC (.int 65536))) (tVar 1)))
def t_law_ahead (K : PySem.W.Frag) (C : Cs) (E : XK) : TS :=
  (tSeq (tAsg (tOp rMod (tOp rSub (tVar 2) (tCall (sp_law_home K C) [] E0 (tCons (tVar 0) (tCons (tVar 3) tNil)))) (tVar 3)) (gName 4))
    (tSeq (tAsg (tOp rMod (tOp rSub (tVar 2) (tCall (sp_law_home K C) [] E0 (tCons (tVar 1) (tCons (tVar 3) tNil)))) (tVar 3)) (gName 5))
    (tRet (tOrV (tOp rGt (tVar 4) (tVar 5)) (tAndV (tOp rEq (tVar 4) (tVar 5)) (tOp rLt (tVar 0) (tVar 1)))))))
def t_law_put_b1 (K : PySem.W.Frag) (C : Cs) (E : XK) : TS :=
  (tSeq (tIfS (tB (tCall (sp_law_ahead K C) [] E0 (tCons (tVar 1) (tCons (tOp (rIxL K) (tVar 0) (tVar 3)) (tCons (tVar 3) (tCons (tVar 2) tNil)))))) (tSeq (tAsg (tOp (rIxL K) (tVar 0) (tVar 3)) (gName 4))
    (tSeq (tAsg (tVar 1) (gSub (tVar 0) (tVar 3) rSetL))
    (tAsg (tVar 4) (gName 1)))) tNext)
    (tAsg (tOp rMod (tOp rAdd (tVar 3) (tC (.int 1))) (tVar 2)) (gName 3)))
def t_law_put (K : PySem.W.Frag) (C : Cs) (E : XK) : TS :=
  (tSeq (tAsg (tCB (rLenS K) (tCons (tVar 0) tNil)) (gName 2))
    (tSeq (tAsg (tCall (sp_law_home K C) [] E0 (tCons (tVar 1) (tCons (tVar 2) tNil))) (gName 3))
    (tSeq (tWhile (tB (tNotN (tOp (rIxL K) (tVar 0) (tVar 3)))) (t_law_put_b1 K C E))
    (tAsg (tVar 1) (gSub (tVar 0) (tVar 3) rSetL)))))
def t_law_seated_b1 (K : PySem.W.Frag) (C : Cs) (E : XK) : TS :=
  (tSeq (tAsg (tCall (sp_law_guest_by K C) [] E0 (tCons (tVar 5) (tCons (tVar 1) tNil))) (gName 6))
    (tIfS (tAnd (tB (tDNotIn (tVar 6) (tVar 4))) (tTest (tOp rLt (tCB rLenD (tCons (tVar 4) tNil)) (tOp rSub (tVar 2) (tC (.int 1)))))) (tSeq (sDPut (tVar 4) (tVar 6) (tC (.bl true)))
    (tDrop (tCall (sp_law_put K C) [] E0 (tCons (tVar 3) (tCons (tVar 6) tNil))))) tNext))
def t_law_seated (K : PySem.W.Frag) (C : Cs) (E : XK) : TS :=
  (tSeq (tAsg (tOp rRep (tLst (tCons (tC .non) tNil)) (tVar 2)) (gName 3))
    (tSeq (tAsg tDNewK (gName 4))
    (tSeq (tFor (iList K (tVar 0)) (gName 5) (t_law_seated_b1 K C E))
    (tRet (tVar 3)))))
def t_law_spot (K : PySem.W.Frag) (C : Cs) (E : XK) : TS :=
  (tSeq (tAsg (tLc (iRng1 (tCons (tCB (rLenS K) (tCons (tVar 0) tNil)) tNil)) (gName 3) (tB (tNotN (tOp (rIxL K) (tVar 0) (tVar 3)))) (tVar 3) [3]) (gName 2))
    (tSeq (tIfS (tAnd (tTest (tOp rEq (tOp rMod (tVar 1) (tC (.int 2))) (tC (.int 1)))) (tTest (tOp rGt (tCB (rLenS K) (tCons (tVar 2) tNil)) (tC (.int 0))))) (tRet (tOp (rIxL K) (tVar 2) (tOp rMod (tOp rFdv (tVar 1) (tC (.int 2))) (tCB (rLenS K) (tCons (tVar 2) tNil))))) tNext)
    (tRet (tOp rMod (tOp rFdv (tVar 1) (tC (.int 2))) (tCB (rLenS K) (tCons (tVar 0) tNil))))))
def t_law_spoiled_b1 (K : PySem.W.Frag) (C : Cs) (E : XK) : TS :=
  (tIfS (tB (tIsN (tOp (rIxL K) (tVar 6) (tVar 8)))) (tAsg (tOp rAdd (tVar 4) (tOp rMul (tC (.int 65536)) (tOp rMod (tOp rSub (tVar 8) (tVar 7)) (tC (.int 65536))))) (gSub (tVar 6) (tVar 8) rSetL)) tNext)
def t_law_spoiled (K : PySem.W.Frag) (C : Cs) (E : XK) : TS :=
  (tSeq (tAsg (tCB (rLenS K) (tCons (tVar 0) tNil)) (gName 5))
    (tSeq (tAsg (tCB (rListS K) (tCons (tVar 0) tNil)) (gName 6))
    (tSeq (tIfS (tTest (tOp rEq (tVar 1) (tC (.int 2)))) (tAsg (tOp rMod (tOp rAdd (tVar 2) (tC (.int 1))) (tVar 5)) (gName 3)) tNext)
    (tSeq (tIfS (tOr (tTest (tOp rEq (tVar 1) (tC (.int 1)))) (tTest (tOp rEq (tVar 1) (tC (.int 2))))) (tSeq (tAsg (tOp (rIxL K) (tVar 0) (tVar 3)) (gSub (tVar 6) (tVar 2) rSetL))
    (tAsg (tOp (rIxL K) (tVar 0) (tVar 2)) (gSub (tVar 6) (tVar 3) rSetL))) tNext)
    (tSeq (tIfS (tOr (tTest (tOp rEq (tVar 1) (tC (.int 4)))) (tTest (tOp rEq (tVar 1) (tC (.int 6))))) (tAsg (tC .non) (gSub (tVar 6) (tVar 2) rSetL)) tNext)
    (tSeq (tIfS (tOr (tTest (tOp rEq (tVar 1) (tC (.int 3)))) (tTest (tOp rEq (tVar 1) (tC (.int 6))))) (tAsg (tOp (rIxL K) (tVar 0) (tVar 2)) (gSub (tVar 6) (tVar 3) rSetL)) tNext)
    (tSeq (tIfS (tTest (tOp rEq (tVar 1) (tC (.int 5)))) (tSeq (tAsg (tOp rMod (tOp rAdd (tOp rMul (tVar 4) (tC (.int 40503))) (tOp rFdv (tVar 4) (tC (.int 65536)))) (tC (.int 65536))) (gName 7))
    (tFor (iRng1 (tCons (tVar 5) tNil)) (gName 8) (t_law_spoiled_b1 K C E))) tNext)
    (tSeq (tIfS (tTest (tOp rEq (tVar 1) (tC (.int 7)))) (tAsg (tOp rCat (tSl (rSlL K) (tVar 0) (tPart (tUn rNeg (tC (.int 1)))) tNoPart) (tSl (rSlL K) (tVar 0) tNoPart (tPart (tUn rNeg (tC (.int 1)))))) (gName 6)) tNext)
    (tRet (tVar 6))))))))))
def t_law_settled_b1 (K : PySem.W.Frag) (C : Cs) (E : XK) : TS :=
  (tSeq (tIfS (tOr (tB (tIsN (tOp (rIxL K) (tVar 0) (tVar 4)))) (tNot (tB (tCall (sp_law_ahead K C) [] E0 (tCons (tOp (rIxL K) (tVar 0) (tVar 4)) (tCons (tVar 3) (tCons (tVar 4) (tCons (tVar 1) tNil)))))))) (tRet (tC (.bl false))) tNext)
    (tAsg (tOp rMod (tOp rAdd (tVar 4) (tC (.int 1))) (tVar 1)) (gName 4)))
def t_law_settled_b2 (K : PySem.W.Frag) (C : Cs) (E : XK) : TS :=
  (tSeq (tAsg (tOp (rIxL K) (tVar 0) (tVar 2)) (gName 3))
    (tIfS (tB (tNotN (tVar 3))) (tSeq (tAsg (tCall (sp_law_home K C) [] E0 (tCons (tVar 3) (tCons (tVar 1) tNil))) (gName 4))
    (tWhile (tTest (tOp rNe (tVar 4) (tVar 2))) (t_law_settled_b1 K C E))) tNext))
def t_law_settled (K : PySem.W.Frag) (C : Cs) (E : XK) : TS :=
  (tSeq (tAsg (tCB (rLenS K) (tCons (tVar 0) tNil)) (gName 1))
    (tSeq (tFor (iRng1 (tCons (tVar 1) tNil)) (gName 2) (t_law_settled_b2 K C E))
    (tRet (tOp (rIn K false) (tC .non) (tVar 0)))))
def t_law_strained_b1 (K : PySem.W.Frag) (C : Cs) (E : XK) : TS :=
  (tIfS (tB (tNotN (tOp (rIxL K) (tVar 1) (tVar 5)))) (tSeq (tAsg (tOp rMod (tOp rSub (tVar 5) (tCall (sp_law_home K C) [] E0 (tCons (tOp (rIxL K) (tVar 1) (tVar 5)) (tCons (tCB (rLenS K) (tCons (tVar 1) tNil)) tNil)))) (tCB (rLenS K) (tCons (tVar 1) tNil))) (gName 6))
    (tSeq (tAsg (tOp rAdd (tVar 2) (tVar 6)) (gName 2))
    (tSeq (tAsg (tCB rMax2 (tCons (tVar 3) (tCons (tVar 6) tNil))) (gName 3))
    (tAsg (tOp rAdd (tVar 4) (tOp rMul (tVar 6) (tVar 6))) (gName 4))))) tNext)
def t_law_strained_b2 (K : PySem.W.Frag) (C : Cs) (E : XK) : TS :=
  (tIfS (tNot (tB (tCall (sp_law_whole K C) [] E0 (tCons (tVar 7) tNil)))) (tRet (tC (.bl false))) tNext)
def t_law_strained (K : PySem.W.Frag) (C : Cs) (E : XK) : TS :=
  (tSeq (tAsg (tC (.int 0)) (gName 2))
    (tSeq (tAsg (tC (.int 0)) (gName 3))
    (tSeq (tAsg (tC (.int 0)) (gName 4))
    (tSeq (tFor (iRng1 (tCons (tCB (rLenS K) (tCons (tVar 1) tNil)) tNil)) (gName 5) (t_law_strained_b1 K C E))
    (tSeq (tIfS (tOr (tNot (tB (tCB (rIsA .tuple) (tCons (tVar 0) (tCons (tC (.ty "tuple")) tNil))))) (tTest (tOp rNe (tCB (rLenS K) (tCons (tVar 0) tNil)) (tC (.int 3))))) (tRet (tC (.bl false))) tNext)
    (tSeq (tFor (iTup K (tVar 0)) (gName 7) (t_law_strained_b2 K C E))
    (tRet (tOp (rEqD K) (tVar 0) (tTup (tCons (tVar 2) (tCons (tVar 3) (tCons (tVar 4) tNil))))))))))))
def t_law_b1 (K : PySem.W.Frag) (C : Cs) (E : XK) : TS :=
  (tSeq (tAsg (tCB (rListS K) (tCons (tVar 7) tNil)) (gName 8))
    (tSeq (tAsg (tCall (sp_is_settled K C) [] E0 (tCons (tVar 8) tNil)) (gName 9))
    (tSeq (tIfS (tOr (tNot (tB (tCB (rIsA .bool) (tCons (tVar 9) (tCons (tC (.ty "bool")) tNil))))) (tTest (tOp rNe (tVar 9) (tCall (sp_law_settled K C) [] E0 (tCons (tVar 7) tNil))))) (tRet (tC (.bl false))) tNext)
    (tIfS (tOr (tNot (tB (tCall (sp_law_strained K C) [] E0 (tCons (tCall (sp_strain K C) [] E0 (tCons (tVar 8) tNil)) (tCons (tVar 7) tNil))))) (tTest (tOp (rNeD K) (tVar 8) (tVar 7)))) (tRet (tC (.bl false))) tNext))))
def t_law (K : PySem.W.Frag) (C : Cs) (E : XK) : TS :=
  (tSeq (tAsg (tCall (sp_law_many_by K C) [] E0 (tCons (tCall (sp_law_cell_at K C) [] E0 (tCons (tVar 0) (tCons (tC (.int 0)) tNil))) tNil)) (gName 1))
    (tSeq (tAsg (tOp rMod (tCall (sp_law_cell_at K C) [] E0 (tCons (tVar 0) (tCons (tC (.int 1)) tNil))) (tOp rSub (tC (.int 1000000000000000000000000000000000000000000000000000000000000)) (tC (.int 10000000000000)))) (gName 2))
    (tSeq (tAsg (tCall (sp_law_seated K C) [] E0 (tCons (tSl (rSlL K) (tVar 0) (tPart (tC (.int 5))) (tPart (tC (.int 63)))) (tCons (tVar 2) (tCons (tVar 1) tNil)))) (gName 3))
    (tSeq (tAsg (tCall (sp_law_spot K C) [] E0 (tCons (tVar 3) (tCons (tCall (sp_law_cell_at K C) [] E0 (tCons (tVar 0) (tCons (tC (.int 3)) tNil))) tNil))) (gName 4))
    (tSeq (tAsg (tCall (sp_law_spot K C) [] E0 (tCons (tVar 3) (tCons (tCall (sp_law_cell_at K C) [] E0 (tCons (tVar 0) (tCons (tC (.int 4)) tNil))) tNil))) (gName 5))
    (tSeq (tAsg (tCall (sp_law_spoiled K C) [] E0 (tCons (tVar 3) (tCons (tOp rMod (tCall (sp_law_cell_at K C) [] E0 (tCons (tVar 0) (tCons (tC (.int 2)) tNil))) (tC (.int 8))) (tCons (tVar 4) (tCons (tVar 5) (tCons (tVar 2) tNil)))))) (gName 6))
    (tSeq (tFor (iList K (tLst (tCons (tVar 3) (tCons (tVar 6) tNil)))) (gName 7) (t_law_b1 K C E))
    (tRet (tC (.bl true))))))))))
end RS
namespace RS
open PySem PySem.Spec PyProof.Rows L2
section
variable {K : PySem.W.Frag} {C : Cs} {vs : List V} {H : Hp} {Q : VK} {E : XK}
theorem len_home (h : sp_home K C vs H Q E) : vs.length = (["guest", "many"] : List Str).length := by
  unfold sp_home at h
  repeat (obtain ⟨_, h⟩ := h)
  subst_vars; rfl
theorem pure_home (h : sp_home K C vs H Q E) : t_home K C E { nx := fun _ H' => Q .non H', rt := Q } (start ["guest", "many"] vs) H := by
  obtain ⟨g, n, rfl, h0, q⟩ := h
  show tRet _ _ [some (.int g), some (.int n)] H
  walk_at "run"
  exact ⟨h0, q⟩
theorem len_carried (h : sp_carried K C vs H Q E) : vs.length = (["guest", "at", "many"] : List Str).length := by
  unfold sp_carried at h
  repeat (obtain ⟨_, h⟩ := h)
  subst_vars; rfl
theorem pure_carried (h : sp_carried K C vs H Q E) : t_carried K C E { nx := fun _ H' => Q .non H', rt := Q } (start ["guest", "at", "many"] vs) H := by
  obtain ⟨g, p, n, rfl, h0, q⟩ := h
  show tRet _ _ [some (.int g), some (.int p), some (.int n)] H
  walk_at "run"; unfold sp_home; walk_at "run"
  exact ⟨h0, h0, q⟩
theorem len_ahead (h : sp_ahead K C vs H Q E) : vs.length = (["one", "other", "at", "many"] : List Str).length := by
  unfold sp_ahead at h
  repeat (obtain ⟨_, h⟩ := h)
  subst_vars; rfl
theorem pure_ahead (h : sp_ahead K C vs H Q E) : t_ahead K C E { nx := fun _ H' => Q .non H', rt := Q } (start ["one", "other", "at", "many", "here", "there"] vs) H := by
  obtain ⟨a, b, p, n, rfl, h0, q⟩ := h
  show tSeq _ _ _ [some (.int a), some (.int b), some (.int p), some (.int n), none, none] H
  walk_at "run"; unfold sp_carried; walk_at "run"
  refine ⟨h0, h0, ?_⟩
  by_cases e : farI a p n = farI b p n
  · rw [if_neg (not_not_intro e)]
    rw [show decide (a < b) = aheadI a b p n from decide_eq_decide.mpr ⟨fun h => .inr ⟨e, h⟩, fun h => by omega⟩]
    exact q
  · rw [if_pos e]
    rw [show decide (farI a p n > farI b p n) = aheadI a b p n from decide_eq_decide.mpr ⟨fun h => .inl h, fun h => by omega⟩]
    exact q
theorem len_well_seated (h : sp_well_seated K C vs H Q E) : vs.length = (["seats", "at"] : List Str).length := by
  unfold sp_well_seated at h
  repeat (obtain ⟨_, h⟩ := h)
  subst_vars; rfl
theorem pure_well_seated (h : sp_well_seated K C vs H Q E) : t_well_seated K C E { nx := fun _ H' => Q .non H', rt := Q } (start ["seats", "at", "many", "guest", "spot", "other"] vs) H := by
  obtain ⟨a, n, f, p, g, rfl, hS, hp, hf, q⟩ := h
  have hn : 0 < n := by omega
  have hh := hm_lt hn
  show tSeq _ _ _ [some (.ref a), some (.int p), none, none, none, none] H
  refine asg_step (v := .int n) (H' := H) (fun R h => ?_) ?_
  · walk_at "run"; exact ⟨_, .inl hS, by rw [row_len]; exact h⟩
  walk_at "nxt"
  refine asg_step (v := .int g) (H' := H) (fun R h => ?_) ?_
  · walk_at "run"; exact ⟨_, hS, _, row_at hp, by rw [hf]; exact h⟩
  walk_at "nxt"
  refine asg_step (v := .int (hm n g)) (H' := H) (fun R h => ?_) ?_
  · walk_at "run"; unfold sp_home; walk_at "run"; exact ⟨by omega, by rw [hm_is hn]; exact h⟩
  walk_at "nxt"
  refine while_step (fun m σ H' => H' = H ∧ ∃ (s : Nat) (x : Option V), σ = [some (.ref a), some (.int p), some (.int n), some (.int g), some (.int s), x] ∧ s < n ∧ Ring.Car n (hm n) f g s ∧ Ring.far n (hm n g) s ≤ Ring.far n (hm n g) p ∧ m = Ring.far n (hm n g) p - Ring.far n (hm n g) s)
    ⟨_, rfl, hm n g, none, rfl, hh g, Ring.car_home, by rw [Ring.far_self]; omega, rfl⟩ ?_
  rintro m σ H' ⟨rfl, s, x, rfl, hs, cs, hle, rfl⟩
  refine ⟨!decide ((s : Int) = (p : Int)), fun R h => ?_, fun e => ?_, fun e => ?_⟩
  · walk_at "run"; exact h
  · have hsp : s ≠ p := fun z => by rw [z] at e; simp at e
    have hlt : Ring.far n (hm n g) s < Ring.far n (hm n g) p := by
      have : Ring.far n (hm n g) s ≠ Ring.far n (hm n g) p := fun z => hsp (Ring.far_inj (hh g) hs hp z)
      omega
    unfold t_well_seated_b1
    refine asg_step (v := ov (f s)) (H' := H') (fun R h => ?_) ?_
    · walk_at "run"; exact ⟨_, hS, _, row_at hs, h⟩
    walk_at "nxt"
    cases hy : f s with
    | none =>
      refine if_step (b := true) (H' := H') (fun R h => ?_) (fun _ => ?_) (fun z => nomatch z)
      · walk_at "run"; exact h
      walk_at "run"
      refine q false ⟨(fun z => nomatch z), fun c => ?_⟩
      obtain ⟨y, h1, _⟩ := c s hs hlt
      rw [hy] at h1; cases h1
    | some y =>
      refine if_step (b := !decide (Ring.Ah n (hm n) y g s)) (H' := H') (fun R h => ?_) (fun e1 => ?_) (fun e1 => ?_)
      · walk_at "run"; unfold sp_ahead; walk_at "run"
        rw [ahead_is hs]; exact ⟨by omega, h⟩
      · walk_at "run"
        refine q false ⟨(fun z => nomatch z), fun c => ?_⟩
        obtain ⟨y', h1, h2⟩ := c s hs hlt
        rw [hy] at h1; cases h1
        simp [h2] at e1
      · have a1 : Ring.Ah n (hm n) y g s := by simpa using e1
        have w : Ring.nx n s ≠ hm n g := fun z => by
          have := Ring.far_last (hh g) hs z
          have := Ring.far_lt (hh g) hp
          omega
        have hx := Ring.far_nx (hh g) hs w
        walk_at "nxt"
        refine asg_step (v := .int (Ring.nx n s)) (H' := H') (fun R h => ?_) ?_
        · walk_at "run"; exact ⟨by omega, by rw [nx_is hs]; exact h⟩
        exact ⟨_, by omega, rfl, _, _, rfl, Ring.nx_lt hs, Ring.car_nx hh hs cs hy a1, by omega, rfl⟩
  · have hsp : s = p := by simp at e; omega
    subst hsp
    walk_at "run"
    exact q true ⟨fun _ => cs, fun _ => rfl⟩
theorem len_is_settled (h : sp_is_settled K C vs H Q E) : vs.length = (["seats"] : List Str).length := by
  unfold sp_is_settled at h
  repeat (obtain ⟨_, h⟩ := h)
  subst_vars; rfl
theorem pure_is_settled (h : sp_is_settled K C vs H Q E) : t_is_settled K C E { nx := fun _ H' => Q .non H', rt := Q } (start ["seats", "at"] vs) H := by
  obtain ⟨a, n, f, rfl, hS, hn, q⟩ := h
  show tSeq _ _ _ [some (.ref a), none] H
  refine if_step (b := !inV .non (row n f)) (H' := H) (fun R h => ?_) (fun e => ?_) (fun e => ?_)
  · walk_at "run"; exact ⟨_, .inl hS, rfl, row_flat, h⟩
  · walk_at "run"
    refine q false ⟨(fun z => nomatch z), fun c => ?_⟩
    rw [in_none.mpr c.1] at e; cases e
  have he : ∃ e, e < n ∧ f e = none := in_none.mp (by simpa using e)
  walk_at "nxt"
  refine for_rng1 (n := n) (j := n) (H' := H) (fun R h => ?_) rfl (by omega) (fun k σ H' => H' = H ∧ ∃ x, σ = [some (.ref a), x] ∧ ∀ p, p < k → ∀ g, f p = some g → Ring.Car n (hm n) f g p) ⟨rfl, _, rfl, fun p hp => by omega⟩ ?_ ?_
  · walk_at "run"; exact ⟨_, .inl hS, by rw [row_len]; exact h⟩
  · rintro k σ H' hk ⟨rfl, x, rfl, ih⟩
    unfold t_is_settled_b1
    cases hy : f k with
    | none =>
      refine if_step (b := false) (H' := H') (fun R h => ?_) (fun z => nomatch z) (fun _ => ?_)
      · walk_at "run"; exact ⟨_, hS, _, row_at hk, by rw [hy]; exact h⟩
      refine ⟨rfl, _, rfl, fun p hp g hg => ?_⟩
      by_cases w : p = k
      · rw [w, hy] at hg; cases hg
      · exact ih p (by omega) g hg
    | some y =>
      by_cases hc : Ring.Car n (hm n) f y k
      · refine if_step (b := false) (H' := H') (fun R h => ?_) (fun z => nomatch z) (fun _ => ?_)
        · walk_at "run"; refine ⟨_, hS, _, row_at hk, ?_⟩
          rw [hy]; walk_at "run"; unfold sp_well_seated
          refine ⟨_, _, _, _, _, rfl, hS, hk, hy, fun b hb => ?_⟩
          rw [hb.mpr hc]; exact ⟨_, rfl, h⟩
        refine ⟨rfl, _, rfl, fun p hp g hg => ?_⟩
        by_cases w : p = k
        · rw [w, hy] at hg; cases hg; rw [w]; exact hc
        · exact ih p (by omega) g hg
      · refine if_step (b := true) (H' := H') (fun R h => ?_) (fun _ => ?_) (fun z => nomatch z)
        · walk_at "run"; refine ⟨_, hS, _, row_at hk, ?_⟩
          rw [hy]; walk_at "run"; unfold sp_well_seated
          refine ⟨_, _, _, _, _, rfl, hS, hk, hy, fun b hb => ?_⟩
          cases b with
          | true => exact absurd (hb.mp rfl) hc
          | false => exact ⟨_, rfl, h⟩
        walk_at "run"
        exact q false ⟨(fun z => nomatch z), fun c => absurd (c.2 k hk y hy) hc⟩
  · rintro σ H' ⟨rfl, x, rfl, ih⟩
    walk_at "run"
    exact q true ⟨fun _ => ⟨he, fun p hp g hg => ih p hp g hg⟩, fun _ => rfl⟩
theorem len_strain (h : sp_strain K C vs H Q E) : vs.length = (["seats"] : List Str).length := by
  unfold sp_strain at h
  repeat (obtain ⟨_, h⟩ := h)
  subst_vars; rfl
theorem pure_strain (h : sp_strain K C vs H Q E) : t_strain K C E { nx := fun _ H' => Q .non H', rt := Q } (start ["seats", "together", "farthest", "squares", "at", "guest", "far"] vs) H := by
  obtain ⟨a, n, f, rfl, hS, hn, q⟩ := h
  show tSeq _ _ _ [some (.ref a), none, none, none, none, none, none] H
  refine asg_step (v := .int 0) (H' := H) (fun R h => h) ?_
  walk_at "nxt"
  refine asg_step (v := .int 0) (H' := H) (fun R h => h) ?_
  walk_at "nxt"
  refine asg_step (v := .int 0) (H' := H) (fun R h => h) ?_
  walk_at "nxt"
  refine for_enum (a := a) (xs := row n f) (H' := H) (fun R h => ?_) hS (fun k σ H' => Same H H' ∧ ∃ x y z, σ = [some (.ref a), some (.int (sT n f k)), some (.int (sM n f k)), some (.int (sS n f k)), x, y, z])
    ⟨Same.refl _, _, _, _, rfl⟩ (fun k σ H' ⟨s, _⟩ => s.seq hS) ?_ ?_
  · walk_at "run"; exact h
  · rintro k v σ H' hk ⟨sm, x, y, z, rfl⟩ T hT
    obtain ⟨hk, rfl⟩ := row_some hk
    have s1 := same_new (o := .tup [.int (k : Nat), ov (f k)]) hT
    have e1 : upd H' T (.tup [.int (k : Nat), ov (f k)]) T = some (.tup [.int (k : Nat), ov (f k)]) := upd_same
    revert s1 e1
    generalize upd H' T (.tup [.int (k : Nat), ov (f k)]) = H2
    intro s1 e1
    refine ⟨T, _, rfl, .inl (.inl e1), rfl, ?_⟩
    walk_at "run"
    unfold t_strain_b1
    cases hy : f k with
    | none =>
      refine if_step (b := false) (H' := H2) (fun R h => ?_) (fun z => nomatch z) (fun _ => ?_)
      · walk_at "run"; exact h
      refine ⟨sm.trans s1, some (.int k), some (ov none), z, ?_⟩
      simp only [sT, sM, sS, hy]
    | some g =>
      refine if_step (b := true) (H' := H2) (fun R h => ?_) (fun _ => ?_) (fun z => nomatch z)
      · walk_at "run"; exact h
      refine asg_step (v := .int (farI g k n)) (H' := H2) (fun R h => ?_) ?_
      · walk_at "run"; refine ⟨_, .inl (s1.seq (sm.seq hS)), ?_⟩
        unfold sp_carried; walk_at "run"
        rw [row_len]; exact ⟨by omega, h⟩
      walk_at "nxt"
      refine asg_step (v := .int (sT n f k + farI g k n)) (H' := H2) (fun R h => ?_) ?_
      · walk_at "run"; exact h
      walk_at "nxt"
      refine asg_step (v := .int (if farI g k n > sM n f k then farI g k n else sM n f k)) (H' := H2) (fun R h => ?_) ?_
      · walk_at "run"; exact h
      walk_at "nxt"
      refine asg_step (v := .int (sS n f k + farI g k n * farI g k n)) (H' := H2) (fun R h => ?_) ?_
      · walk_at "run"
        have h0 := farI_lo (g := g) (p := k) (n := n) (by omega)
        have h1 := farI_hi (g := g) (p := k) (n := n) (by omega)
        exact ⟨.inl ⟨by omega, by omega⟩, h⟩
      refine ⟨sm.trans s1, some (.int k), some (ov (some g)), some (.int (farI g k n)), ?_⟩
      simp only [sT, sM, sS, hy]
      rfl
  · rintro σ H' ⟨sm, x, y, z, rfl⟩
    rw [row_len]
    walk_at "run"
    exact ⟨sizes (by decide), fun p hp => q _ _ (sm.trans (same_new hp)) upd_same⟩
theorem len_law_cell_at (h : sp_law_cell_at K C vs H Q E) : vs.length = (["_law_script", "_law_k"] : List Str).length := by
  unfold sp_law_cell_at at h
  repeat (obtain ⟨_, h⟩ := h)
  subst_vars; rfl
theorem pure_law_cell_at (h : sp_law_cell_at K C vs H Q E) : t_law_cell_at K C E { nx := fun _ H' => Q .non H', rt := Q } (start ["_law_script", "_law_k"] vs) H := by
  obtain ⟨a, ns, k, rfl, hS, h0, q⟩ := h
  show tSeq _ _ _ [some (.ref a), some (.int k)] H
  walk_at "run"
  refine ⟨_, .inl hS, ?_⟩
  rw [List.length_map]
  unfold cellI at q
  split
  · rename_i hk
    rw [if_pos hk] at q
    refine ⟨_, hS, .int (ns.getD k.toNat 0), at_of (j := k.toNat) (by omega) ?_, q⟩
    rw [List.getElem?_map, List.getElem?_eq_getElem (by omega), List.getD_eq_getElem?_getD, List.getElem?_eq_getElem (by omega)]
    rfl
  · rename_i hk
    rw [if_neg hk] at q
    exact q
theorem len_law_whole (h : sp_law_whole K C vs H Q E) : vs.length = (["_law_found"] : List Str).length := by
  unfold sp_law_whole at h
  repeat (obtain ⟨_, h⟩ := h)
  subst_vars; rfl
theorem pure_law_whole (h : sp_law_whole K C vs H Q E) : t_law_whole K C E { nx := fun _ H' => Q .non H', rt := Q } (start ["_law_found"] vs) H := by
  obtain ⟨x, s, rfl, ht, q⟩ := h
  show tRet _ _ [some x] H
  have key : (Ty.isA s .int && !Ty.isA s .bool) = isWh x := by
    cases x with
    | int i => cases ht; rfl
    | bl b => cases ht; rfl
    | non => cases ht; rfl
    | str z => cases ht; rfl
    | byt b => cases ht
    | flt b => cases ht
    | ty n => cases ht
    | ref a =>
      have h' : (H a).bind hoTy = some s := ht
      cases e : H a with
      | none => rw [e] at h'; cases h'
      | some o =>
        rw [e] at h'
        have h2 : hoTy o = some s := h'
        cases o with
        | lst xs => cases h2; rfl
        | tup xs => cases h2; rfl
        | dK kvs => cases h2; rfl
        | frz ob u =>
          cases u with
          | lst xs => cases h2; rfl
          | _ => cases h2
        | _ => cases h2
  simp only [tRet, tAndV, tNotV, tCB, tCons, tNil, tVar, tC, rIsA]
  refine ⟨x, rfl, x, s, rfl, ht, s.isA .int, rfl, ?_⟩
  refine iteB (fun e => ?_) fun e => ?_
  · refine ⟨x, rfl, x, s, rfl, ht, s.isA .bool, rfl, ?_⟩
    rw [e] at key
    rw [show (!Ty.isA s .bool) = isWh x from by rw [← key]; rfl]
    exact q
  · rw [e] at key
    rw [show false = isWh x from by rw [← key]; rfl]
    exact q
theorem len_law_guest_by (h : sp_law_guest_by K C vs H Q E) : vs.length = (["_law_cell", "_law_base"] : List Str).length := by
  unfold sp_law_guest_by at h
  repeat (obtain ⟨_, h⟩ := h)
  subst_vars; rfl
theorem pure_law_guest_by (h : sp_law_guest_by K C vs H Q E) : t_law_guest_by K C E { nx := fun _ H' => Q .non H', rt := Q } (start ["_law_cell", "_law_base", "_law_number"] vs) H := by
  obtain ⟨c, b, rfl, q⟩ := h
  show tSeq _ _ _ [some (.int c), some (.int b), none] H
  unfold guestI at q
  walk_at "run"
  repeat' split
  all_goals simp_all
theorem len_law_many_by (h : sp_law_many_by K C vs H Q E) : vs.length = (["_law_cell"] : List Str).length := by
  unfold sp_law_many_by at h
  repeat (obtain ⟨_, h⟩ := h)
  subst_vars; rfl
theorem pure_law_many_by (h : sp_law_many_by K C vs H Q E) : t_law_many_by K C E { nx := fun _ H' => Q .non H', rt := Q } (start ["_law_cell"] vs) H := by
  obtain ⟨c, rfl, q⟩ := h
  show tSeq _ _ _ [some (.int c)] H
  unfold manyI at q
  walk_at "run"
  repeat' split
  all_goals simp_all
theorem len_law_home (h : sp_law_home K C vs H Q E) : vs.length = (["_law_guest", "_law_many"] : List Str).length := by
  unfold sp_law_home at h
  repeat (obtain ⟨_, h⟩ := h)
  subst_vars; rfl
theorem pure_law_home (h : sp_law_home K C vs H Q E) : t_law_home K C E { nx := fun _ H' => Q .non H', rt := Q } (start ["_law_guest", "_law_many"] vs) H := by
  obtain ⟨g, n, rfl, h0, q⟩ := h
  show tRet _ _ [some (.int g), some (.int n)] H
  walk_at "run"
  exact ⟨h0, q⟩
theorem len_law_ahead (h : sp_law_ahead K C vs H Q E) : vs.length = (["_law_one", "_law_other", "_law_at", "_law_many"] : List Str).length := by
  unfold sp_law_ahead at h
  repeat (obtain ⟨_, h⟩ := h)
  subst_vars; rfl
theorem pure_law_ahead (h : sp_law_ahead K C vs H Q E) : t_law_ahead K C E { nx := fun _ H' => Q .non H', rt := Q } (start ["_law_one", "_law_other", "_law_at", "_law_many", "_law_far", "_law_near"] vs) H := by
  obtain ⟨a, b, p, n, rfl, h0, q⟩ := h
  show tSeq _ _ _ [some (.int a), some (.int b), some (.int p), some (.int n), none, none] H
  refine asg_step (v := .int (farI a p n)) (H' := H) (fun R h => ?_) ?_
  · walk_at "run"; unfold sp_law_home; walk_at "run"; exact ⟨h0, h0, h⟩
  walk_at "nxt"
  refine asg_step (v := .int (farI b p n)) (H' := H) (fun R h => ?_) ?_
  · walk_at "run"; unfold sp_law_home; walk_at "run"; exact ⟨h0, h0, h⟩
  walk_at "run"
  by_cases e1 : farI b p n < farI a p n
  · rw [if_pos e1]
    rw [show true = aheadI a b p n from (decide_eq_true (.inl e1)).symm]; exact q
  · rw [if_neg e1]
    by_cases e2 : farI a p n = farI b p n
    · rw [if_pos e2]
      rw [show decide (a < b) = aheadI a b p n from decide_eq_decide.mpr ⟨fun h => .inr ⟨e2, h⟩, fun h => by omega⟩]
      exact q
    · rw [if_neg e2]
      rw [show false = aheadI a b p n from (decide_eq_false (by omega)).symm]; exact q
theorem len_law_put (h : sp_law_put K C vs H Q E) : vs.length = (["_law_seats", "_law_guest"] : List Str).length := by
  unfold sp_law_put at h
  repeat (obtain ⟨_, h⟩ := h)
  subst_vars; rfl
theorem pure_law_put (h : sp_law_put K C vs H Q E) : t_law_put K C E { nx := fun _ H' => Q .non H', rt := Q } (start ["_law_seats", "_law_guest", "_law_many", "_law_at", "_law_kept"] vs) H := by
  obtain ⟨a, n, f, g, rfl, hS, h2, hn, P, ⟨e, he, h0⟩, ng, q⟩ := h
  have hn0 : 0 < n := by omega
  have hh := hm_lt hn0
  show tSeq _ _ _ [some (.ref a), some (.int g), none, none, none] H
  refine asg_step (v := .int n) (H' := H) (fun R h => ?_) ?_
  · walk_at "run"; exact ⟨_, .inl (.inl (.inl hS)), by rw [row_len]; exact h⟩
  walk_at "nxt"
  refine asg_step (v := .int (hm n g)) (H' := H) (fun R h => ?_) ?_
  · walk_at "run"; unfold sp_law_home; walk_at "run"; exact ⟨by omega, by rw [hm_is hn0]; exact h⟩
  walk_at "nxt"
  refine while_step (fun m σ H' => ∃ (f' : Nat → Option Int) (g' : Int) (p : Nat) (x : Option V), H' = upd H a (.lst (row n f')) ∧ σ = [some (.ref a), some (.int g'), some (.int n), some (.int p), x] ∧ p < n ∧ Ring.Path n (hm n) f' ∧ Ring.Car n (hm n) f' g' p ∧ f' e = none ∧ ¬ Ring.Sits n f' g' ∧
    (∀ x, (Ring.Sits n f' x ∨ x = g') ↔ (Ring.Sits n f x ∨ x = g)) ∧ m = Ring.far n p e) ⟨_, f, g, hm n g, none, (upd_id hS).symm, rfl, hh g, P, Ring.car_home, h0, ng, fun _ => Iff.rfl, rfl⟩ ?_
  rintro m σ H' ⟨f', g', p, x, rfl, rfl, hp, P', c, h0', ng', st, rfl⟩
  have hS' : SqL K (upd H a (.lst (row n f'))) a (row n f') := .inl (.inl upd_same)
  cases hy : f' p with
  | none =>
    refine ⟨false, fun R h => ?_, (fun z => nomatch z), fun _ => ?_⟩
    · walk_at "run"; exact ⟨_, hS', _, row_at hp, by rw [hy]; exact h⟩
    walk_at "run"
    refine ⟨_, upd_same, _, row_ix hp, ?_⟩
    rw [upd_upd, row_put]
    exact q _ (Ring.step_put P' c hy) fun x => (Ring.sits_put hp hy x).trans (st x)
  | some y =>
    have hpe : p ≠ e := fun z => by rw [z, h0'] at hy; cases hy
    have ft := Ring.far_to hp he hpe
    refine ⟨true, fun R h => ?_, fun _ => ?_, (fun z => nomatch z)⟩
    · walk_at "run"; exact ⟨_, hS', _, row_at hp, by rw [hy]; exact h⟩
    unfold t_law_put_b1
    by_cases A : Ring.Ah n (hm n) g' y p
    · refine if_step (b := true) (H' := upd H a (.lst (row n f'))) (fun R h => ?_) (fun _ => ?_) (fun z => nomatch z)
      · walk_at "run"; refine ⟨_, hS', _, row_at hp, ?_⟩
        rw [hy]; unfold sp_law_ahead; walk_at "run"
        rw [ahead_is hp, decide_eq_true A]; exact ⟨by omega, h⟩
      refine asg_step (v := .int y) (H' := upd H a (.lst (row n f'))) (fun R h => ?_) ?_
      · walk_at "run"; exact ⟨_, hS', _, row_at hp, by rw [hy]; exact h⟩
      walk_at "nxt"
      refine set_step (H' := upd H a (.lst (row n f'))) (fun R h => ⟨_, rfl, h⟩) (fun R h => ⟨_, rfl, h⟩) (fun R h => ⟨_, rfl, h⟩) upd_same (row_ix hp) ?_
      rw [upd_upd, row_put]
      walk_at "nxt"
      refine asg_step (v := .int y) (H' := upd H a (.lst (row n (Ring.fup f' p (some g'))))) (fun R h => ⟨_, rfl, h⟩) ?_
      walk_at "nxt"
      refine asg_step (v := .int (Ring.nx n p)) (H' := upd H a (.lst (row n (Ring.fup f' p (some g'))))) (fun R h => ?_) ?_
      · walk_at "run"; exact ⟨by omega, by rw [nx_is hp]; exact h⟩
      obtain ⟨P2, c2⟩ := Ring.step_swap hh hp P' c hy A
      exact ⟨_, by omega, _, y, _, _, rfl, rfl, Ring.nx_lt hp, P2, c2, by rw [Ring.fup_ne (fun z => hpe z.symm)]; exact h0', Ring.swap_out hh P' hp hy ng', fun x => (Ring.sits_swap hp hy x).trans (st x), rfl⟩
    · refine if_step (b := false) (H' := upd H a (.lst (row n f'))) (fun R h => ?_) (fun z => nomatch z) (fun _ => ?_)
      · walk_at "run"; refine ⟨_, hS', _, row_at hp, ?_⟩
        rw [hy]; unfold sp_law_ahead; walk_at "run"
        rw [ahead_is hp, decide_eq_false A]; exact ⟨by omega, h⟩
      walk_at "nxt"
      refine asg_step (v := .int (Ring.nx n p)) (H' := upd H a (.lst (row n f'))) (fun R h => ?_) ?_
      · walk_at "run"; exact ⟨by omega, by rw [nx_is hp]; exact h⟩
      exact ⟨_, by omega, _, _, _, _, rfl, rfl, Ring.nx_lt hp, P', Ring.car_nx hh hp c hy (Ring.ah_tot A (fun z => ng' (z ▸ ⟨p, hp, hy⟩))), h0', ng', st, rfl⟩
theorem len_law_seated (h : sp_law_seated K C vs H Q E) : vs.length = (["_law_cells", "_law_base", "_law_many"] : List Str).length := by
  unfold sp_law_seated at h
  repeat (obtain ⟨_, h⟩ := h)
  subst_vars; rfl
theorem pure_law_seated (h : sp_law_seated K C vs H Q E) : t_law_seated K C E { nx := fun _ H' => Q .non H', rt := Q } (start ["_law_cells", "_law_base", "_law_many", "_law_seats", "_law_known", "_law_cell", "_law_guest"] vs) H := by
  obtain ⟨a, cs, b, n, rfl, hS, hl, h2, hn, q⟩ := h
  have hn0 : 0 < n := by omega
  have hh := hm_lt hn0
  show tSeq _ _ _ [some (.ref a), some (.int b), some (.int n), none, none, none, none] H
  refine asg_any (fun v H' => Same H H' ∧ ∃ s, v = .ref s ∧ H' s = some (.lst (row n fun _ => none)) ∧ H s = none) (fun R h => ?_) ?_
  · walk_at "run"
    refine ⟨sizes (by decide), fun p1 h1 => ⟨_, upd_same, by omega, by omega, ?_, fun p2 hp2 => ?_⟩⟩
    · have := sizes (n := n) (by omega); simpa using this
    rw [Int.toNat_natCast, row_none]
    exact h _ _ ⟨(same_new h1).trans (same_new hp2), p2, rfl, upd_same, (same_new h1).free hp2⟩
  rintro v H1 ⟨s1, s, rfl, e1, f1⟩
  walk_at "nxt"
  refine asg_any (fun v H' => Same H1 H' ∧ ∃ d, v = .ref d ∧ H' d = some (.dK (dG [])) ∧ H1 d = none) (fun R h => ?_) ?_
  · walk_at "run"
    exact fun p hp => h _ _ ⟨same_new hp, p, rfl, upd_same, hp⟩
  rintro v H2 ⟨s2, d, rfl, e2, f2⟩
  have hsd : s ≠ d := fun z => by rw [z, f2] at e1; cases e1
  walk_at "nxt"
  refine for_lst (a := a) (xs := cs.map V.int) (H' := H2) (fun R h => ?_) (s2.seq (s1.seq hS))
    (fun j σ H' => ∃ (x y : Option V) (f : Nat → Option Int) (gs : List Int), σ = [some (.ref a), some (.int b), some (.int n), some (.ref s), some (.ref d), x, y] ∧ Same H H' ∧ H' s = some (.lst (row n f)) ∧ H' d = some (.dK (dG gs)) ∧ Ring.Path n (hm n) f ∧ gs.Nodup ∧ gs.length + 1 ≤ n ∧ (∀ x, Ring.Sits n f x ↔ x ∈ gs) ∧ (∀ x ∈ gs, ∃ c, x = guestI c b))
    ⟨_, _, _, [], rfl, s1.trans s2, s2 _ _ e1, e2, Ring.path_none, List.nodup_nil, by simp; omega, fun x => ⟨fun h => absurd h Ring.sits_none, fun h => nomatch h⟩, fun x hx => nomatch hx⟩
    (fun j σ H' _ ⟨_, _, _, _, _, sm, _⟩ => sm.seq hS) ?_ ?_
  · walk_at "run"; exact h
  · rintro j x σ H3 hj ⟨x5, x6, f, gs, rfl, sm, hs, hd, P, nd, hlen, st, gb⟩
    obtain ⟨c, rfl⟩ : ∃ c, x = V.int c := by
      rw [List.getElem?_map] at hj
      cases e : cs[j]? with
      | none => rw [e] at hj; cases hj
      | some c => rw [e] at hj; exact ⟨c, (Option.some.inj hj).symm⟩
    unfold t_law_seated_b1
    refine asg_step (v := .int (guestI c b)) (H' := H3) (fun R h => ?_) ?_
    · walk_at "run"; unfold sp_law_guest_by; walk_at "run"; exact h
    walk_at "nxt"
    refine if_step (b := decide (guestI c b ∉ gs ∧ gs.length + 1 < n)) (H' := H3) (fun R h => ?_) (fun e => ?_) (fun e => ?_)
    · walk_at "run"
      refine ⟨_, DGet.k (k := .inl (guestI c b)) hd, ?_⟩
      rw [dG_val]
      by_cases hm : guestI c b ∈ gs
      · rw [decide_eq_true hm]; walk_at "run"
        rw [decide_eq_false (by simp [hm])] at h; exact h
      · rw [decide_eq_false hm]; walk_at "run"
        refine ⟨_, hd, ?_⟩
        rw [dG_len]
        have : decide ((gs.length : Int) < (n : Int) - 1) = decide (guestI c b ∉ gs ∧ gs.length + 1 < n) := decide_eq_decide.mpr ⟨fun h => ⟨hm, by omega⟩, fun h => by omega⟩
        rw [this]; exact h
    · obtain ⟨g1, g2⟩ := of_decide_eq_true e
      refine dput_step (H' := H3) (k := .inl (guestI c b)) (v := .bl true) (fun R h => h) (fun R h => ⟨_, rfl, h⟩) (fun R h => ⟨_, rfl, h⟩) hd (by rw [dG_len]; exact sizel (by omega)) ?_
      rw [dG_put g1]
      walk_at "nxt"
      refine drop_any (fun v H' => ∃ f', Ring.Path n (hm n) f' ∧ (∀ x, Ring.Sits n f' x ↔ Ring.Sits n f x ∨ x = guestI c b) ∧ H' = upd (upd H3 d (.dK (dG (gs ++ [guestI c b])))) s (.lst (row n f'))) (fun R h => ?_) ?_
      · walk_at "run"; unfold sp_law_put
        exact ⟨s, n, f, guestI c b, rfl, by rw [upd_ne hsd]; exact hs, h2, hn, P, Ring.em_pos.mp (by have := Ring.em_of hh P nd st; omega), fun z => g1 ((st _).mp z), fun f' P' st' => h _ _ ⟨f', P', st', rfl⟩⟩
      rintro v H4 ⟨f', P', st', rfl⟩
      have hsH : H s = none := f1
      have hdH : H d = none := s1.free f2
      refine ⟨_, _, f', gs ++ [guestI c b], rfl, fun b' o hb => ?_, upd_same, by rw [upd_ne (fun z => hsd z.symm)]; exact upd_same, P', ?_, by rw [List.length_append]; simp; omega, fun x => ?_, fun x hx => ?_⟩
      · rw [upd_ne (fun z => by rw [z, hsH] at hb; cases hb), upd_ne (fun z => by rw [z, hdH] at hb; cases hb)]
        exact sm _ _ hb
      · exact List.nodup_append.mpr ⟨nd, by simp, fun x hx y hy => by simp at hy; subst hy; intro z; exact g1 (z ▸ hx)⟩
      · rw [st' x, st x, List.mem_append, List.mem_singleton]
      · rcases List.mem_append.mp hx with h | h
        · exact gb x h
        · exact ⟨c, List.mem_singleton.mp h⟩
    · exact ⟨_, _, f, gs, rfl, sm, hs, hd, P, nd, hlen, st, gb⟩
  · rintro σ H3 ⟨x5, x6, f, gs, rfl, sm, hs, hd, P, nd, hlen, st, gb⟩
    walk_at "run"
    exact q _ _ f gs sm hs f1 P nd hlen st gb
theorem len_law_spot (h : sp_law_spot K C vs H Q E) : vs.length = (["_law_seats", "_law_cell"] : List Str).length := by
  unfold sp_law_spot at h
  repeat (obtain ⟨_, h⟩ := h)
  subst_vars; rfl
theorem pure_law_spot (h : sp_law_spot K C vs H Q E) : t_law_spot K C E { nx := fun _ H' => Q .non H', rt := Q } (start ["_law_seats", "_law_cell", "_law_filled", "_law_at"] vs) H := by
  obtain ⟨a, n, f, c, rfl, hS, h1, hn, q⟩ := h
  show tSeq _ _ _ [some (.ref a), some (.int c), none, none] H
  refine asg_any (fun v H' => Same H H' ∧ ∃ (d : Addr) (ps : List Nat), v = .ref d ∧ H' d = some (.lst (ps.map fun p => V.int (p : Nat))) ∧ ∀ p ∈ ps, p < n) (fun R h => ?_) ?_
  · refine lc_rng1 (j := n) (n := n) (H' := H) (fun R h => ?_) rfl (by omega) (fun x => rfl) (fun i acc => ∃ ps : List Nat, acc = ps.map (fun p => V.int (p : Nat)) ∧ ∀ p ∈ ps, p < n) ⟨[], rfl, fun _ h => nomatch h⟩ ?_ ?_
    · walk_at "run"; exact ⟨_, .inl hS, by rw [row_len]; exact h⟩
    · rintro i acc H2 hi sm ⟨ps, rfl, hp⟩
      refine ⟨!decide (ov (f i) = .non), fun R h => ?_, fun _ => ⟨_, fun R h => ?_, ps ++ [i], by rw [List.map_append]; rfl, fun p h => ?_⟩, fun _ => ⟨ps, rfl, hp⟩⟩
      · show tB (tNotN (tOp (rIxL K) (tVar 0) (tVar 3))) [some (.ref a), some (.int c), none, some (.int (i : Nat))] H2 R
        walk_at "run"; exact ⟨_, sm.seq hS, _, row_at hi, h⟩
      · exact ⟨_, rfl, h⟩
      · rcases List.mem_append.mp h with h | h
        · exact hp p h
        · rw [List.mem_singleton.mp h]; exact hi
    · rintro D H3 acc hD sm ha ⟨ps, rfl, hp⟩ hl
      exact h _ _ ⟨sm, D, ps, rfl, ha, hp⟩
  rintro v H1 ⟨s1, d, ps, rfl, hd, hp⟩
  walk_at "nxt"
  refine if_step (b := decide (c % 2 = 1 ∧ 0 < ps.length)) (H' := H1) (fun R h => ?_) (fun e => ?_) (fun e => ?_)
  · walk_at "run"
    by_cases hc : c % 2 = 1
    · rw [if_pos hc]
      refine ⟨_, .inl (.inl (.inl hd)), ?_⟩
      rw [List.length_map]
      rw [show decide ((ps.length : Int) > 0) = decide (c % 2 = 1 ∧ 0 < ps.length) from decide_eq_decide.mpr ⟨fun h => ⟨hc, by omega⟩, fun h => by omega⟩]
      exact h
    · rw [if_neg hc]
      rw [decide_eq_false (by omega)] at h; exact h
  · obtain ⟨e1, e2⟩ := of_decide_eq_true e
    walk_at "run"
    have hlt : (c / 2 % (ps.length : Int)).toNat < ps.length := by
      have := Int.emod_nonneg (c / 2) (b := (ps.length : Int)) (by omega)
      have := Int.emod_lt_of_pos (c / 2) (b := (ps.length : Int)) (by omega)
      omega
    refine ⟨_, .inl (.inl (.inl hd)), ?_⟩
    rw [List.length_map]
    refine ⟨by omega, _, .inl (.inl hd), .int (ps[(c / 2 % (ps.length : Int)).toNat] : Nat), at_of (j := (c / 2 % (ps.length : Int)).toNat) ?_ ?_, q _ _ s1 (hp _ (List.getElem_mem hlt))⟩
    · have := Int.emod_nonneg (c / 2) (b := (ps.length : Int)) (by omega)
      omega
    · rw [List.getElem?_map, List.getElem?_eq_getElem hlt]; rfl
  · walk_at "run"
    refine ⟨_, .inl (s1.seq hS), ?_⟩
    rw [row_len]
    refine ⟨by omega, ?_⟩
    have h2 := Int.emod_nonneg (c / 2) (b := (n : Int)) (by omega)
    have h3 := Int.emod_lt_of_pos (c / 2) (b := (n : Int)) (by omega)
    have := q H1 (c / 2 % (n : Int)).toNat s1 (by omega)
    rw [show (((c / 2 % (n : Int)).toNat : Nat) : Int) = c / 2 % (n : Int) by omega] at this
    exact this
theorem len_law_spoiled (h : sp_law_spoiled K C vs H Q E) : vs.length = (["_law_seats", "_law_way", "_law_one", "_law_two", "_law_base"] : List Str).length := by
  unfold sp_law_spoiled at h
  repeat (obtain ⟨_, h⟩ := h)
  subst_vars; rfl
theorem pure_law_spoiled (h : sp_law_spoiled K C vs H Q E) : t_law_spoiled K C E { nx := fun _ H' => Q .non H', rt := Q } (start ["_law_seats", "_law_way", "_law_one", "_law_two", "_law_base", "_law_many", "_law_made", "_law_mark", "_law_at"] vs) H := by
  obtain ⟨a, n, f, w, b, one, two, rfl, hS, hn, h1, h2, q⟩ := h
  have hn0 : 0 < n := by omega
  show tSeq _ _ _ [some (.ref a), some (.int w), some (.int one), some (.int two), some (.int b), none, none, none, none] H
  refine asg_step (v := .int n) (H' := H) (fun R h => ?_) ?_
  · walk_at "run"; exact ⟨_, .inl hS, by rw [row_len]; exact h⟩
  walk_at "nxt"
  refine asg_any (fun v H' => Same H H' ∧ ∃ s, v = .ref s ∧ H' s = some (.lst (row n f)) ∧ H s = none) (fun R h => ?_) ?_
  · walk_at "run"; exact ⟨_, .inl hS, fun p hp => h _ _ ⟨same_new hp, p, rfl, upd_same, hp⟩⟩
  rintro v H1 ⟨s1, s, rfl, hs, h0⟩
  have sup : ∀ (H2 : Hp) (o : HO), Same H H2 → Same H (upd H2 s o) := fun H2 o sm b' o' hb => by
    rw [upd_ne (fun z => by rw [z, h0] at hb; cases hb)]; exact sm _ _ hb
  walk_at "nxt"
  refine if_join (b := decide (w = 2)) (fun σ' H' => ∃ t : Nat, t < n ∧ σ' = [some (.ref a), some (.int w), some (.int one), some (.int t), some (.int b), some (.int n), some (.ref s), none, none] ∧ Same H1 H') (fun R h => ?_) (fun e H2 s2 D _ _ _ nx => ?_) (fun e H2 s2 D _ _ _ nx => ?_) ?_
  · walk_at "run"; exact h _ (Same.refl _)
  · refine asg_step (v := .int (Ring.nx n one)) (H' := H2) (fun R h => ?_) (nx _ _ ⟨_, Ring.nx_lt h1, rfl, s2⟩)
    walk_at "run"; exact ⟨by omega, by rw [nx_is h1]; exact h⟩
  · exact nx _ _ ⟨_, h2, rfl, s2⟩
  rintro σ1 H2 ⟨t, ht, rfl, s2⟩
  replace hs := s2 _ _ hs
  replace s1 := s1.trans s2
  walk_at "nxt"
  refine if_join (b := decide (w = 1 ∨ w = 2)) (fun σ' H' => ∃ f', σ' = [some (.ref a), some (.int w), some (.int one), some (.int t), some (.int b), some (.int n), some (.ref s), none, none] ∧ Same H H' ∧ H' s = some (.lst (row n f'))) (fun R h => ?_) (fun e H3 s3 D _ _ _ nx => ?_) (fun e H3 s3 D _ _ _ nx => ?_) ?_
  · walk_at "run"
    by_cases e : w = 1
    · rw [if_pos e]; rw [decide_eq_true (.inl e)] at h; exact h _ (Same.refl _)
    · rw [if_neg e]; rw [show decide (w = 2) = decide (w = 1 ∨ w = 2) from decide_eq_decide.mpr (by omega)]; exact h _ (Same.refl _)
  · refine set_step (H' := H3) (v := ov (f t)) (fun R h => ?_) (fun R h => ⟨_, rfl, h⟩) (fun R h => ⟨_, rfl, h⟩) (s3 _ _ hs) (row_ix h1) ?_
    · walk_at "run"; exact ⟨_, s3.seq (s1.seq hS), _, row_at ht, h⟩
    rw [row_set]
    walk_at "nxt"
    have s4 := sup _ (.lst (row n (Ring.fup f one (f t)))) (s1.trans s3)
    refine set_step (H' := upd H3 s (.lst (row n (Ring.fup f one (f t))))) (v := ov (f one)) (fun R h => ?_) (fun R h => ⟨_, rfl, h⟩) (fun R h => ⟨_, rfl, h⟩) upd_same (row_ix ht) ?_
    · walk_at "run"; exact ⟨_, s4.seq hS, _, row_at h1, h⟩
    rw [row_set]
    exact nx _ _ ⟨_, rfl, sup _ _ s4, upd_same⟩
  · exact nx _ _ ⟨_, rfl, s1.trans s3, s3 _ _ hs⟩
  rintro σ1 H3 ⟨f3, rfl, s3, e3⟩
  walk_at "nxt"
  refine if_join (b := decide (w = 4 ∨ w = 6)) (fun σ' H' => ∃ f', σ' = [some (.ref a), some (.int w), some (.int one), some (.int t), some (.int b), some (.int n), some (.ref s), none, none] ∧ Same H H' ∧ H' s = some (.lst (row n f'))) (fun R h => ?_) (fun e H4 s4 D _ _ _ nx => ?_) (fun e H4 s4 D _ _ _ nx => ?_) ?_
  · walk_at "run"
    by_cases e : w = 4
    · rw [if_pos e]; rw [decide_eq_true (.inl e)] at h; exact h _ (Same.refl _)
    · rw [if_neg e]; rw [show decide (w = 6) = decide (w = 4 ∨ w = 6) from decide_eq_decide.mpr (by omega)]; exact h _ (Same.refl _)
  · refine set_step (H' := H4) (v := ov none) (fun R h => h) (fun R h => ⟨_, rfl, h⟩) (fun R h => ⟨_, rfl, h⟩) (s4 _ _ e3) (row_ix h1) ?_
    rw [row_set]
    exact nx _ _ ⟨_, rfl, sup _ _ (s3.trans s4), upd_same⟩
  · exact nx _ _ ⟨_, rfl, s3.trans s4, s4 _ _ e3⟩
  rintro σ1 H4 ⟨f4, rfl, s4, e4⟩
  walk_at "nxt"
  refine if_join (b := decide (w = 3 ∨ w = 6)) (fun σ' H' => ∃ f', σ' = [some (.ref a), some (.int w), some (.int one), some (.int t), some (.int b), some (.int n), some (.ref s), none, none] ∧ Same H H' ∧ H' s = some (.lst (row n f'))) (fun R h => ?_) (fun e H5 s5 D _ _ _ nx => ?_) (fun e H5 s5 D _ _ _ nx => ?_) ?_
  · walk_at "run"
    by_cases e : w = 3
    · rw [if_pos e]; rw [decide_eq_true (.inl e)] at h; exact h _ (Same.refl _)
    · rw [if_neg e]; rw [show decide (w = 6) = decide (w = 3 ∨ w = 6) from decide_eq_decide.mpr (by omega)]; exact h _ (Same.refl _)
  · refine set_step (H' := H5) (v := ov (f one)) (fun R h => ?_) (fun R h => ⟨_, rfl, h⟩) (fun R h => ⟨_, rfl, h⟩) (s5 _ _ e4) (row_ix ht) ?_
    · walk_at "run"; exact ⟨_, s5.seq (s4.seq hS), _, row_at h1, h⟩
    rw [row_set]
    exact nx _ _ ⟨_, rfl, sup _ _ (s4.trans s5), upd_same⟩
  · exact nx _ _ ⟨_, rfl, s4.trans s5, s5 _ _ e4⟩
  rintro σ1 H5 ⟨f5, rfl, s5, e5⟩
  walk_at "nxt"
  refine if_join (b := decide (w = 5)) (fun σ' H' => ∃ f' m x, σ' = [some (.ref a), some (.int w), some (.int one), some (.int t), some (.int b), some (.int n), some (.ref s), m, x] ∧ Same H H' ∧ H' s = some (.lst (row n f'))) (fun R h => ?_) (fun e H6 s6 D _ _ _ nx => ?_) (fun e H6 s6 D _ _ _ nx => ?_) ?_
  · walk_at "run"; exact h _ (Same.refl _)
  · refine asg_step (v := .int ((b * 40503 + b / 65536) % 65536)) (H' := H6) (fun R h => ?_) ?_
    · walk_at "run"; exact h
    walk_at "nxt"
    refine for_rng1 (n := n) (j := n) (H' := H6) (fun R h => ?_) rfl (by omega) (fun k σ' H' => ∃ f' x, σ' = [some (.ref a), some (.int w), some (.int one), some (.int t), some (.int b), some (.int n), some (.ref s), some (.int ((b * 40503 + b / 65536) % 65536)), x] ∧ Same H H' ∧ H' s = some (.lst (row n f'))) ⟨_, _, rfl, s5.trans s6, s6 _ _ e5⟩ ?_ (fun σ' H' ⟨f', x, e, sm, hs'⟩ => nx _ _ ⟨f', _, x, e, sm, hs'⟩)
    · walk_at "run"; exact h
    rintro k σ' H' hk ⟨f', x, rfl, sm, hs'⟩
    unfold t_law_spoiled_b1
    refine if_step (b := decide (ov (f' k) = .non)) (H' := H') (fun R h => ?_) (fun _ => ?_) (fun _ => ⟨_, _, rfl, sm, hs'⟩)
    · walk_at "run"; exact ⟨_, .inl (.inl hs'), _, row_at hk, h⟩
    refine set_step (H' := H') (v := ov (some (b + 65536 * (((k : Int) - (b * 40503 + b / 65536) % 65536) % 65536)))) (fun R h => ?_) (fun R h => ⟨_, rfl, h⟩) (fun R h => ⟨_, rfl, h⟩) hs' (row_ix hk) ?_
    · walk_at "run"; exact h
    rw [row_set]
    exact ⟨_, _, rfl, sup _ _ sm, upd_same⟩
  · exact nx _ _ ⟨_, _, _, rfl, s5.trans s6, s6 _ _ e5⟩
  rintro σ1 H6 ⟨f6, m, x, rfl, s6, e6⟩
  walk_at "nxt"
  refine if_join (b := decide (w = 7)) (fun σ' H' => ∃ s f', σ' = [some (.ref a), some (.int w), some (.int one), some (.int t), some (.int b), some (.int n), some (.ref s), m, x] ∧ Same H H' ∧ H' s = some (.lst (row n f'))) (fun R h => ?_) (fun e H7 s7 D _ _ _ nx => ?_) (fun e H7 s7 D _ _ _ nx => ?_) ?_
  · walk_at "run"; exact h _ (Same.refl _)
  · refine asg_any (fun v H' => Same H7 H' ∧ ∃ s, v = .ref s ∧ H' s = some (.lst (row n (fun p => if p = 0 then f (n - 1) else f (p - 1))))) (fun R h => ?_) ?_
    · walk_at "run"
      refine ⟨_, s7.seq (s6.seq hS), fun p1 hp1 => ?_⟩
      rw [cut_last (by omega)]
      refine ⟨_, (same_new hp1).seq (s7.seq (s6.seq hS)), fun p2 hp2 => ?_⟩
      rw [cut_init (by omega)]
      have ne : p1 ≠ p2 := fun z => by rw [z] at hp2; rw [← z, upd_same] at hp2; cases hp2
      refine ⟨_, by rw [upd_ne ne]; exact upd_same, _, upd_same, by rw [row_len]; exact sizes (by simp; omega), fun p3 hp3 => ?_⟩
      refine h _ _ ⟨((same_new hp1).trans (same_new hp2)).trans (same_new hp3), p3, rfl, ?_⟩
      rw [upd_same, List.singleton_append, row_turn (by omega)]
    rintro v H8 ⟨s8, s', rfl, e8⟩
    exact nx _ _ ⟨_, _, rfl, (s6.trans s7).trans s8, e8⟩
  · exact nx _ _ ⟨_, _, rfl, s6.trans s7, s7 _ _ e6⟩
  rintro σ1 H7 ⟨s', f7, rfl, s7, e7⟩
  walk_at "run"
  exact q _ _ _ s7 e7
theorem len_law_settled (h : sp_law_settled K C vs H Q E) : vs.length = (["_law_seats"] : List Str).length := by
  unfold sp_law_settled at h
  repeat (obtain ⟨_, h⟩ := h)
  subst_vars; rfl
theorem pure_law_settled (h : sp_law_settled K C vs H Q E) : t_law_settled K C E { nx := fun _ H' => Q .non H', rt := Q } (start ["_law_seats", "_law_many", "_law_at", "_law_guest", "_law_spot_here"] vs) H := by
  obtain ⟨a, n, f, rfl, hS, hn, q⟩ := h
  show tSeq _ _ _ [some (.ref a), none, none, none, none] H
  refine asg_step (v := .int n) (H' := H) (fun R h => ?_) ?_
  · walk_at "run"; exact ⟨_, .inl hS, by rw [row_len]; exact h⟩
  walk_at "nxt"
  refine for_rng1 (n := n) (j := n) (H' := H) (fun R h => ?_) rfl (by omega) (fun k σ H' => H' = H ∧ ∃ x y z, σ = [some (.ref a), some (.int n), x, y, z] ∧ ∀ p, p < k → ∀ g, f p = some g → Ring.Car n (hm n) f g p) ⟨rfl, _, _, _, rfl, fun p hp => by omega⟩ ?_ ?_
  · walk_at "run"; exact h
  · rintro k σ H' hk ⟨rfl, x, y, z, rfl, ih⟩
    have hn0 : 0 < n := by omega
    have hh := hm_lt hn0
    unfold t_law_settled_b2
    refine asg_step (v := ov (f k)) (H' := H') (fun R h => ?_) ?_
    · walk_at "run"; exact ⟨_, hS, _, row_at hk, h⟩
    walk_at "nxt"
    cases hy : f k with
    | none =>
      refine if_step (b := false) (H' := H') (fun R h => ?_) (fun z => nomatch z) (fun _ => ?_)
      · walk_at "run"; exact h
      refine ⟨rfl, _, _, _, rfl, fun p hp g hg => ?_⟩
      by_cases w : p = k
      · rw [w, hy] at hg; cases hg
      · exact ih p (by omega) g hg
    | some g =>
      refine if_step (b := true) (H' := H') (fun R h => ?_) (fun _ => ?_) (fun z => nomatch z)
      · walk_at "run"; exact h
      refine asg_step (v := .int (hm n g)) (H' := H') (fun R h => ?_) ?_
      · walk_at "run"; unfold sp_law_home; walk_at "run"; exact ⟨by omega, by rw [hm_is hn0]; exact h⟩
      walk_at "nxt"
      refine while_step (fun m σ H2 => H2 = H' ∧ ∃ (s : Nat), σ = [some (.ref a), some (.int n), some (.int (k : Nat)), some (.int g), some (.int s)] ∧ s < n ∧ Ring.Car n (hm n) f g s ∧ Ring.far n (hm n g) s ≤ Ring.far n (hm n g) k ∧ m = Ring.far n (hm n g) k - Ring.far n (hm n g) s)
        ⟨_, rfl, hm n g, rfl, hh g, Ring.car_home, by rw [Ring.far_self]; omega, rfl⟩ ?_
      rintro m σ H2 ⟨rfl, s, rfl, hs, cs, hle, rfl⟩
      refine ⟨!decide ((s : Int) = (k : Int)), fun R h => ?_, fun e => ?_, fun e => ?_⟩
      · walk_at "run"; exact h
      · have hsp : s ≠ k := fun z => by rw [z] at e; simp at e
        have hlt : Ring.far n (hm n g) s < Ring.far n (hm n g) k := by
          have : Ring.far n (hm n g) s ≠ Ring.far n (hm n g) k := fun z => hsp (Ring.far_inj (hh g) hs hk z)
          omega
        unfold t_law_settled_b1
        cases hf : f s with
        | none =>
          refine if_step (b := true) (H' := H2) (fun R h => ?_) (fun _ => ?_) (fun z => nomatch z)
          · walk_at "run"; exact ⟨_, hS, _, row_at hs, by rw [hf]; exact h⟩
          walk_at "run"
          refine q false ⟨(fun z => nomatch z), fun c => ?_⟩
          obtain ⟨y, h1, _⟩ := c.2 k hk g hy s hs hlt
          rw [hf] at h1; cases h1
        | some y =>
          refine if_step (b := !decide (Ring.Ah n (hm n) y g s)) (H' := H2) (fun R h => ?_) (fun e1 => ?_) (fun e1 => ?_)
          · walk_at "run"; refine ⟨_, hS, _, row_at hs, ?_⟩
            rw [hf]; walk_at "run"
            refine ⟨_, hS, _, row_at hs, ?_⟩
            rw [hf]; unfold sp_law_ahead; walk_at "run"
            rw [ahead_is hs]; exact ⟨by omega, h⟩
          · walk_at "run"
            refine q false ⟨(fun z => nomatch z), fun c => ?_⟩
            obtain ⟨y', h1, h2⟩ := c.2 k hk g hy s hs hlt
            rw [hf] at h1; cases h1
            simp [h2] at e1
          · have a1 : Ring.Ah n (hm n) y g s := by simpa using e1
            have w : Ring.nx n s ≠ hm n g := fun z => by
              have := Ring.far_last (hh g) hs z
              have := Ring.far_lt (hh g) hk
              omega
            have hx := Ring.far_nx (hh g) hs w
            walk_at "nxt"
            refine asg_step (v := .int (Ring.nx n s)) (H' := H2) (fun R h => ?_) ?_
            · walk_at "run"; exact ⟨by omega, by rw [nx_is hs]; exact h⟩
            exact ⟨_, by omega, rfl, _, rfl, Ring.nx_lt hs, Ring.car_nx hh hs cs hf a1, by omega, rfl⟩
      · have hsp : s = k := by simp at e; omega
        subst hsp
        refine ⟨rfl, _, _, _, rfl, fun p hp g' hg => ?_⟩
        by_cases w : p = s
        · rw [w, hy] at hg; cases hg; rw [w]; exact cs
        · exact ih p (by omega) g' hg
  · rintro σ H' ⟨rfl, x, y, z, rfl, ih⟩
    walk_at "run"
    refine ⟨_, .inl hS, rfl, row_flat, ?_⟩
    refine q (inV .non (row n f)) ?_
    rw [in_none]
    exact ⟨fun e => ⟨e, fun p hp g hg => ih p hp g hg⟩, fun c => c.1⟩
theorem len_law_strained (h : sp_law_strained K C vs H Q E) : vs.length = (["_law_found", "_law_seats"] : List Str).length := by
  unfold sp_law_strained at h
  repeat (obtain ⟨_, h⟩ := h)
  subst_vars; rfl
theorem pure_law_strained (h : sp_law_strained K C vs H Q E) : t_law_strained K C E { nx := fun _ H' => Q .non H', rt := Q } (start ["_law_found", "_law_seats", "_law_together", "_law_farthest", "_law_squares", "_law_at", "_law_far", "_law_one"] vs) H := by
  obtain ⟨a, t, n, f, rfl, hS, hn, ht, q⟩ := h
  show tSeq _ _ _ [some (.ref t), some (.ref a), none, none, none, none, none, none] H
  refine asg_step (v := .int 0) (H' := H) (fun R h => h) ?_
  walk_at "nxt"
  refine asg_step (v := .int 0) (H' := H) (fun R h => h) ?_
  walk_at "nxt"
  refine asg_step (v := .int 0) (H' := H) (fun R h => h) ?_
  walk_at "nxt"
  refine for_rng1 (n := n) (j := n) (H' := H) (fun R h => ?_) rfl (by omega) (fun k σ H' => H' = H ∧ ∃ x y, σ = [some (.ref t), some (.ref a), some (.int (sT n f k)), some (.int (sM n f k)), some (.int (sS n f k)), x, y, none])
    ⟨rfl, _, _, rfl⟩ ?_ ?_
  · walk_at "run"; exact ⟨_, .inl hS, by rw [row_len]; exact h⟩
  · rintro k σ H' hk ⟨rfl, x, y, rfl⟩
    unfold t_law_strained_b1
    cases hy : f k with
    | none =>
      refine if_step (b := false) (H' := H') (fun R h => ?_) (fun z => nomatch z) (fun _ => ?_)
      · walk_at "run"; exact ⟨_, hS, _, row_at hk, by rw [hy]; exact h⟩
      refine ⟨rfl, some (.int k), y, ?_⟩
      simp only [sT, sM, sS, hy]
      rfl
    | some g =>
      refine if_step (b := true) (H' := H') (fun R h => ?_) (fun _ => ?_) (fun z => nomatch z)
      · walk_at "run"; exact ⟨_, hS, _, row_at hk, by rw [hy]; exact h⟩
      refine asg_step (v := .int (farI g k n)) (H' := H') (fun R h => ?_) ?_
      · walk_at "run"; refine ⟨_, hS, _, row_at hk, _, .inl hS, ?_⟩
        rw [hy, row_len]
        unfold sp_law_home; walk_at "run"
        refine ⟨by omega, _, .inl hS, ?_⟩
        rw [row_len]; exact ⟨by omega, h⟩
      walk_at "nxt"
      refine asg_step (v := .int (sT n f k + farI g k n)) (H' := H') (fun R h => ?_) ?_
      · walk_at "run"; exact h
      walk_at "nxt"
      refine asg_step (v := .int (if farI g k n > sM n f k then farI g k n else sM n f k)) (H' := H') (fun R h => ?_) ?_
      · walk_at "run"; exact h
      walk_at "nxt"
      refine asg_step (v := .int (sS n f k + farI g k n * farI g k n)) (H' := H') (fun R h => ?_) ?_
      · walk_at "run"
        have h0 := farI_lo (g := g) (p := k) (n := n) (by omega)
        have h1 := farI_hi (g := g) (p := k) (n := n) (by omega)
        exact ⟨.inl ⟨by omega, by omega⟩, h⟩
      refine ⟨rfl, some (.int k), some (.int (farI g k n)), ?_⟩
      simp only [sT, sM, sS, hy]
      rfl
  · rintro σ H' ⟨rfl, x, y, rfl⟩
    generalize sT n f n = T at *
    generalize sM n f n = M at *
    generalize sS n f n = S at *
    have hT : SqT K H' t [.int T, .int M, .int S] := .inl (.inl ht)
    walk_at "nxt"
    refine if_step (b := false) (H' := H') (fun R h => ?_) (fun z => nomatch z) (fun _ => ?_)
    · walk_at "run"; refine ⟨_, tyOf_at ht rfl, ?_⟩
      walk_at "run"
      exact ⟨_, .inr hT, h⟩
    walk_at "nxt"
    refine for_tp (a := t) (H' := H') (fun R h => ?_) hT (fun k σ H2 => H2 = H' ∧ ∃ z, σ = [some (.ref t), some (.ref a), some (.int T), some (.int M), some (.int S), x, y, z]) ⟨rfl, _, rfl⟩ (fun k σ H2 _ h => h.1 ▸ hT) ?_ ?_
    · walk_at "run"; exact h
    · rintro k v σ H2 hk ⟨rfl, z, rfl⟩
      have hv : isWh v = true ∧ ∃ s, tyOf H2 v = some s := by
        have := List.mem_of_getElem? hk
        simp only [List.mem_cons, List.not_mem_nil, or_false] at this
        rcases this with rfl | rfl | rfl <;> exact ⟨rfl, _, rfl⟩
      obtain ⟨hv, s, hs⟩ := hv
      unfold t_law_strained_b2
      refine if_step (b := false) (H' := H2) (fun R h => ?_) (fun z => nomatch z) (fun _ => ⟨rfl, _, rfl⟩)
      walk_at "run"; unfold sp_law_whole
      exact ⟨_, _, rfl, hs, by rw [hv]; exact ⟨_, rfl, h⟩⟩
    · rintro σ H2 ⟨rfl, z, rfl⟩
      walk_at "run"
      refine ⟨sizes (by decide), fun p hp => ?_⟩
      exact eqD_tup (seqT_of (same_new hp) hT) (.inl (.inl upd_same)) rfl (q _ (same_new hp))
theorem len_law (h : sp_law K C vs H Q E) : vs.length = (["_law_script"] : List Str).length := by
  unfold sp_law sp_law0 at h
  repeat (obtain ⟨_, h⟩ := h)
  subst_vars; rfl
theorem pure_law (h : sp_law K C vs H Q E) : t_law K C E { nx := fun _ H' => Q .non H', rt := Q } (start ["_law_script", "_law_many", "_law_base", "_law_seats", "_law_one", "_law_two", "_law_spoiled_here", "_law_some", "_law_handed", "_law_found"] vs) H := by
  obtain ⟨a, ns, rfl, hS, hl, q⟩ := h
  show tSeq _ _ _ [some (.ref a), none, none, none, none, none, none, none, none, none] H
  obtain ⟨n, hn⟩ : ∃ n : Nat, manyI (cellI ns 0) = (n : Int) := ⟨(manyI (cellI ns 0)).toNat, by have := manyI_ok (cellI ns 0); omega⟩
  obtain ⟨n2, n3⟩ : 2 ≤ n ∧ n ≤ 1024 := by have := manyI_ok (cellI ns 0); omega
  refine asg_step (v := .int n) (H' := H) (fun R h => ?_) ?_
  · walk_at "run"; unfold sp_law_many_by sp_law_cell_at; walk_at "run"
    exact ⟨ns, hS, by rw [hn]; exact h⟩
  walk_at "nxt"
  obtain ⟨b, hb⟩ : ∃ b, b = cellI ns 1 % (999999999999999999999999999999999999999999999990000000000000) := ⟨_, rfl⟩
  refine asg_step (v := .int b) (H' := H) (fun R h => ?_) ?_
  · walk_at "run"; unfold sp_law_cell_at; walk_at "run"
    refine ⟨ns, hS, ?_⟩
    rw [← hb]; exact h
  walk_at "nxt"
  refine asg_any (fun v H' => Same H H' ∧ ∃ s f, v = .ref s ∧ H' s = some (.lst (row n f))) (fun R h => ?_) ?_
  · walk_at "run"
    refine ⟨_, hS, fun p hp => ?_⟩
    obtain ⟨cs, hc, hcl⟩ := cut_ints (ns := ns) (lo := some 5) (hi := some 63)
    rw [hc]; unfold sp_law_seated
    exact ⟨p, cs, b, n, rfl, .inl (.inl upd_same), by omega, n2, n3, fun H' s f gs sm hs _ _ _ _ _ _ => h _ _ ⟨(same_new hp).trans sm, s, f, rfl, hs⟩⟩
  rintro v H1 ⟨s1, s, f, rfl, hs⟩
  have hS1 : SqL K H1 s (row n f) := .inl (.inl hs)
  walk_at "nxt"
  refine asg_any (fun v H' => Same H1 H' ∧ ∃ p : Nat, v = .int p ∧ p < n) (fun R h => ?_) ?_
  · walk_at "run"; unfold sp_law_cell_at; walk_at "run"
    refine ⟨ns, s1.seq hS, ?_⟩
    unfold sp_law_spot
    exact ⟨s, n, f, _, rfl, hS1, by omega, n3, fun H' p sm hp => h _ _ ⟨sm, p, rfl, hp⟩⟩
  rintro v H2 ⟨s2, one, rfl, h1⟩
  walk_at "nxt"
  refine asg_any (fun v H' => Same H2 H' ∧ ∃ p : Nat, v = .int p ∧ p < n) (fun R h => ?_) ?_
  · walk_at "run"; unfold sp_law_cell_at; walk_at "run"
    refine ⟨ns, s2.seq (s1.seq hS), ?_⟩
    unfold sp_law_spot
    exact ⟨s, n, f, _, rfl, s2.seq hS1, by omega, n3, fun H' p sm hp => h _ _ ⟨sm, p, rfl, hp⟩⟩
  rintro v H3 ⟨s3, two, rfl, h2⟩
  walk_at "nxt"
  refine asg_any (fun v H' => Same H3 H' ∧ ∃ s' f', v = .ref s' ∧ H' s' = some (.lst (row n f'))) (fun R h => ?_) ?_
  · walk_at "run"; unfold sp_law_cell_at; walk_at "run"
    refine ⟨ns, s3.seq (s2.seq (s1.seq hS)), ?_⟩
    unfold sp_law_spoiled
    exact ⟨s, n, f, _, b, one, two, rfl, s3.seq (s2.seq hS1), n3, h1, h2, fun H' s' f' sm hs' => h _ _ ⟨sm, s', f', rfl, hs'⟩⟩
  rintro v H4 ⟨s4, s', f', rfl, hs'⟩
  walk_at "nxt"
  refine for_any (fun p xs H' => Same H4 H' ∧ H' p = some (.lst [.ref s, .ref s']) ∧ xs = [.ref s, .ref s']) (fun R h => ?_) ?_
  · walk_at "run"
    exact ⟨sizes (by decide), fun p hp => h _ _ _ ⟨same_new hp, upd_same, rfl⟩⟩
  rintro p xs H5 ⟨s5, e5, rfl⟩
  refine ⟨.inl (.inl e5), fun j σ' H' => Same H5 H' ∧ ∃ x y z, σ' = [some (.ref a), some (.int n), some (.int b), some (.ref s), some (.int one), some (.int two), some (.ref s'), x, y, z], ⟨Same.refl _, _, _, _, rfl⟩, fun j σ H' _ ⟨s, _⟩ => s.seq (.inl (.inl e5)), ?_, ?_⟩
  · rintro j x σ H6 hj ⟨s6, x7, x8, x9, rfl⟩
    obtain ⟨r, g, rfl, hr⟩ : ∃ r g, x = .ref r ∧ SqL K H6 r (row n g) := by
      have := List.mem_of_getElem? hj
      simp only [List.mem_cons, List.not_mem_nil, or_false] at this
      rcases this with rfl | rfl
      · exact ⟨_, _, rfl, s6.seq (s5.seq (s4.seq (s3.seq (s2.seq hS1))))⟩
      · exact ⟨_, _, rfl, s6.seq (s5.seq (.inl (.inl hs')))⟩
    unfold t_law_b1
    refine asg_any (fun v H' => Same H6 H' ∧ ∃ l, v = .ref l ∧ H' l = some (.lst (row n g))) (fun R h => ?_) ?_
    · walk_at "run"; exact ⟨_, .inl hr, fun l hl => h _ _ ⟨same_new hl, l, rfl, upd_same⟩⟩
    rintro v H7 ⟨s7, l, rfl, hL⟩
    have hL7 : SqL K H7 l (row n g) := .inl (.inl hL)
    walk_at "nxt"
    obtain ⟨d, hd⟩ : ∃ d : Bool, d = true ↔ (∃ e, e < n ∧ g e = none) ∧ Ring.Path n (hm n) g := by
      by_cases c : (∃ e, e < n ∧ g e = none) ∧ Ring.Path n (hm n) g
      · exact ⟨true, fun _ => c, fun _ => rfl⟩
      · exact ⟨false, (fun z => nomatch z), fun z => absurd z c⟩
    have only : ∀ b : Bool, (b = true ↔ (∃ e, e < n ∧ g e = none) ∧ Ring.Path n (hm n) g) → b = d := fun b hb => Bool.eq_iff_iff.mpr (hb.trans hd.symm)
    refine asg_step (v := .bl d) (H' := H7) (fun R h => ?_) ?_
    · walk_at "run"; unfold sp_is_settled
      exact ⟨l, n, g, rfl, hL7, n3, fun b hb => by rw [only b hb]; exact h⟩
    walk_at "nxt"
    refine if_step (b := false) (H' := H7) (fun R h => ?_) (fun z => nomatch z) (fun _ => ?_)
    · walk_at "run"; unfold sp_law_settled
      refine ⟨r, n, g, rfl, s7.seq hr, n3, fun b hb => ?_⟩
      rw [only b hb]
      walk_at "run"
      have e : (!decide (d = d)) = false := by simp
      simpa using h
    walk_at "nxt"
    refine if_ext (b := false) (fun R h => ?_) (fun z => nomatch z) (fun _ H8 s8 => ?_)
    · walk_at "run"; unfold sp_strain
      refine ⟨l, n, g, rfl, hL7, n3, fun H8 t s8 ht => ?_⟩
      unfold sp_law_strained
      refine ⟨r, t, n, g, rfl, s8.seq (s7.seq hr), n3, ht, fun H9 s9 => ?_⟩
      refine ⟨true, rfl, ?_⟩
      rw [if_neg (by decide)]
      exact neD_lst (s9.seq (s8.seq hL7)) (s9.seq (s8.seq (s7.seq hr))) row_flD ⟨_, rfl, h _ (s8.trans s9)⟩
    exact ⟨s6.trans (s7.trans s8), _, _, _, rfl⟩
  · rintro σ' H6 ⟨s6, x, y, z, rfl⟩
    walk_at "run"; exact q H6
end
end RS
namespace RS
open PySem PySem.Spec PyProof.Rows L2
def topS (i : Nat) : Stmt := PySem.Challenge.pw_ringseat_k04_settled.main.body.getD i (.Pass ⟨0, 0, 0, 0⟩)
/-- the built-in names that the text reads are still the built-in ones -/
structure Bl (mg : Str → Option Value) : Prop where
  bool : mg "bool" = none
  enumerate : mg "enumerate" = none
  int : mg "int" = none
  isinstance : mg "isinstance" = none
  len : mg "len" = none
  list : mg "list" = none
  max : mg "max" = none
  range : mg "range" = none
  tuple : mg "tuple" = none
abbrev s_home : Stmt := topS 1
theorem sc_home : FnScope ["guest", "many"] ["guest", "many"] (defScope s_home) := ⟨rfl, rfl, rfl, by decide +kernel, rfl, by decide +kernel, by decide +kernel⟩
theorem ok_home {P : Program} {w : World} {K : PySem.W.Frag} {mg : Str → Option Value} {base : Heap} {C : Cs} {f : Addr} {fd : FuncData} (F : Fun K "home" "home" s_home f fd) (B : Bl mg) :
    FnOk P w K mg base CX0 1 f fd ["guest", "many"] (sp_home K C) := by
  refine F.ok sc_home (fun vs H Q E h => len_home h) (fun cdv A outer s H vs Q E hr h => ⟨t_home K C E, ?_, pure_home h⟩)
  have hu := hu_of hr
  exact (pss_one (ps_ret (pe_op op_mod (pe_op op_mod (pe_op op_add (pe_op op_mulL (pv 0) pe_int) (pe_op op_fdiv (pv 0) pe_int)) pe_int) (pv 1))))
theorem cal_home {P : Program} {w : World} {K : PySem.W.Frag} {mg : Str → Option Value} {base : Heap} {C : Cs} (D : Def K mg "home" s_home) (B : Bl mg) :
    Cal P w K mg base CX0 1 "home" ["guest", "many"] (sp_home K C) := by
  obtain ⟨f, fd, F, hm⟩ := D.ex
  exact ⟨f, fd, ok_home F B, hm, F.kp, F.binds (ps := ["guest", "many"]) fun _ _ _ _ _ _ us hl => match us, hl with | [_, _], _ => rfl⟩
abbrev s_carried : Stmt := topS 2
theorem sc_carried : FnScope ["guest", "at", "many"] ["guest", "at", "many"] (defScope s_carried) := ⟨rfl, rfl, rfl, by decide +kernel, rfl, by decide +kernel, by decide +kernel⟩
theorem ok_carried {P : Program} {w : World} {K : PySem.W.Frag} {mg : Str → Option Value} {base : Heap} {C : Cs} {f : Addr} {fd : FuncData} (F : Fun K "carried" "carried" s_carried f fd) (B : Bl mg) (c_home : Cal P w K mg base CX0 1 "home" ["guest", "many"] (sp_home K C)) :
    FnOk P w K mg base CX0 2 f fd ["guest", "at", "many"] (sp_carried K C) := by
  refine F.ok sc_carried (fun vs H Q E h => len_carried h) (fun cdv A outer s H vs Q E hr h => ⟨t_carried K C E, ?_, pure_carried h⟩)
  have hu := hu_of hr
  exact (pss_one (ps_ret (pe_op op_mod (pe_op op_sub (pv 1) (pe_fn c_home (hr.mono (by decide)) pass0 (pa_cons (pv 0) (pa_cons (pv 2) pa_nil)))) (pv 2))))
theorem cal_carried {P : Program} {w : World} {K : PySem.W.Frag} {mg : Str → Option Value} {base : Heap} {C : Cs} (D : Def K mg "carried" s_carried) (B : Bl mg) (c_home : Cal P w K mg base CX0 1 "home" ["guest", "many"] (sp_home K C)) :
    Cal P w K mg base CX0 2 "carried" ["guest", "at", "many"] (sp_carried K C) := by
  obtain ⟨f, fd, F, hm⟩ := D.ex
  exact ⟨f, fd, ok_carried F B c_home, hm, F.kp, F.binds (ps := ["guest", "at", "many"]) fun _ _ _ _ _ _ us hl => match us, hl with | [_, _, _], _ => rfl⟩
abbrev s_ahead : Stmt := topS 3
theorem sc_ahead : FnScope ["one", "other", "at", "many", "here", "there"] ["one", "other", "at", "many"] (defScope s_ahead) := ⟨rfl, rfl, rfl, by decide +kernel, rfl, by decide +kernel, by decide +kernel⟩
theorem ok_ahead {P : Program} {w : World} {K : PySem.W.Frag} {mg : Str → Option Value} {base : Heap} {C : Cs} {f : Addr} {fd : FuncData} (F : Fun K "ahead" "ahead" s_ahead f fd) (B : Bl mg) (c_carried : Cal P w K mg base CX0 2 "carried" ["guest", "at", "many"] (sp_carried K C)) :
    FnOk P w K mg base CX0 3 f fd ["one", "other", "at", "many"] (sp_ahead K C) := by
  refine F.ok sc_ahead (fun vs H Q E h => len_ahead h) (fun cdv A outer s H vs Q E hr h => ⟨t_ahead K C E, ?_, pure_ahead h⟩)
  have hu := hu_of hr
  exact (pss_cons (ps_set (i := 4) sc_ahead.nd rfl (.inl rfl) (pe_fn c_carried (hr.mono (by decide)) pass0 (pa_cons (pv 0) (pa_cons (pv 2) (pa_cons (pv 3) pa_nil)))))
      (pss_cons (ps_set (i := 5) sc_ahead.nd rfl (.inl rfl) (pe_fn c_carried (hr.mono (by decide)) pass0 (pa_cons (pv 1) (pa_cons (pv 2) (pa_cons (pv 3) pa_nil)))))
      (pss_cons (ps_if (pt_cmpR op_ne (pv 4) (pv 5) (nomark _)) (pss_one (ps_ret (pe_cmpR op_gt (pv 4) (pv 5) (nomark _)))) pss_nil)
      (pss_one (ps_ret (pe_cmpR op_lt (pv 0) (pv 1) (nomark _)))))))
theorem cal_ahead {P : Program} {w : World} {K : PySem.W.Frag} {mg : Str → Option Value} {base : Heap} {C : Cs} (D : Def K mg "ahead" s_ahead) (B : Bl mg) (c_carried : Cal P w K mg base CX0 2 "carried" ["guest", "at", "many"] (sp_carried K C)) :
    Cal P w K mg base CX0 3 "ahead" ["one", "other", "at", "many"] (sp_ahead K C) := by
  obtain ⟨f, fd, F, hm⟩ := D.ex
  exact ⟨f, fd, ok_ahead F B c_carried, hm, F.kp, F.binds (ps := ["one", "other", "at", "many"]) fun _ _ _ _ _ _ us hl => match us, hl with | [_, _, _, _], _ => rfl⟩
abbrev s_well_seated : Stmt := topS 5
theorem sc_well_seated : FnScope ["seats", "at", "many", "guest", "spot", "other"] ["seats", "at"] (defScope s_well_seated) := ⟨rfl, rfl, rfl, by decide +kernel, rfl, by decide +kernel, by decide +kernel⟩
theorem ok_well_seated {P : Program} {w : World} {K : PySem.W.Frag} {mg : Str → Option Value} {base : Heap} {C : Cs} {f : Addr} {fd : FuncData} (F : Fun K "well_seated" "well_seated" s_well_seated f fd) (B : Bl mg) (c_home : Cal P w K mg base CX0 1 "home" ["guest", "many"] (sp_home K C)) (c_ahead : Cal P w K mg base CX0 3 "ahead" ["one", "other", "at", "many"] (sp_ahead K C)) :
    FnOk P w K mg base CX0 4 f fd ["seats", "at"] (sp_well_seated K C) := by
  refine F.ok sc_well_seated (fun vs H Q E h => len_well_seated h) (fun cdv A outer s H vs Q E hr h => ⟨t_well_seated K C E, ?_, pure_well_seated h⟩)
  have hu := hu_of hr
  exact (pss_cons (ps_set (i := 2) sc_well_seated.nd rfl (.inl rfl) (pe_callB call_len_seq (by rfl) B.len (by decide +kernel) (pa_cons (pv 0) pa_nil)))
      (pss_cons (ps_set (i := 3) sc_well_seated.nd rfl (.inl rfl) (pe_ix ix_list (pv 0) (pv 1) (fun _ _ => rfl)))
      (pss_cons (ps_set (i := 4) sc_well_seated.nd rfl (.inl rfl) (pe_fn c_home (hr.mono (by decide)) pass0 (pa_cons (pv 3) (pa_cons (pv 2) pa_nil))))
      (pss_cons (ps_while PassesOwn.never (pt_cmpR op_ne (pv 4) (pv 1) (nomark _)) (pss_cons (ps_set (i := 5) sc_well_seated.nd rfl (.inl rfl) (pe_ix ix_list (pv 0) (pv 4) (fun _ _ => rfl)))
      (pss_cons (ps_if (PW.pt (pw_or (pt_cmp (pc_isN (pv 5))) (pw_or1 (pt_not (pt_val (pe_fn c_ahead (hr.mono (by decide)) pass0 (pa_cons (pv 5) (pa_cons (pv 3) (pa_cons (pv 4) (pa_cons (pv 2) pa_nil)))))))))) (pss_one (ps_ret pe_bl)) pss_nil)
      (pss_one (ps_set (i := 4) sc_well_seated.nd rfl (.inl rfl) (pe_op op_mod (pe_op op_add (pv 4) pe_int) (pv 2)))))))
      (pss_one (ps_ret pe_bl))))))
theorem cal_well_seated {P : Program} {w : World} {K : PySem.W.Frag} {mg : Str → Option Value} {base : Heap} {C : Cs} (D : Def K mg "well_seated" s_well_seated) (B : Bl mg) (c_home : Cal P w K mg base CX0 1 "home" ["guest", "many"] (sp_home K C)) (c_ahead : Cal P w K mg base CX0 3 "ahead" ["one", "other", "at", "many"] (sp_ahead K C)) :
    Cal P w K mg base CX0 4 "well_seated" ["seats", "at"] (sp_well_seated K C) := by
  obtain ⟨f, fd, F, hm⟩ := D.ex
  exact ⟨f, fd, ok_well_seated F B c_home c_ahead, hm, F.kp, F.binds (ps := ["seats", "at"]) fun _ _ _ _ _ _ us hl => match us, hl with | [_, _], _ => rfl⟩
abbrev s_is_settled : Stmt := topS 6
theorem sc_is_settled : FnScope ["seats", "at"] ["seats"] (defScope s_is_settled) := ⟨rfl, rfl, rfl, by decide +kernel, rfl, by decide +kernel, by decide +kernel⟩
theorem ok_is_settled {P : Program} {w : World} {K : PySem.W.Frag} {mg : Str → Option Value} {base : Heap} {C : Cs} {f : Addr} {fd : FuncData} (F : Fun K "is_settled" "is_settled" s_is_settled f fd) (B : Bl mg) (c_well_seated : Cal P w K mg base CX0 4 "well_seated" ["seats", "at"] (sp_well_seated K C)) :
    FnOk P w K mg base CX0 5 f fd ["seats"] (sp_is_settled K C) := by
  refine F.ok sc_is_settled (fun vs H Q E h => len_is_settled h) (fun cdv A outer s H vs Q E hr h => ⟨t_is_settled K C E, ?_, pure_is_settled h⟩)
  have hu := hu_of hr
  exact (pss_cons (ps_if (pt_cmpR op_notIn_seq pe_non (pv 0) (by rfl)) (pss_one (ps_ret pe_bl)) pss_nil)
      (pss_cons (ps_for PassesOwn.never rfl (pi_range1 (by rfl) B.range (pa_cons (pe_callB call_len_seq (by rfl) B.len (by decide +kernel) (pa_cons (pv 0) pa_nil)) pa_nil)) (pg_name (i := 1) sc_is_settled.nd rfl (.inl rfl)) (pss_one (ps_if (PW.pt (pw_and (pt_cmp (pc_notN (pe_ix ix_list (pv 0) (pv 1) (fun _ _ => rfl)))) (pw_and1 (pt_not (pt_val (pe_fn c_well_seated (hr.mono (by decide)) pass0 (pa_cons (pv 0) (pa_cons (pv 1) pa_nil)))))))) (pss_one (ps_ret pe_bl)) pss_nil)))
      (pss_one (ps_ret pe_bl))))
theorem cal_is_settled {P : Program} {w : World} {K : PySem.W.Frag} {mg : Str → Option Value} {base : Heap} {C : Cs} (D : Def K mg "is_settled" s_is_settled) (B : Bl mg) (c_well_seated : Cal P w K mg base CX0 4 "well_seated" ["seats", "at"] (sp_well_seated K C)) :
    Cal P w K mg base CX0 5 "is_settled" ["seats"] (sp_is_settled K C) := by
  obtain ⟨f, fd, F, hm⟩ := D.ex
  exact ⟨f, fd, ok_is_settled F B c_well_seated, hm, F.kp, F.binds (ps := ["seats"]) fun _ _ _ _ _ _ us hl => match us, hl with | [_], _ => rfl⟩
abbrev s_strain : Stmt := topS 7
theorem sc_strain : FnScope ["seats", "together", "farthest", "squares", "at", "guest", "far"] ["seats"] (defScope s_strain) := ⟨rfl, rfl, rfl, by decide +kernel, rfl, by decide +kernel, by decide +kernel⟩
theorem ok_strain {P : Program} {w : World} {K : PySem.W.Frag} {mg : Str → Option Value} {base : Heap} {C : Cs} {f : Addr} {fd : FuncData} (F : Fun K "strain" "strain" s_strain f fd) (B : Bl mg) (c_carried : Cal P w K mg base CX0 2 "carried" ["guest", "at", "many"] (sp_carried K C)) :
    FnOk P w K mg base CX0 3 f fd ["seats"] (sp_strain K C) := by
  refine F.ok sc_strain (fun vs H Q E h => len_strain h) (fun cdv A outer s H vs Q E hr h => ⟨t_strain K C E, ?_, pure_strain h⟩)
  have hu := hu_of hr
  exact (pss_cons (ps_set (i := 1) sc_strain.nd rfl (.inl rfl) pe_int)
      (pss_cons (ps_set (i := 2) sc_strain.nd rfl (.inl rfl) pe_int)
      (pss_cons (ps_set (i := 3) sc_strain.nd rfl (.inl rfl) pe_int)
      (pss_cons (ps_for PassesOwn.never rfl (pi_enum (by rfl) B.enumerate (pa_cons (pv 0) pa_nil)) (pg_tup (by rfl) (pgs_cons (pg_name (i := 4) sc_strain.nd rfl (.inl rfl)) (pgs_cons (pg_name (i := 5) sc_strain.nd rfl (.inl rfl)) pgs_nil))) (pss_one (ps_if (pt_cmp (pc_notN (pv 5))) (pss_cons (ps_set (i := 6) sc_strain.nd rfl (.inl rfl) (pe_fn c_carried (hr.mono (by decide)) pass0 (pa_cons (pv 5) (pa_cons (pv 4) (pa_cons (pe_callB call_len_seq (by rfl) B.len (by decide +kernel) (pa_cons (pv 0) pa_nil)) pa_nil)))))
      (pss_cons (ps_set (i := 1) sc_strain.nd rfl (.inl rfl) (pe_op op_add (pv 1) (pv 6)))
      (pss_cons (ps_set (i := 2) sc_strain.nd rfl (.inl rfl) (pe_callB (call_max2 rfl) (by rfl) B.max (by decide +kernel) (pa_cons (pv 2) (pa_cons (pv 6) pa_nil))))
      (pss_one (ps_set (i := 3) sc_strain.nd rfl (.inl rfl) (pe_op op_add (pv 3) (pe_op op_mulL (pv 6) (pv 6)))))))) pss_nil)))
      (pss_one (ps_ret (pe_tup (pa_cons (pv 1) (pa_cons (pv 2) (pa_cons (pv 3) pa_nil))))))))))
theorem cal_strain {P : Program} {w : World} {K : PySem.W.Frag} {mg : Str → Option Value} {base : Heap} {C : Cs} (D : Def K mg "strain" s_strain) (B : Bl mg) (c_carried : Cal P w K mg base CX0 2 "carried" ["guest", "at", "many"] (sp_carried K C)) :
    Cal P w K mg base CX0 3 "strain" ["seats"] (sp_strain K C) := by
  obtain ⟨f, fd, F, hm⟩ := D.ex
  exact ⟨f, fd, ok_strain F B c_carried, hm, F.kp, F.binds (ps := ["seats"]) fun _ _ _ _ _ _ us hl => match us, hl with | [_], _ => rfl⟩
abbrev s_law_cell_at : Stmt := topS 9
theorem sc_law_cell_at : FnScope ["_law_script", "_law_k"] ["_law_script", "_law_k"] (defScope s_law_cell_at) := ⟨rfl, rfl, rfl, by decide +kernel, rfl, by decide +kernel, by decide +kernel⟩
theorem ok_law_cell_at {P : Program} {w : World} {K : PySem.W.Frag} {mg : Str → Option Value} {base : Heap} {C : Cs} {f : Addr} {fd : FuncData} (F : Fun K "_law_cell_at" "_law_cell_at" s_law_cell_at f fd) (B : Bl mg) :
    FnOk P w K mg base CX0 1 f fd ["_law_script", "_law_k"] (sp_law_cell_at K C) := by
  refine F.ok sc_law_cell_at (fun vs H Q E h => len_law_cell_at h) (fun cdv A outer s H vs Q E hr h => ⟨t_law_cell_at K C E, ?_, pure_law_cell_at h⟩)
  have hu := hu_of hr
  exact (pss_cons (ps_if (pt_cmpR op_lt (pv 1) (pe_callB call_len_seq (by rfl) B.len (by decide +kernel) (pa_cons (pv 0) pa_nil)) (nomark _)) (pss_one (ps_ret (pe_ix ix_list (pv 0) (pv 1) (fun _ _ => rfl)))) pss_nil)
      (pss_one (ps_ret pe_int)))
theorem cal_law_cell_at {P : Program} {w : World} {K : PySem.W.Frag} {mg : Str → Option Value} {base : Heap} {C : Cs} (D : Def K mg "_law_cell_at" s_law_cell_at) (B : Bl mg) :
    Cal P w K mg base CX0 1 "_law_cell_at" ["_law_script", "_law_k"] (sp_law_cell_at K C) := by
  obtain ⟨f, fd, F, hm⟩ := D.ex
  exact ⟨f, fd, ok_law_cell_at F B, hm, F.kp, F.binds (ps := ["_law_script", "_law_k"]) fun _ _ _ _ _ _ us hl => match us, hl with | [_, _], _ => rfl⟩
abbrev s_law_whole : Stmt := topS 10
theorem sc_law_whole : FnScope ["_law_found"] ["_law_found"] (defScope s_law_whole) := ⟨rfl, rfl, rfl, by decide +kernel, rfl, by decide +kernel, by decide +kernel⟩
theorem ok_law_whole {P : Program} {w : World} {K : PySem.W.Frag} {mg : Str → Option Value} {base : Heap} {C : Cs} {f : Addr} {fd : FuncData} (F : Fun K "_law_whole" "_law_whole" s_law_whole f fd) (B : Bl mg) :
    FnOk P w K mg base CX0 1 f fd ["_law_found"] (sp_law_whole K C) := by
  refine F.ok sc_law_whole (fun vs H Q E h => len_law_whole h) (fun cdv A outer s H vs Q E hr h => ⟨t_law_whole K C E, ?_, pure_law_whole h⟩)
  have hu := hu_of hr
  exact (pss_one (ps_ret (pe_and (pe_callB call_isA (by rfl) B.isinstance (by decide +kernel) (pa_cons (pv 0) (pa_cons (pe_bltn (v := .ty "int") (by rfl) B.int (by decide +kernel) rfl) pa_nil))) (pe_one (pe_not (pe_callB call_isA (by rfl) B.isinstance (by decide +kernel) (pa_cons (pv 0) (pa_cons (pe_bltn (v := .ty "bool") (by rfl) B.bool (by decide +kernel) rfl) pa_nil))))))))
theorem cal_law_whole {P : Program} {w : World} {K : PySem.W.Frag} {mg : Str → Option Value} {base : Heap} {C : Cs} (D : Def K mg "_law_whole" s_law_whole) (B : Bl mg) :
    Cal P w K mg base CX0 1 "_law_whole" ["_law_found"] (sp_law_whole K C) := by
  obtain ⟨f, fd, F, hm⟩ := D.ex
  exact ⟨f, fd, ok_law_whole F B, hm, F.kp, F.binds (ps := ["_law_found"]) fun _ _ _ _ _ _ us hl => match us, hl with | [_], _ => rfl⟩
abbrev s_law_guest_by : Stmt := topS 11
theorem sc_law_guest_by : FnScope ["_law_cell", "_law_base", "_law_number"] ["_law_cell", "_law_base"] (defScope s_law_guest_by) := ⟨rfl, rfl, rfl, by decide +kernel, rfl, by decide +kernel, by decide +kernel⟩
theorem ok_law_guest_by {P : Program} {w : World} {K : PySem.W.Frag} {mg : Str → Option Value} {base : Heap} {C : Cs} {f : Addr} {fd : FuncData} (F : Fun K "_law_guest_by" "_law_guest_by" s_law_guest_by f fd) (B : Bl mg) :
    FnOk P w K mg base CX0 1 f fd ["_law_cell", "_law_base"] (sp_law_guest_by K C) := by
  refine F.ok sc_law_guest_by (fun vs H Q E h => len_law_guest_by h) (fun cdv A outer s H vs Q E hr h => ⟨t_law_guest_by K C E, ?_, pure_law_guest_by h⟩)
  have hu := hu_of hr
  exact (pss_cons (ps_set (i := 2) sc_law_guest_by.nd rfl (.inl rfl) (pe_op op_fdiv (pv 0) pe_int))
      (pss_cons (ps_if (pt_cmpR op_eq (pe_op op_mod (pv 0) pe_int) pe_int (nomark _)) (pss_one (ps_ret (pe_op op_add (pv 1) (pe_op op_mulL pe_int (pe_op op_mod (pv 2) pe_int))))) pss_nil)
      (pss_cons (ps_if (pt_cmpR op_eq (pe_op op_mod (pv 0) pe_int) pe_int (nomark _)) (pss_one (ps_ret (pe_op op_add (pe_op op_add (pv 1) (pe_op op_mulL pe_int (pe_op op_mod (pv 2) pe_int))) (pe_op op_mulL pe_int (pe_op op_mod (pe_op op_fdiv (pv 2) pe_int) pe_int))))) pss_nil)
      (pss_cons (ps_if (pt_cmpR op_eq (pe_op op_mod (pv 0) pe_int) pe_int (nomark _)) (pss_one (ps_ret (pe_op op_mod (pv 2) (pe_pow (m := 10) (n := 60) (N := 1000000000000000000000000000000000000000000000000000000000000) rfl rfl (by decide +kernel) (by decide) (by decide))))) pss_nil)
      (pss_one (ps_ret (pe_op op_mod (pv 2) pe_int)))))))
theorem cal_law_guest_by {P : Program} {w : World} {K : PySem.W.Frag} {mg : Str → Option Value} {base : Heap} {C : Cs} (D : Def K mg "_law_guest_by" s_law_guest_by) (B : Bl mg) :
    Cal P w K mg base CX0 1 "_law_guest_by" ["_law_cell", "_law_base"] (sp_law_guest_by K C) := by
  obtain ⟨f, fd, F, hm⟩ := D.ex
  exact ⟨f, fd, ok_law_guest_by F B, hm, F.kp, F.binds (ps := ["_law_cell", "_law_base"]) fun _ _ _ _ _ _ us hl => match us, hl with | [_, _], _ => rfl⟩
abbrev s_law_many_by : Stmt := topS 12
theorem sc_law_many_by : FnScope ["_law_cell"] ["_law_cell"] (defScope s_law_many_by) := ⟨rfl, rfl, rfl, by decide +kernel, rfl, by decide +kernel, by decide +kernel⟩
theorem ok_law_many_by {P : Program} {w : World} {K : PySem.W.Frag} {mg : Str → Option Value} {base : Heap} {C : Cs} {f : Addr} {fd : FuncData} (F : Fun K "_law_many_by" "_law_many_by" s_law_many_by f fd) (B : Bl mg) :
    FnOk P w K mg base CX0 1 f fd ["_law_cell"] (sp_law_many_by K C) := by
  refine F.ok sc_law_many_by (fun vs H Q E h => len_law_many_by h) (fun cdv A outer s H vs Q E hr h => ⟨t_law_many_by K C E, ?_, pure_law_many_by h⟩)
  have hu := hu_of hr
  exact (pss_cons (ps_if (pt_cmpR op_eq (pe_op op_mod (pv 0) pe_int) pe_int (nomark _)) (pss_one (ps_ret (pe_op op_add pe_int (pe_op op_mod (pe_op op_fdiv (pv 0) pe_int) pe_int)))) pss_nil)
      (pss_cons (ps_if (pt_cmpR op_lt (pe_op op_mod (pv 0) pe_int) pe_int (nomark _)) (pss_one (ps_ret (pe_op op_add pe_int (pe_op op_mod (pe_op op_fdiv (pv 0) pe_int) pe_int)))) pss_nil)
      (pss_one (ps_ret (pe_op op_add pe_int (pe_op op_mod (pe_op op_fdiv (pv 0) pe_int) pe_int))))))
theorem cal_law_many_by {P : Program} {w : World} {K : PySem.W.Frag} {mg : Str → Option Value} {base : Heap} {C : Cs} (D : Def K mg "_law_many_by" s_law_many_by) (B : Bl mg) :
    Cal P w K mg base CX0 1 "_law_many_by" ["_law_cell"] (sp_law_many_by K C) := by
  obtain ⟨f, fd, F, hm⟩ := D.ex
  exact ⟨f, fd, ok_law_many_by F B, hm, F.kp, F.binds (ps := ["_law_cell"]) fun _ _ _ _ _ _ us hl => match us, hl with | [_], _ => rfl⟩
abbrev s_law_home : Stmt := topS 13
theorem sc_law_home : FnScope ["_law_guest", "_law_many"] ["_law_guest", "_law_many"] (defScope s_law_home) := ⟨rfl, rfl, rfl, by decide +kernel, rfl, by decide +kernel, by decide +kernel⟩
theorem ok_law_home {P : Program} {w : World} {K : PySem.W.Frag} {mg : Str → Option Value} {base : Heap} {C : Cs} {f : Addr} {fd : FuncData} (F : Fun K "_law_home" "_law_home" s_law_home f fd) (B : Bl mg) :
    FnOk P w K mg base CX0 1 f fd ["_law_guest", "_law_many"] (sp_law_home K C) := by
  refine F.ok sc_law_home (fun vs H Q E h => len_law_home h) (fun cdv A outer s H vs Q E hr h => ⟨t_law_home K C E, ?_, pure_law_home h⟩)
  have hu := hu_of hr
  exact (pss_one (ps_ret (pe_op op_mod (pe_op op_mod (pe_op op_add (pe_op op_mulL (pv 0) pe_int) (pe_op op_fdiv (pv 0) pe_int)) pe_int) (pv 1))))
theorem cal_law_home {P : Program} {w : World} {K : PySem.W.Frag} {mg : Str → Option Value} {base : Heap} {C : Cs} (D : Def K mg "_law_home" s_law_home) (B : Bl mg) :
    Cal P w K mg base CX0 1 "_law_home" ["_law_guest", "_law_many"] (sp_law_home K C) := by
  obtain ⟨f, fd, F, hm⟩ := D.ex
  exact ⟨f, fd, ok_law_home F B, hm, F.kp, F.binds (ps := ["_law_guest", "_law_many"]) fun _ _ _ _ _ _ us hl => match us, hl with | [_, _], _ => rfl⟩
abbrev s_law_ahead : Stmt := topS 14
theorem sc_law_ahead : FnScope ["_law_one", "_law_other", "_law_at", "_law_many", "_law_far", "_law_near"] ["_law_one", "_law_other", "_law_at", "_law_many"] (defScope s_law_ahead) := ⟨rfl, rfl, rfl, by decide +kernel, rfl, by decide +kernel, by decide +kernel⟩
theorem ok_law_ahead {P : Program} {w : World} {K : PySem.W.Frag} {mg : Str → Option Value} {base : Heap} {C : Cs} {f : Addr} {fd : FuncData} (F : Fun K "_law_ahead" "_law_ahead" s_law_ahead f fd) (B : Bl mg) (c_law_home : Cal P w K mg base CX0 1 "_law_home" ["_law_guest", "_law_many"] (sp_law_home K C)) :
    FnOk P w K mg base CX0 2 f fd ["_law_one", "_law_other", "_law_at", "_law_many"] (sp_law_ahead K C) := by
  refine F.ok sc_law_ahead (fun vs H Q E h => len_law_ahead h) (fun cdv A outer s H vs Q E hr h => ⟨t_law_ahead K C E, ?_, pure_law_ahead h⟩)
  have hu := hu_of hr
  exact (pss_cons (ps_set (i := 4) sc_law_ahead.nd rfl (.inl rfl) (pe_op op_mod (pe_op op_sub (pv 2) (pe_fn c_law_home (hr.mono (by decide)) pass0 (pa_cons (pv 0) (pa_cons (pv 3) pa_nil)))) (pv 3)))
      (pss_cons (ps_set (i := 5) sc_law_ahead.nd rfl (.inl rfl) (pe_op op_mod (pe_op op_sub (pv 2) (pe_fn c_law_home (hr.mono (by decide)) pass0 (pa_cons (pv 1) (pa_cons (pv 3) pa_nil)))) (pv 3)))
      (pss_one (ps_ret (pe_or (pe_cmpR op_gt (pv 4) (pv 5) (nomark _)) (pe_one (pe_and (pe_cmpR op_eq (pv 4) (pv 5) (nomark _)) (pe_one (pe_cmpR op_lt (pv 0) (pv 1) (nomark _))))))))))
theorem cal_law_ahead {P : Program} {w : World} {K : PySem.W.Frag} {mg : Str → Option Value} {base : Heap} {C : Cs} (D : Def K mg "_law_ahead" s_law_ahead) (B : Bl mg) (c_law_home : Cal P w K mg base CX0 1 "_law_home" ["_law_guest", "_law_many"] (sp_law_home K C)) :
    Cal P w K mg base CX0 2 "_law_ahead" ["_law_one", "_law_other", "_law_at", "_law_many"] (sp_law_ahead K C) := by
  obtain ⟨f, fd, F, hm⟩ := D.ex
  exact ⟨f, fd, ok_law_ahead F B c_law_home, hm, F.kp, F.binds (ps := ["_law_one", "_law_other", "_law_at", "_law_many"]) fun _ _ _ _ _ _ us hl => match us, hl with | [_, _, _, _], _ => rfl⟩
abbrev s_law_put : Stmt := topS 15
theorem sc_law_put : FnScope ["_law_seats", "_law_guest", "_law_many", "_law_at", "_law_kept"] ["_law_seats", "_law_guest"] (defScope s_law_put) := ⟨rfl, rfl, rfl, by decide +kernel, rfl, by decide +kernel, by decide +kernel⟩
theorem ok_law_put {P : Program} {w : World} {K : PySem.W.Frag} {mg : Str → Option Value} {base : Heap} {C : Cs} {f : Addr} {fd : FuncData} (F : Fun K "_law_put" "_law_put" s_law_put f fd) (B : Bl mg) (c_law_home : Cal P w K mg base CX0 1 "_law_home" ["_law_guest", "_law_many"] (sp_law_home K C)) (c_law_ahead : Cal P w K mg base CX0 2 "_law_ahead" ["_law_one", "_law_other", "_law_at", "_law_many"] (sp_law_ahead K C)) :
    FnOk P w K mg base CX0 3 f fd ["_law_seats", "_law_guest"] (sp_law_put K C) := by
  refine F.ok sc_law_put (fun vs H Q E h => len_law_put h) (fun cdv A outer s H vs Q E hr h => ⟨t_law_put K C E, ?_, pure_law_put h⟩)
  have hu := hu_of hr
  exact (pss_cons (ps_set (i := 2) sc_law_put.nd rfl (.inl rfl) (pe_callB call_len_seq (by rfl) B.len (by decide +kernel) (pa_cons (pv 0) pa_nil)))
      (pss_cons (ps_set (i := 3) sc_law_put.nd rfl (.inl rfl) (pe_fn c_law_home (hr.mono (by decide)) pass0 (pa_cons (pv 1) (pa_cons (pv 2) pa_nil))))
      (pss_cons (ps_while PassesOwn.never (pt_cmp (pc_notN (pe_ix ix_list (pv 0) (pv 3) (fun _ _ => rfl)))) (pss_cons (ps_if (pt_val (pe_fn c_law_ahead (hr.mono (by decide)) pass0 (pa_cons (pv 1) (pa_cons (pe_ix ix_list (pv 0) (pv 3) (fun _ _ => rfl)) (pa_cons (pv 3) (pa_cons (pv 2) pa_nil)))))) (pss_cons (ps_set (i := 4) sc_law_put.nd rfl (.inl rfl) (pe_ix ix_list (pv 0) (pv 3) (fun _ _ => rfl)))
      (pss_cons (ps_asg (pv 1) (pg_sub (pv 0) (pv 3) set_list))
      (pss_one (ps_set (i := 1) sc_law_put.nd rfl (.inl rfl) (pv 4))))) pss_nil)
      (pss_one (ps_set (i := 3) sc_law_put.nd rfl (.inl rfl) (pe_op op_mod (pe_op op_add (pv 3) pe_int) (pv 2))))))
      (pss_one (ps_asg (pv 1) (pg_sub (pv 0) (pv 3) set_list))))))
theorem cal_law_put {P : Program} {w : World} {K : PySem.W.Frag} {mg : Str → Option Value} {base : Heap} {C : Cs} (D : Def K mg "_law_put" s_law_put) (B : Bl mg) (c_law_home : Cal P w K mg base CX0 1 "_law_home" ["_law_guest", "_law_many"] (sp_law_home K C)) (c_law_ahead : Cal P w K mg base CX0 2 "_law_ahead" ["_law_one", "_law_other", "_law_at", "_law_many"] (sp_law_ahead K C)) :
    Cal P w K mg base CX0 3 "_law_put" ["_law_seats", "_law_guest"] (sp_law_put K C) := by
  obtain ⟨f, fd, F, hm⟩ := D.ex
  exact ⟨f, fd, ok_law_put F B c_law_home c_law_ahead, hm, F.kp, F.binds (ps := ["_law_seats", "_law_guest"]) fun _ _ _ _ _ _ us hl => match us, hl with | [_, _], _ => rfl⟩
abbrev s_law_seated : Stmt := topS 16
theorem sc_law_seated : FnScope ["_law_cells", "_law_base", "_law_many", "_law_seats", "_law_known", "_law_cell", "_law_guest"] ["_law_cells", "_law_base", "_law_many"] (defScope s_law_seated) := ⟨rfl, rfl, rfl, by decide +kernel, rfl, by decide +kernel, by decide +kernel⟩
theorem ok_law_seated {P : Program} {w : World} {K : PySem.W.Frag} {mg : Str → Option Value} {base : Heap} {C : Cs} {f : Addr} {fd : FuncData} (F : Fun K "_law_seated" "_law_seated" s_law_seated f fd) (B : Bl mg) (c_law_guest_by : Cal P w K mg base CX0 1 "_law_guest_by" ["_law_cell", "_law_base"] (sp_law_guest_by K C)) (c_law_put : Cal P w K mg base CX0 3 "_law_put" ["_law_seats", "_law_guest"] (sp_law_put K C)) :
    FnOk P w K mg base CX0 4 f fd ["_law_cells", "_law_base", "_law_many"] (sp_law_seated K C) := by
  refine F.ok sc_law_seated (fun vs H Q E h => len_law_seated h) (fun cdv A outer s H vs Q E hr h => ⟨t_law_seated K C E, ?_, pure_law_seated h⟩)
  have hu := hu_of hr
  exact (pss_cons (ps_set (i := 3) sc_law_seated.nd rfl (.inl rfl) (pe_op op_rep (pe_lst (pa_cons pe_non pa_nil)) (pv 2)))
      (pss_cons (ps_set (i := 4) sc_law_seated.nd rfl (.inl rfl) pe_dnewK)
      (pss_cons (ps_for PassesOwn.never rfl (pi_list (pv 0)) (pg_name (i := 5) sc_law_seated.nd rfl (.inl rfl)) (pss_cons (ps_set (i := 6) sc_law_seated.nd rfl (.inl rfl) (pe_fn c_law_guest_by (hr.mono (by decide)) pass0 (pa_cons (pv 5) (pa_cons (pv 1) pa_nil))))
      (pss_one (ps_if (PW.pt (pw_and (pt_cmp (pc_dnotin hu (pv 6) (pv 4))) (pw_and1 (pt_cmpR op_lt (pe_callB call_lenD (by rfl) B.len (by decide +kernel) (pa_cons (pv 4) pa_nil)) (pe_op op_sub (pv 2) pe_int) (nomark _))))) (pss_cons (ps_dput hu (pv 4) (pv 6) pe_bl rfl)
      (pss_one (ps_expr (pe_fn c_law_put (hr.mono (by decide)) pass0 (pa_cons (pv 3) (pa_cons (pv 6) pa_nil)))))) pss_nil))))
      (pss_one (ps_ret (pv 3))))))
theorem cal_law_seated {P : Program} {w : World} {K : PySem.W.Frag} {mg : Str → Option Value} {base : Heap} {C : Cs} (D : Def K mg "_law_seated" s_law_seated) (B : Bl mg) (c_law_guest_by : Cal P w K mg base CX0 1 "_law_guest_by" ["_law_cell", "_law_base"] (sp_law_guest_by K C)) (c_law_put : Cal P w K mg base CX0 3 "_law_put" ["_law_seats", "_law_guest"] (sp_law_put K C)) :
    Cal P w K mg base CX0 4 "_law_seated" ["_law_cells", "_law_base", "_law_many"] (sp_law_seated K C) := by
  obtain ⟨f, fd, F, hm⟩ := D.ex
  exact ⟨f, fd, ok_law_seated F B c_law_guest_by c_law_put, hm, F.kp, F.binds (ps := ["_law_cells", "_law_base", "_law_many"]) fun _ _ _ _ _ _ us hl => match us, hl with | [_, _, _], _ => rfl⟩
abbrev s_law_spot : Stmt := topS 17
theorem sc_law_spot : FnScope ["_law_seats", "_law_cell", "_law_filled", "_law_at"] ["_law_seats", "_law_cell"] (defScope s_law_spot) := ⟨rfl, rfl, rfl, by decide +kernel, rfl, by decide +kernel, by decide +kernel⟩
theorem ok_law_spot {P : Program} {w : World} {K : PySem.W.Frag} {mg : Str → Option Value} {base : Heap} {C : Cs} {f : Addr} {fd : FuncData} (F : Fun K "_law_spot" "_law_spot" s_law_spot f fd) (B : Bl mg) :
    FnOk P w K mg base CX0 1 f fd ["_law_seats", "_law_cell"] (sp_law_spot K C) := by
  refine F.ok sc_law_spot (fun vs H Q E h => len_law_spot h) (fun cdv A outer s H vs Q E hr h => ⟨t_law_spot K C E, ?_, pure_law_spot h⟩)
  have hu := hu_of hr
  exact (pss_cons (ps_setLc (i := 2) (own := [("_law_at", 3)]) (g := gName 3) rfl sc_law_spot.nd rfl rfl (sw_true rfl rfl rfl (by decide +kernel)) (pi_range1 (by rfl) B.range (pa_cons (pe_callB call_len_seq (by rfl) B.len (by decide +kernel) (pa_cons (pv 0) pa_nil)) pa_nil)) (blkOk_by (N := ["_law_seats", "_law_cell", "_law_filled", "_law_at"]) (sc := defScope s_law_spot) (by decide +kernel)) (fun _ _ _ _ _ => pg_name (i := 3) sc_law_spot.nd rfl (Or.inl rfl)) (fun _ _ _ _ _ => (pts_one (pt_cmp (pc_notN (pe_ix ix_list (pv 0) (pv 3) (fun _ _ => rfl)))))) (fun _ _ _ _ _ => (pv 3)))
      (pss_cons (ps_if (PW.pt (pw_and (pt_cmpR op_eq (pe_op op_mod (pv 1) pe_int) pe_int (nomark _)) (pw_and1 (pt_cmpR op_gt (pe_callB call_len_seq (by rfl) B.len (by decide +kernel) (pa_cons (pv 2) pa_nil)) pe_int (nomark _))))) (pss_one (ps_ret (pe_ix ix_list (pv 2) (pe_op op_mod (pe_op op_fdiv (pv 1) pe_int) (pe_callB call_len_seq (by rfl) B.len (by decide +kernel) (pa_cons (pv 2) pa_nil))) (fun _ _ => rfl)))) pss_nil)
      (pss_one (ps_ret (pe_op op_mod (pe_op op_fdiv (pv 1) pe_int) (pe_callB call_len_seq (by rfl) B.len (by decide +kernel) (pa_cons (pv 0) pa_nil)))))))
theorem cal_law_spot {P : Program} {w : World} {K : PySem.W.Frag} {mg : Str → Option Value} {base : Heap} {C : Cs} (D : Def K mg "_law_spot" s_law_spot) (B : Bl mg) :
    Cal P w K mg base CX0 1 "_law_spot" ["_law_seats", "_law_cell"] (sp_law_spot K C) := by
  obtain ⟨f, fd, F, hm⟩ := D.ex
  exact ⟨f, fd, ok_law_spot F B, hm, F.kp, F.binds (ps := ["_law_seats", "_law_cell"]) fun _ _ _ _ _ _ us hl => match us, hl with | [_, _], _ => rfl⟩
abbrev s_law_spoiled : Stmt := topS 18
theorem sc_law_spoiled : FnScope ["_law_seats", "_law_way", "_law_one", "_law_two", "_law_base", "_law_many", "_law_made", "_law_mark", "_law_at"] ["_law_seats", "_law_way", "_law_one", "_law_two", "_law_base"] (defScope s_law_spoiled) := ⟨rfl, rfl, rfl, by decide +kernel, rfl, by decide +kernel, by decide +kernel⟩
theorem ok_law_spoiled {P : Program} {w : World} {K : PySem.W.Frag} {mg : Str → Option Value} {base : Heap} {C : Cs} {f : Addr} {fd : FuncData} (F : Fun K "_law_spoiled" "_law_spoiled" s_law_spoiled f fd) (B : Bl mg) :
    FnOk P w K mg base CX0 1 f fd ["_law_seats", "_law_way", "_law_one", "_law_two", "_law_base"] (sp_law_spoiled K C) := by
  refine F.ok sc_law_spoiled (fun vs H Q E h => len_law_spoiled h) (fun cdv A outer s H vs Q E hr h => ⟨t_law_spoiled K C E, ?_, pure_law_spoiled h⟩)
  have hu := hu_of hr
  exact (pss_cons (ps_set (i := 5) sc_law_spoiled.nd rfl (.inl rfl) (pe_callB call_len_seq (by rfl) B.len (by decide +kernel) (pa_cons (pv 0) pa_nil)))
      (pss_cons (ps_set (i := 6) sc_law_spoiled.nd rfl (.inl rfl) (pe_callTy call_list_of (by rfl) B.list (by decide +kernel) (pa_cons (pv 0) pa_nil)))
      (pss_cons (ps_if (pt_cmpR op_eq (pv 1) pe_int (nomark _)) (pss_one (ps_set (i := 3) sc_law_spoiled.nd rfl (.inl rfl) (pe_op op_mod (pe_op op_add (pv 2) pe_int) (pv 5)))) pss_nil)
      (pss_cons (ps_if (PW.pt (pw_or (pt_cmpR op_eq (pv 1) pe_int (nomark _)) (pw_or1 (pt_cmpR op_eq (pv 1) pe_int (nomark _))))) (pss_cons (ps_asg (pe_ix ix_list (pv 0) (pv 3) (fun _ _ => rfl)) (pg_sub (pv 6) (pv 2) set_list))
      (pss_one (ps_asg (pe_ix ix_list (pv 0) (pv 2) (fun _ _ => rfl)) (pg_sub (pv 6) (pv 3) set_list)))) pss_nil)
      (pss_cons (ps_if (PW.pt (pw_or (pt_cmpR op_eq (pv 1) pe_int (nomark _)) (pw_or1 (pt_cmpR op_eq (pv 1) pe_int (nomark _))))) (pss_one (ps_asg pe_non (pg_sub (pv 6) (pv 2) set_list))) pss_nil)
      (pss_cons (ps_if (PW.pt (pw_or (pt_cmpR op_eq (pv 1) pe_int (nomark _)) (pw_or1 (pt_cmpR op_eq (pv 1) pe_int (nomark _))))) (pss_one (ps_asg (pe_ix ix_list (pv 0) (pv 2) (fun _ _ => rfl)) (pg_sub (pv 6) (pv 3) set_list))) pss_nil)
      (pss_cons (ps_if (pt_cmpR op_eq (pv 1) pe_int (nomark _)) (pss_cons (ps_set (i := 7) sc_law_spoiled.nd rfl (.inl rfl) (pe_op op_mod (pe_op op_add (pe_op op_mulL (pv 4) pe_int) (pe_op op_fdiv (pv 4) pe_int)) pe_int))
      (pss_one (ps_for PassesOwn.never rfl (pi_range1 (by rfl) B.range (pa_cons (pv 5) pa_nil)) (pg_name (i := 8) sc_law_spoiled.nd rfl (.inl rfl)) (pss_one (ps_if (pt_cmp (pc_isN (pe_ix ix_list (pv 6) (pv 8) (fun _ _ => rfl)))) (pss_one (ps_asg (pe_op op_add (pv 4) (pe_op op_mulL pe_int (pe_op op_mod (pe_op op_sub (pv 8) (pv 7)) pe_int))) (pg_sub (pv 6) (pv 8) set_list))) pss_nil))))) pss_nil)
      (pss_cons (ps_if (pt_cmpR op_eq (pv 1) pe_int (nomark _)) (pss_one (ps_set (i := 6) sc_law_spoiled.nd rfl (.inl rfl) (pe_op op_cat (pe_slice sl_list (pv 0) (po_some (pe_un un_neg pe_int)) po_none) (pe_slice sl_list (pv 0) po_none (po_some (pe_un un_neg pe_int)))))) pss_nil)
      (pss_one (ps_ret (pv 6)))))))))))
theorem cal_law_spoiled {P : Program} {w : World} {K : PySem.W.Frag} {mg : Str → Option Value} {base : Heap} {C : Cs} (D : Def K mg "_law_spoiled" s_law_spoiled) (B : Bl mg) :
    Cal P w K mg base CX0 1 "_law_spoiled" ["_law_seats", "_law_way", "_law_one", "_law_two", "_law_base"] (sp_law_spoiled K C) := by
  obtain ⟨f, fd, F, hm⟩ := D.ex
  exact ⟨f, fd, ok_law_spoiled F B, hm, F.kp, F.binds (ps := ["_law_seats", "_law_way", "_law_one", "_law_two", "_law_base"]) fun _ _ _ _ _ _ us hl => match us, hl with | [_, _, _, _, _], _ => rfl⟩
abbrev s_law_settled : Stmt := topS 19
theorem sc_law_settled : FnScope ["_law_seats", "_law_many", "_law_at", "_law_guest", "_law_spot_here"] ["_law_seats"] (defScope s_law_settled) := ⟨rfl, rfl, rfl, by decide +kernel, rfl, by decide +kernel, by decide +kernel⟩
theorem ok_law_settled {P : Program} {w : World} {K : PySem.W.Frag} {mg : Str → Option Value} {base : Heap} {C : Cs} {f : Addr} {fd : FuncData} (F : Fun K "_law_settled" "_law_settled" s_law_settled f fd) (B : Bl mg) (c_law_home : Cal P w K mg base CX0 1 "_law_home" ["_law_guest", "_law_many"] (sp_law_home K C)) (c_law_ahead : Cal P w K mg base CX0 2 "_law_ahead" ["_law_one", "_law_other", "_law_at", "_law_many"] (sp_law_ahead K C)) :
    FnOk P w K mg base CX0 3 f fd ["_law_seats"] (sp_law_settled K C) := by
  refine F.ok sc_law_settled (fun vs H Q E h => len_law_settled h) (fun cdv A outer s H vs Q E hr h => ⟨t_law_settled K C E, ?_, pure_law_settled h⟩)
  have hu := hu_of hr
  exact (pss_cons (ps_set (i := 1) sc_law_settled.nd rfl (.inl rfl) (pe_callB call_len_seq (by rfl) B.len (by decide +kernel) (pa_cons (pv 0) pa_nil)))
      (pss_cons (ps_for PassesOwn.never rfl (pi_range1 (by rfl) B.range (pa_cons (pv 1) pa_nil)) (pg_name (i := 2) sc_law_settled.nd rfl (.inl rfl)) (pss_cons (ps_set (i := 3) sc_law_settled.nd rfl (.inl rfl) (pe_ix ix_list (pv 0) (pv 2) (fun _ _ => rfl)))
      (pss_one (ps_if (pt_cmp (pc_notN (pv 3))) (pss_cons (ps_set (i := 4) sc_law_settled.nd rfl (.inl rfl) (pe_fn c_law_home (hr.mono (by decide)) pass0 (pa_cons (pv 3) (pa_cons (pv 1) pa_nil))))
      (pss_one (ps_while PassesOwn.never (pt_cmpR op_ne (pv 4) (pv 2) (nomark _)) (pss_cons (ps_if (PW.pt (pw_or (pt_cmp (pc_isN (pe_ix ix_list (pv 0) (pv 4) (fun _ _ => rfl)))) (pw_or1 (pt_not (pt_val (pe_fn c_law_ahead (hr.mono (by decide)) pass0 (pa_cons (pe_ix ix_list (pv 0) (pv 4) (fun _ _ => rfl)) (pa_cons (pv 3) (pa_cons (pv 4) (pa_cons (pv 1) pa_nil)))))))))) (pss_one (ps_ret pe_bl)) pss_nil)
      (pss_one (ps_set (i := 4) sc_law_settled.nd rfl (.inl rfl) (pe_op op_mod (pe_op op_add (pv 4) pe_int) (pv 1)))))))) pss_nil))))
      (pss_one (ps_ret (pe_cmpR op_in_seq pe_non (pv 0) (by rfl))))))
theorem cal_law_settled {P : Program} {w : World} {K : PySem.W.Frag} {mg : Str → Option Value} {base : Heap} {C : Cs} (D : Def K mg "_law_settled" s_law_settled) (B : Bl mg) (c_law_home : Cal P w K mg base CX0 1 "_law_home" ["_law_guest", "_law_many"] (sp_law_home K C)) (c_law_ahead : Cal P w K mg base CX0 2 "_law_ahead" ["_law_one", "_law_other", "_law_at", "_law_many"] (sp_law_ahead K C)) :
    Cal P w K mg base CX0 3 "_law_settled" ["_law_seats"] (sp_law_settled K C) := by
  obtain ⟨f, fd, F, hm⟩ := D.ex
  exact ⟨f, fd, ok_law_settled F B c_law_home c_law_ahead, hm, F.kp, F.binds (ps := ["_law_seats"]) fun _ _ _ _ _ _ us hl => match us, hl with | [_], _ => rfl⟩
abbrev s_law_strained : Stmt := topS 20
theorem sc_law_strained : FnScope ["_law_found", "_law_seats", "_law_together", "_law_farthest", "_law_squares", "_law_at", "_law_far", "_law_one"] ["_law_found", "_law_seats"] (defScope s_law_strained) := ⟨rfl, rfl, rfl, by decide +kernel, rfl, by decide +kernel, by decide +kernel⟩
theorem ok_law_strained {P : Program} {w : World} {K : PySem.W.Frag} {mg : Str → Option Value} {base : Heap} {C : Cs} {f : Addr} {fd : FuncData} (F : Fun K "_law_strained" "_law_strained" s_law_strained f fd) (B : Bl mg) (c_law_home : Cal P w K mg base CX0 1 "_law_home" ["_law_guest", "_law_many"] (sp_law_home K C)) (c_law_whole : Cal P w K mg base CX0 1 "_law_whole" ["_law_found"] (sp_law_whole K C)) :
    FnOk P w K mg base CX0 2 f fd ["_law_found", "_law_seats"] (sp_law_strained K C) := by
  refine F.ok sc_law_strained (fun vs H Q E h => len_law_strained h) (fun cdv A outer s H vs Q E hr h => ⟨t_law_strained K C E, ?_, pure_law_strained h⟩)
  have hu := hu_of hr
  exact (pss_cons (ps_set (i := 2) sc_law_strained.nd rfl (.inl rfl) pe_int)
      (pss_cons (ps_set (i := 3) sc_law_strained.nd rfl (.inl rfl) pe_int)
      (pss_cons (ps_set (i := 4) sc_law_strained.nd rfl (.inl rfl) pe_int)
      (pss_cons (ps_for PassesOwn.never rfl (pi_range1 (by rfl) B.range (pa_cons (pe_callB call_len_seq (by rfl) B.len (by decide +kernel) (pa_cons (pv 1) pa_nil)) pa_nil)) (pg_name (i := 5) sc_law_strained.nd rfl (.inl rfl)) (pss_one (ps_if (pt_cmp (pc_notN (pe_ix ix_list (pv 1) (pv 5) (fun _ _ => rfl)))) (pss_cons (ps_set (i := 6) sc_law_strained.nd rfl (.inl rfl) (pe_op op_mod (pe_op op_sub (pv 5) (pe_fn c_law_home (hr.mono (by decide)) pass0 (pa_cons (pe_ix ix_list (pv 1) (pv 5) (fun _ _ => rfl)) (pa_cons (pe_callB call_len_seq (by rfl) B.len (by decide +kernel) (pa_cons (pv 1) pa_nil)) pa_nil)))) (pe_callB call_len_seq (by rfl) B.len (by decide +kernel) (pa_cons (pv 1) pa_nil))))
      (pss_cons (ps_set (i := 2) sc_law_strained.nd rfl (.inl rfl) (pe_op op_add (pv 2) (pv 6)))
      (pss_cons (ps_set (i := 3) sc_law_strained.nd rfl (.inl rfl) (pe_callB (call_max2 rfl) (by rfl) B.max (by decide +kernel) (pa_cons (pv 3) (pa_cons (pv 6) pa_nil))))
      (pss_one (ps_set (i := 4) sc_law_strained.nd rfl (.inl rfl) (pe_op op_add (pv 4) (pe_op op_mulL (pv 6) (pv 6)))))))) pss_nil)))
      (pss_cons (ps_if (PW.pt (pw_or (pt_not (pt_val (pe_callB call_isA (by rfl) B.isinstance (by decide +kernel) (pa_cons (pv 0) (pa_cons (pe_bltn (v := .ty "tuple") (by rfl) B.tuple (by decide +kernel) rfl) pa_nil))))) (pw_or1 (pt_cmpR op_ne (pe_callB call_len_seq (by rfl) B.len (by decide +kernel) (pa_cons (pv 0) pa_nil)) pe_int (nomark _))))) (pss_one (ps_ret pe_bl)) pss_nil)
      (pss_cons (ps_for PassesOwn.never rfl (pi_tup (pv 0)) (pg_name (i := 7) sc_law_strained.nd rfl (.inl rfl)) (pss_one (ps_if (pt_not (pt_val (pe_fn c_law_whole (hr.mono (by decide)) pass0 (pa_cons (pv 7) pa_nil)))) (pss_one (ps_ret pe_bl)) pss_nil)))
      (pss_one (ps_ret (pe_cmpR (op_eqD hr.units) (pv 0) (pe_tup (pa_cons (pv 2) (pa_cons (pv 3) (pa_cons (pv 4) pa_nil)))) (nomark _))))))))))
theorem cal_law_strained {P : Program} {w : World} {K : PySem.W.Frag} {mg : Str → Option Value} {base : Heap} {C : Cs} (D : Def K mg "_law_strained" s_law_strained) (B : Bl mg) (c_law_home : Cal P w K mg base CX0 1 "_law_home" ["_law_guest", "_law_many"] (sp_law_home K C)) (c_law_whole : Cal P w K mg base CX0 1 "_law_whole" ["_law_found"] (sp_law_whole K C)) :
    Cal P w K mg base CX0 2 "_law_strained" ["_law_found", "_law_seats"] (sp_law_strained K C) := by
  obtain ⟨f, fd, F, hm⟩ := D.ex
  exact ⟨f, fd, ok_law_strained F B c_law_home c_law_whole, hm, F.kp, F.binds (ps := ["_law_found", "_law_seats"]) fun _ _ _ _ _ _ us hl => match us, hl with | [_, _], _ => rfl⟩
abbrev s_law : Stmt := topS 21
theorem sc_law : FnScope ["_law_script", "_law_many", "_law_base", "_law_seats", "_law_one", "_law_two", "_law_spoiled_here", "_law_some", "_law_handed", "_law_found"] ["_law_script"] (defScope s_law) := ⟨rfl, rfl, rfl, by decide +kernel, rfl, by decide +kernel, by decide +kernel⟩
theorem ok_law {P : Program} {w : World} {K : PySem.W.Frag} {mg : Str → Option Value} {base : Heap} {C : Cs} {f : Addr} {fd : FuncData} (F : Fun K "law" "law" s_law f fd) (B : Bl mg) (c_law_cell_at : Cal P w K mg base CX0 1 "_law_cell_at" ["_law_script", "_law_k"] (sp_law_cell_at K C)) (c_law_many_by : Cal P w K mg base CX0 1 "_law_many_by" ["_law_cell"] (sp_law_many_by K C)) (c_law_seated : Cal P w K mg base CX0 4 "_law_seated" ["_law_cells", "_law_base", "_law_many"] (sp_law_seated K C)) (c_law_spot : Cal P w K mg base CX0 1 "_law_spot" ["_law_seats", "_law_cell"] (sp_law_spot K C)) (c_law_spoiled : Cal P w K mg base CX0 1 "_law_spoiled" ["_law_seats", "_law_way", "_law_one", "_law_two", "_law_base"] (sp_law_spoiled K C)) (c_is_settled : Cal P w K mg base CX0 5 "is_settled" ["seats"] (sp_is_settled K C)) (c_law_settled : Cal P w K mg base CX0 3 "_law_settled" ["_law_seats"] (sp_law_settled K C)) (c_strain : Cal P w K mg base CX0 3 "strain" ["seats"] (sp_strain K C)) (c_law_strained : Cal P w K mg base CX0 2 "_law_strained" ["_law_found", "_law_seats"] (sp_law_strained K C)) :
    FnOk P w K mg base CX0 6 f fd ["_law_script"] (sp_law K C) := by
  refine F.ok sc_law (fun vs H Q E h => len_law h) (fun cdv A outer s H vs Q E hr h => ⟨t_law K C E, ?_, pure_law h⟩)
  have hu := hu_of hr
  exact (pss_cons (ps_set (i := 1) sc_law.nd rfl (.inl rfl) (pe_fn c_law_many_by (hr.mono (by decide)) pass0 (pa_cons (pe_fn c_law_cell_at (hr.mono (by decide)) pass0 (pa_cons (pv 0) (pa_cons pe_int pa_nil))) pa_nil)))
      (pss_cons (ps_set (i := 2) sc_law.nd rfl (.inl rfl) (pe_op op_mod (pe_fn c_law_cell_at (hr.mono (by decide)) pass0 (pa_cons (pv 0) (pa_cons pe_int pa_nil))) (pe_op op_sub (pe_pow (m := 10) (n := 60) (N := 1000000000000000000000000000000000000000000000000000000000000) rfl rfl (by decide +kernel) (by decide) (by decide)) (pe_pow (m := 10) (n := 13) (N := 10000000000000) rfl rfl (by decide +kernel) (by decide) (by decide)))))
      (pss_cons (ps_set (i := 3) sc_law.nd rfl (.inl rfl) (pe_fn c_law_seated (hr.mono (by decide)) pass0 (pa_cons (pe_slice sl_list (pv 0) (po_some pe_int) (po_some pe_int)) (pa_cons (pv 2) (pa_cons (pv 1) pa_nil)))))
      (pss_cons (ps_set (i := 4) sc_law.nd rfl (.inl rfl) (pe_fn c_law_spot (hr.mono (by decide)) pass0 (pa_cons (pv 3) (pa_cons (pe_fn c_law_cell_at (hr.mono (by decide)) pass0 (pa_cons (pv 0) (pa_cons pe_int pa_nil))) pa_nil))))
      (pss_cons (ps_set (i := 5) sc_law.nd rfl (.inl rfl) (pe_fn c_law_spot (hr.mono (by decide)) pass0 (pa_cons (pv 3) (pa_cons (pe_fn c_law_cell_at (hr.mono (by decide)) pass0 (pa_cons (pv 0) (pa_cons pe_int pa_nil))) pa_nil))))
      (pss_cons (ps_set (i := 6) sc_law.nd rfl (.inl rfl) (pe_fn c_law_spoiled (hr.mono (by decide)) pass0 (pa_cons (pv 3) (pa_cons (pe_op op_mod (pe_fn c_law_cell_at (hr.mono (by decide)) pass0 (pa_cons (pv 0) (pa_cons pe_int pa_nil))) pe_int) (pa_cons (pv 4) (pa_cons (pv 5) (pa_cons (pv 2) pa_nil)))))))
      (pss_cons (ps_for PassesOwn.never rfl (pi_list (pe_lst (pa_cons (pv 3) (pa_cons (pv 6) pa_nil)))) (pg_name (i := 7) sc_law.nd rfl (.inl rfl)) (pss_cons (ps_set (i := 8) sc_law.nd rfl (.inl rfl) (pe_callTy call_list_of (by rfl) B.list (by decide +kernel) (pa_cons (pv 7) pa_nil)))
      (pss_cons (ps_set (i := 9) sc_law.nd rfl (.inl rfl) (pe_fn c_is_settled (hr.mono (by decide)) pass0 (pa_cons (pv 8) pa_nil)))
      (pss_cons (ps_if (PW.pt (pw_or (pt_not (pt_val (pe_callB call_isA (by rfl) B.isinstance (by decide +kernel) (pa_cons (pv 9) (pa_cons (pe_bltn (v := .ty "bool") (by rfl) B.bool (by decide +kernel) rfl) pa_nil))))) (pw_or1 (pt_cmpR op_ne (pv 9) (pe_fn c_law_settled (hr.mono (by decide)) pass0 (pa_cons (pv 7) pa_nil)) (nomark _))))) (pss_one (ps_ret pe_bl)) pss_nil)
      (pss_one (ps_if (PW.pt (pw_or (pt_not (pt_val (pe_fn c_law_strained (hr.mono (by decide)) pass0 (pa_cons (pe_fn c_strain (hr.mono (by decide)) pass0 (pa_cons (pv 8) pa_nil)) (pa_cons (pv 7) pa_nil))))) (pw_or1 (pt_cmpR (op_neD hr.units) (pv 8) (pv 7) (nomark _))))) (pss_one (ps_ret pe_bl)) pss_nil))))))
      (pss_one (ps_ret pe_bl)))))))))
end RS
namespace RS
open PySem PySem.Spec PyProof.Rows L2
theorem all_mk {l : PySem.W.OpenLaw} {w : World} {K : PySem.W.Frag} {h : Heap} {mg : Str → Option Value} {fa : Addr} (X : K.In h) (G : h.Ns mainGlobals mg) (hfa : mg "law" = some (.ref fa)) (C : Cs)
    (d_home : Def K mg "home" s_home)
    (d_carried : Def K mg "carried" s_carried)
    (d_ahead : Def K mg "ahead" s_ahead)
    (d_well_seated : Def K mg "well_seated" s_well_seated)
    (d_is_settled : Def K mg "is_settled" s_is_settled)
    (d_strain : Def K mg "strain" s_strain)
    (d_law_cell_at : Def K mg "_law_cell_at" s_law_cell_at)
    (d_law_whole : Def K mg "_law_whole" s_law_whole)
    (d_law_guest_by : Def K mg "_law_guest_by" s_law_guest_by)
    (d_law_many_by : Def K mg "_law_many_by" s_law_many_by)
    (d_law_home : Def K mg "_law_home" s_law_home)
    (d_law_ahead : Def K mg "_law_ahead" s_law_ahead)
    (d_law_put : Def K mg "_law_put" s_law_put)
    (d_law_seated : Def K mg "_law_seated" s_law_seated)
    (d_law_spot : Def K mg "_law_spot" s_law_spot)
    (d_law_spoiled : Def K mg "_law_spoiled" s_law_spoiled)
    (d_law_settled : Def K mg "_law_settled" s_law_settled)
    (d_law_strained : Def K mg "_law_strained" s_law_strained)
    (d_law : Def K mg "law" s_law)
    (z_bool : PySem.W.nsIn K mainGlobals "bool" = some none) (z_enumerate : PySem.W.nsIn K mainGlobals "enumerate" = some none) (z_int : PySem.W.nsIn K mainGlobals "int" = some none) (z_isinstance : PySem.W.nsIn K mainGlobals "isinstance" = some none) (z_len : PySem.W.nsIn K mainGlobals "len" = some none) (z_list : PySem.W.nsIn K mainGlobals "list" = some none) (z_max : PySem.W.nsIn K mainGlobals "max" = some none) (z_range : PySem.W.nsIn K mainGlobals "range" = some none) (z_tuple : PySem.W.nsIn K mainGlobals "tuple" = some none) :
    ∃ fd : FuncData, (∀ (s : Shared) (v : Value), BindsTo s fd ⟨[v], []⟩ [("_law_script", v)]) ∧ ∀ base : Heap, K.In base → base.Ns mainGlobals mg → FnOk l.prog w K mg base CX0 6 fa fd ["_law_script"] (sp_law K C) := by
  have B : Bl mg := ⟨PySem.W.mg_none_of X G z_bool, PySem.W.mg_none_of X G z_enumerate, PySem.W.mg_none_of X G z_int, PySem.W.mg_none_of X G z_isinstance, PySem.W.mg_none_of X G z_len, PySem.W.mg_none_of X G z_list, PySem.W.mg_none_of X G z_max, PySem.W.mg_none_of X G z_range, PySem.W.mg_none_of X G z_tuple⟩
  obtain ⟨f, fd, F, hm⟩ := d_law.ex
  have e := hfa.symm.trans hm
  cases e
  refine ⟨fd, fun s v => ?_, fun base _ _ => ?_⟩
  · obtain ⟨oc, od, kV, doc, pm, an, cdv, ct, osl, rfl, lk, hcd⟩ := F.ex
    exact .of_eq rfl
  · have c_home := cal_home (P := l.prog) (w := w) (base := base) (C := C) d_home B 
    have c_carried := cal_carried (P := l.prog) (w := w) (base := base) (C := C) d_carried B c_home
    have c_ahead := cal_ahead (P := l.prog) (w := w) (base := base) (C := C) d_ahead B c_carried
    have c_well_seated := cal_well_seated (P := l.prog) (w := w) (base := base) (C := C) d_well_seated B c_home c_ahead
    have c_is_settled := cal_is_settled (P := l.prog) (w := w) (base := base) (C := C) d_is_settled B c_well_seated
    have c_strain := cal_strain (P := l.prog) (w := w) (base := base) (C := C) d_strain B c_carried
    have c_law_cell_at := cal_law_cell_at (P := l.prog) (w := w) (base := base) (C := C) d_law_cell_at B 
    have c_law_whole := cal_law_whole (P := l.prog) (w := w) (base := base) (C := C) d_law_whole B 
    have c_law_guest_by := cal_law_guest_by (P := l.prog) (w := w) (base := base) (C := C) d_law_guest_by B 
    have c_law_many_by := cal_law_many_by (P := l.prog) (w := w) (base := base) (C := C) d_law_many_by B 
    have c_law_home := cal_law_home (P := l.prog) (w := w) (base := base) (C := C) d_law_home B 
    have c_law_ahead := cal_law_ahead (P := l.prog) (w := w) (base := base) (C := C) d_law_ahead B c_law_home
    have c_law_put := cal_law_put (P := l.prog) (w := w) (base := base) (C := C) d_law_put B c_law_home c_law_ahead
    have c_law_seated := cal_law_seated (P := l.prog) (w := w) (base := base) (C := C) d_law_seated B c_law_guest_by c_law_put
    have c_law_spot := cal_law_spot (P := l.prog) (w := w) (base := base) (C := C) d_law_spot B 
    have c_law_spoiled := cal_law_spoiled (P := l.prog) (w := w) (base := base) (C := C) d_law_spoiled B 
    have c_law_settled := cal_law_settled (P := l.prog) (w := w) (base := base) (C := C) d_law_settled B c_law_home c_law_ahead
    have c_law_strained := cal_law_strained (P := l.prog) (w := w) (base := base) (C := C) d_law_strained B c_law_home c_law_whole
    exact ok_law F B c_law_cell_at c_law_many_by c_law_seated c_law_spot c_law_spoiled c_is_settled c_law_settled c_strain c_law_strained
theorem fin {l : PySem.W.OpenLaw} {q : Program} {loose : List Str} {XP : (Str → Option Value) → Heap → Prop} {YP : World → Heap → Prop} {d : DefRec} {K : Params → PySem.W.Frag} (hn : l.most = some 63) (hdf : d.params.defaults = [])
    (hY : ∀ (w : World) (h : Heap), YP w h → (K w.params).In h)
    (F : ∀ (w : World) (mg : Str → Option Value) (fa : Addr) (h : Heap), (K w.params).In h → h.Ns mainGlobals mg → mg d.name = some (.ref fa) → ∃ C : Cs,
      ∃ fd : FuncData, (∀ (s : Shared) (u : Value), BindsTo s fd ⟨[u], []⟩ [("_law_script", u)]) ∧ ∀ base : Heap, (K w.params).In base → base.Ns mainGlobals mg → FnOk l.prog w (K w.params) mg base CX0 6 fa fd ["_law_script"] (sp_law (K w.params) C)) :
    PySem.W.WalkO q loose XP YP l.row.toRowW d [] (fun f vs => PySem.call f vs) :=
  L2.walk_of (n := 63) (k := 6) (x := "_law_script") (CX := fun _ => CX0) (sp := fun w => sp_law0 (K w.params)) hn (by decide) hdf ⟨rfl, by decide, by decide⟩ hY
    (fun w mg fa h a b c => by
      obtain ⟨C, fd, h1, h2⟩ := F w mg fa h a b c
      exact ⟨fd, h1, h2⟩)
    (fun _ _ a ns hl _ hS => ⟨a, ns, rfl, hS, hl, fun _ => rfl⟩) fun _ _ _ _ _ z => z
end RS
open PySem PySem.W PyProof.Rows
set_option maxRecDepth 100000 in
set_option maxHeartbeats 0 in
theorem PySem.Challenge.cw_ringseat_k04_settled_holds : PySem.Challenge.rw_ringseat_k04_settled.Holds := by
  w_on; o_law; k_head; (case hw => w_witness2)
  k_fill
  refine RS.fin (l := PySem.Challenge.rw_ringseat_k04_settled) rfl rfl (fun w h Y => PySem.W.kIn_of Y) ?F
  case F =>
    intro w mg fa h KX G hmg
    refine ⟨⟨0, 0, 0, 0, 0, 0, 0⟩, ?_⟩
    refine' RS.all_mk KX G hmg _ (RS.def_mk KX G ?a_home ?l_home ?c_home ?k_home) (RS.def_mk KX G ?a_carried ?l_carried ?c_carried ?k_carried) (RS.def_mk KX G ?a_ahead ?l_ahead ?c_ahead ?k_ahead) (RS.def_mk KX G ?a_well_seated ?l_well_seated ?c_well_seated ?k_well_seated) (RS.def_mk KX G ?a_is_settled ?l_is_settled ?c_is_settled ?k_is_settled) (RS.def_mk KX G ?a_strain ?l_strain ?c_strain ?k_strain) (RS.def_mk KX G ?a_law_cell_at ?l_law_cell_at ?c_law_cell_at ?k_law_cell_at) (RS.def_mk KX G ?a_law_whole ?l_law_whole ?c_law_whole ?k_law_whole) (RS.def_mk KX G ?a_law_guest_by ?l_law_guest_by ?c_law_guest_by ?k_law_guest_by) (RS.def_mk KX G ?a_law_many_by ?l_law_many_by ?c_law_many_by ?k_law_many_by) (RS.def_mk KX G ?a_law_home ?l_law_home ?c_law_home ?k_law_home) (RS.def_mk KX G ?a_law_ahead ?l_law_ahead ?c_law_ahead ?k_law_ahead) (RS.def_mk KX G ?a_law_put ?l_law_put ?c_law_put ?k_law_put) (RS.def_mk KX G ?a_law_seated ?l_law_seated ?c_law_seated ?k_law_seated) (RS.def_mk KX G ?a_law_spot ?l_law_spot ?c_law_spot ?k_law_spot) (RS.def_mk KX G ?a_law_spoiled ?l_law_spoiled ?c_law_spoiled ?k_law_spoiled) (RS.def_mk KX G ?a_law_settled ?l_law_settled ?c_law_settled ?k_law_settled) (RS.def_mk KX G ?a_law_strained ?l_law_strained ?c_law_strained ?k_law_strained) (RS.def_mk KX G ?a_law ?l_law ?c_law ?k_law) ?z_bool ?z_enumerate ?z_int ?z_isinstance ?z_len ?z_list ?z_max ?z_range ?z_tuple
    (case a_home => k_is); (case l_home => k_is); (case c_home => k_is); (case k_home => k_is)
    (case a_carried => k_is); (case l_carried => k_is); (case c_carried => k_is); (case k_carried => k_is)
    (case a_ahead => k_is); (case l_ahead => k_is); (case c_ahead => k_is); (case k_ahead => k_is)
    (case a_well_seated => k_is); (case l_well_seated => k_is); (case c_well_seated => k_is); (case k_well_seated => k_is)
    (case a_is_settled => k_is); (case l_is_settled => k_is); (case c_is_settled => k_is); (case k_is_settled => k_is)
    (case a_strain => k_is); (case l_strain => k_is); (case c_strain => k_is); (case k_strain => k_is)
    (case a_law_cell_at => k_is); (case l_law_cell_at => k_is); (case c_law_cell_at => k_is); (case k_law_cell_at => k_is)
    (case a_law_whole => k_is); (case l_law_whole => k_is); (case c_law_whole => k_is); (case k_law_whole => k_is)
    (case a_law_guest_by => k_is); (case l_law_guest_by => k_is); (case c_law_guest_by => k_is); (case k_law_guest_by => k_is)
    (case a_law_many_by => k_is); (case l_law_many_by => k_is); (case c_law_many_by => k_is); (case k_law_many_by => k_is)
    (case a_law_home => k_is); (case l_law_home => k_is); (case c_law_home => k_is); (case k_law_home => k_is)
    (case a_law_ahead => k_is); (case l_law_ahead => k_is); (case c_law_ahead => k_is); (case k_law_ahead => k_is)
    (case a_law_put => k_is); (case l_law_put => k_is); (case c_law_put => k_is); (case k_law_put => k_is)
    (case a_law_seated => k_is); (case l_law_seated => k_is); (case c_law_seated => k_is); (case k_law_seated => k_is)
    (case a_law_spot => k_is); (case l_law_spot => k_is); (case c_law_spot => k_is); (case k_law_spot => k_is)
    (case a_law_spoiled => k_is); (case l_law_spoiled => k_is); (case c_law_spoiled => k_is); (case k_law_spoiled => k_is)
    (case a_law_settled => k_is); (case l_law_settled => k_is); (case c_law_settled => k_is); (case k_law_settled => k_is)
    (case a_law_strained => k_is); (case l_law_strained => k_is); (case c_law_strained => k_is); (case k_law_strained => k_is)
    (case a_law => k_is); (case l_law => k_is); (case c_law => k_is); (case k_law => k_is)
    (case z_bool => k_is); (case z_enumerate => k_is); (case z_int => k_is); (case z_isinstance => k_is); (case z_len => k_is); (case z_list => k_is); (case z_max => k_is); (case z_range => k_is); (case z_tuple => k_is)
