import PyProof.Rows.All
import Wide.All
import OpenK.AllK
import Wide.FinOn
import HandS.ForMost
import HandS.ForExc
import HandS.IsInst
import HandS.Style
import HandS.SortInts
import PySem.Challenge.RW_ringseat_k01_a_home
set_option Elab.async false
set_option linter.all false
set_option maxRecDepth 100000
set_option maxHeartbeats 4000000
/-! ### the ring: seats 0 .. n-1, far from a home, who goes ahead, settled seatings -/
namespace Ring
def far (n h p : Nat) : Nat := if h ≤ p then p - h else p + n - h
def nx (n p : Nat) : Nat := if p + 1 < n then p + 1 else 0
def pv (n p : Nat) : Nat := if p = 0 then n - 1 else p - 1
theorem far_lt {n h p : Nat} (hh : h < n) (hp : p < n) : far n h p < n := by unfold far; split <;> omega
theorem far_self {n h : Nat} : far n h h = 0 := by unfold far; simp
theorem far_zero {n h p : Nat} (hh : h < n) (e : far n h p = 0) : p = h := by unfold far at e; split at e <;> omega
theorem far_inj {n h p q : Nat} (hh : h < n) (hp : p < n) (hq : q < n) (e : far n h p = far n h q) : p = q := by unfold far at e; split at e <;> split at e <;> omega
theorem nx_lt {n p : Nat} (hp : p < n) : nx n p < n := by unfold nx; split <;> omega
theorem pv_lt {n p : Nat} (hp : p < n) : pv n p < n := by unfold pv; split <;> omega
theorem nx_pv {n p : Nat} (hp : p < n) : nx n (pv n p) = p := by unfold nx pv; split <;> split <;> omega
theorem pv_nx {n p : Nat} (hp : p < n) : pv n (nx n p) = p := by
  unfold nx
  split
  · unfold pv; rw [if_neg (by omega)]; omega
  · unfold pv; rw [if_pos rfl]; omega
theorem nx_ne {n p : Nat} (h2 : 2 ≤ n) (hp : p < n) : nx n p ≠ p := by unfold nx; split <;> omega
theorem far_nx {n h p : Nat} (hh : h < n) (hp : p < n) (e : nx n p ≠ h) : far n h (nx n p) = far n h p + 1 := by
  unfold nx at *; unfold far
  split at e <;> rename_i h1
  · rw [if_pos h1]; split <;> split <;> omega
  · rw [if_neg h1]; split <;> split <;> omega
theorem far_last {n h p : Nat} (hh : h < n) (hp : p < n) (e : nx n p = h) : far n h p = n - 1 := by
  unfold nx at *; unfold far
  split at e <;> split <;> omega
theorem far_pv {n h p : Nat} (hh : h < n) (hp : p < n) (e : p ≠ h) : far n h (pv n p) + 1 = far n h p := by
  have := far_nx (n := n) (h := h) (p := pv n p) hh (pv_lt hp) (by rw [nx_pv hp]; exact e)
  rw [nx_pv hp] at this; omega
theorem far_le {n h p q : Nat} (hh : h < n) (hp : p < n) (hq : q < n) (e : nx n p ≠ h) : far n h q < far n h (nx n p) ↔ far n h q < far n h p ∨ q = p := by
  rw [far_nx hh hp e]
  constructor
  · intro h1
    by_cases h2 : far n h q < far n h p
    · exact .inl h2
    · exact .inr (far_inj hh hq hp (by omega))
  · rintro (h1 | rfl) <;> omega
/-- the way to an empty seat grows shorter -/
theorem far_to {n p e : Nat} (hp : p < n) (he : e < n) (h : p ≠ e) : far n (nx n p) e + 1 = far n p e := by
  unfold nx far
  split <;> split <;> split <;> omega

def fup (f : Nat → Option Int) (p : Nat) (v : Option Int) : Nat → Option Int := fun q => if q = p then v else f q
theorem fup_same {f : Nat → Option Int} {p : Nat} {v : Option Int} : fup f p v p = v := by unfold fup; rw [if_pos rfl]
theorem fup_ne {f : Nat → Option Int} {p q : Nat} {v : Option Int} (h : q ≠ p) : fup f p v q = f q := by unfold fup; rw [if_neg h]

section
variable (n : Nat) (h : Int → Nat)
/-- y goes ahead of g at seat q -/
def Ah (y g : Int) (q : Nat) : Prop := far n (h g) q < far n (h y) q ∨ (far n (h y) q = far n (h g) q ∧ y < g)
instance (y g : Int) (q : Nat) : Decidable (Ah n h y g q) := by unfold Ah; exact inferInstance
def Car (f : Nat → Option Int) (g : Int) (p : Nat) : Prop := ∀ q, q < n → far n (h g) q < far n (h g) p → ∃ y, f q = some y ∧ Ah n h y g q
def Path (f : Nat → Option Int) : Prop := ∀ p, p < n → ∀ g, f p = some g → Car n h f g p
def Sits (f : Nat → Option Int) (g : Int) : Prop := ∃ p, p < n ∧ f p = some g
/-- where a look for g ends -/
def Loc (f : Nat → Option Int) (g : Int) (p : Nat) : Prop := Car n h f g p ∧ ∀ y, f p = some y → ¬ Ah n h y g p
end
section
variable {n : Nat} {h : Int → Nat} {f : Nat → Option Int}
theorem ah_irr {g : Int} {q : Nat} : ¬ Ah n h g g q := by unfold Ah; omega
theorem ah_asym {y g : Int} {q : Nat} (a : Ah n h y g q) : ¬ Ah n h g y q := by unfold Ah at *; omega
theorem ah_tot {y g : Int} {q : Nat} (a : ¬ Ah n h y g q) (e : y ≠ g) : Ah n h g y q := by unfold Ah at *; omega
theorem ah_trans {x y z : Int} {q : Nat} (a : Ah n h x y q) (b : Ah n h y z q) : Ah n h x z q := by unfold Ah at *; omega
theorem ah_nx (hh : ∀ g, h g < n) {y z : Int} {p : Nat} (hp : p < n) (ey : nx n p ≠ h y) (ez : nx n p ≠ h z) : Ah n h y z (nx n p) ↔ Ah n h y z p := by
  unfold Ah; rw [far_nx (hh _) hp ey, far_nx (hh _) hp ez]; omega
theorem car_home {g : Int} : Car n h f g (h g) := fun q _ a => by rw [far_self] at a; omega
theorem car_nx (hh : ∀ g, h g < n) {g y : Int} {p : Nat} (hp : p < n) (c : Car n h f g p) (e : f p = some y) (a : Ah n h y g p) : Car n h f g (nx n p) := by
  by_cases w : nx n p = h g
  · rw [w]; exact car_home
  · intro q hq hl
    rcases (far_le (hh g) hp hq w).mp hl with h1 | rfl
    · exact c q hq h1
    · exact ⟨y, e, a⟩
/-- no guest is carried round the whole ring while a seat is empty -/
theorem no_wrap (hh : ∀ g, h g < n) {g : Int} {p e : Nat} (hp : p < n) (he : e < n) (h0 : f e = none) (c : Car n h f g p) (h1 : f p ≠ none) : nx n p ≠ h g := by
  intro w
  have hl := far_last (hh g) hp w
  by_cases ee : e = p
  · exact h1 (ee ▸ h0)
  have : far n (h g) e < far n (h g) p := by
    have h3 := far_lt (hh g) he
    have : far n (h g) e ≠ far n (h g) p := fun x => ee (far_inj (hh g) he hp x)
    omega
  obtain ⟨y, hy, _⟩ := c e he this
  rw [h0] at hy; cases hy
theorem path_one (hh : ∀ g, h g < n) (P : Path n h f) {x : Int} {p q : Nat} (hp : p < n) (hq : q < n) (e1 : f p = some x) (e2 : f q = some x) : p = q := by
  by_cases e : far n (h x) p = far n (h x) q
  · exact far_inj (hh x) hp hq e
  by_cases l : far n (h x) p < far n (h x) q
  · obtain ⟨y, hy, a⟩ := P q hq x e2 p hp l
    rw [e1] at hy; cases hy; exact absurd a ah_irr
  · obtain ⟨y, hy, a⟩ := P p hp x e1 q hq (by omega)
    rw [e2] at hy; cases hy; exact absurd a ah_irr
theorem loc_one (hh : ∀ g, h g < n) {g : Int} {p q : Nat} (hp : p < n) (hq : q < n) (a : Loc n h f g p) (b : Loc n h f g q) : p = q := by
  by_cases e : far n (h g) p = far n (h g) q
  · exact far_inj (hh g) hp hq e
  by_cases l : far n (h g) p < far n (h g) q
  · obtain ⟨y, hy, c⟩ := b.1 p hp l
    exact absurd c (a.2 y hy)
  · obtain ⟨y, hy, c⟩ := a.1 q hq (by omega)
    exact absurd c (b.2 y hy)
theorem path_loc (P : Path n h f) {g : Int} {p : Nat} (hp : p < n) (e : f p = some g) : Loc n h f g p := ⟨P p hp g e, fun y hy => by rw [e] at hy; cases hy; exact ah_irr⟩
/-- a guest sits where the look ends, or nowhere -/
theorem loc_sits (hh : ∀ g, h g < n) (P : Path n h f) {g : Int} {p : Nat} (hp : p < n) (l : Loc n h f g p) : Sits n f g ↔ f p = some g :=
  ⟨fun ⟨q, hq, e⟩ => by rw [loc_one hh hp hq l (path_loc P hq e)]; exact e, fun e => ⟨p, hp, e⟩⟩
theorem step_put {g : Int} {p : Nat} (P : Path n h f) (c : Car n h f g p) (e : f p = none) : Path n h (fup f p (some g)) := by
  intro q hq x hx
  by_cases w : q = p
  · subst w; rw [fup_same] at hx; cases hx
    intro r hr hl
    have : r ≠ q := fun e => by rw [e] at hl; omega
    rw [fup_ne this]; exact c r hr hl
  · rw [fup_ne w] at hx
    intro r hr hl
    obtain ⟨y, hy, a⟩ := P q hq x hx r hr hl
    have : r ≠ p := fun z => by rw [z, e] at hy; cases hy
    rw [fup_ne this]; exact ⟨y, hy, a⟩
theorem step_swap (hh : ∀ g, h g < n) {g y : Int} {p : Nat} (hp : p < n) (P : Path n h f) (c : Car n h f g p) (e : f p = some y) (a : Ah n h g y p) :
    Path n h (fup f p (some g)) ∧ Car n h (fup f p (some g)) y (nx n p) := by
  constructor
  · intro q hq x hx
    by_cases w : q = p
    · subst w; rw [fup_same] at hx; cases hx
      intro r hr hl
      have : r ≠ q := fun e => by rw [e] at hl; omega
      rw [fup_ne this]; exact c r hr hl
    · rw [fup_ne w] at hx
      intro r hr hl
      obtain ⟨z, hz, b⟩ := P q hq x hx r hr hl
      by_cases w2 : r = p
      · subst w2; rw [fup_same]; rw [e] at hz; cases hz
        exact ⟨g, rfl, ah_trans a b⟩
      · rw [fup_ne w2]; exact ⟨z, hz, b⟩
  · refine car_nx hh hp (y := g) ?_ fup_same a
    intro r hr hl
    have : r ≠ p := fun e => by rw [e] at hl; omega
    rw [fup_ne this]; exact P p hp y e r hr hl
/-- who is pushed on goes ahead of who sits on the next seat -/
theorem push_next (h2 : 2 ≤ n) (hh : ∀ g, h g < n) {y z : Int} {p e : Nat} (hp : p < n) (he : e < n) (h0 : f e = none) (P : Path n h f) (ey : f p = some y) (ez : f (nx n p) = some z) : Ah n h y z (nx n p) := by
  have wy := no_wrap hh hp he h0 (P p hp y ey) (by rw [ey]; exact fun x => nomatch x)
  by_cases wz : nx n p = h z
  · have : far n (h z) (nx n p) = 0 := by rw [wz]; exact far_self
    refine .inl ?_
    rw [this, far_nx (hh y) hp wy]; omega
  · rw [ah_nx hh hp wy wz]
    obtain ⟨y', hy', a⟩ := P _ (nx_lt hp) z ez p hp (by rw [far_nx (hh z) hp wz]; omega)
    rw [ey] at hy'; cases hy'; exact a
/-- who sits away from home has one ahead of it on the seat before -/
theorem path_before (hh : ∀ g, h g < n) (P : Path n h f) {g : Int} {p : Nat} (hp : p < n) (e : f p = some g) (w : h g ≠ p) : ∃ y, f (pv n p) = some y ∧ Ah n h y g (pv n p) :=
  P p hp g e _ (pv_lt hp) (by have := far_pv (hh g) hp (fun z => w z.symm); omega)
/-! who sits, behind a step -/
theorem sits_put {g : Int} {p : Nat} (hp : p < n) (e : f p = none) (x : Int) : Sits n (fup f p (some g)) x ↔ Sits n f x ∨ x = g := by
  constructor
  · rintro ⟨q, hq, hx⟩
    by_cases w : q = p
    · subst w; rw [fup_same] at hx; cases hx; exact .inr rfl
    · rw [fup_ne w] at hx; exact .inl ⟨q, hq, hx⟩
  · rintro (⟨q, hq, hx⟩ | rfl)
    · have w : q ≠ p := fun z => by rw [z, e] at hx; cases hx
      exact ⟨q, hq, by rw [fup_ne w]; exact hx⟩
    · exact ⟨p, hp, fup_same⟩
theorem sits_swap {g y : Int} {p : Nat} (hp : p < n) (e : f p = some y) (x : Int) : (Sits n (fup f p (some g)) x ∨ x = y) ↔ (Sits n f x ∨ x = g) := by
  constructor
  · rintro (⟨q, hq, hx⟩ | rfl)
    · by_cases w : q = p
      · subst w; rw [fup_same] at hx; cases hx; exact .inr rfl
      · rw [fup_ne w] at hx; exact .inl ⟨q, hq, hx⟩
    · exact .inl ⟨p, hp, e⟩
  · rintro (⟨q, hq, hx⟩ | rfl)
    · by_cases w : q = p
      · subst w; rw [e] at hx; cases hx; exact .inr rfl
      · exact .inl ⟨q, hq, by rw [fup_ne w]; exact hx⟩
    · exact .inl ⟨p, hp, fup_same⟩
/-! taking a guest out: seat `at` is open, its entry stale -/
def PathX (n : Nat) (h : Int → Nat) (f : Nat → Option Int) (o : Nat) : Prop := ∀ q, q < n → q ≠ o → ∀ x, f q = some x → Car n h f x q
def SitsX (n : Nat) (f : Nat → Option Int) (o : Nat) (g : Int) : Prop := ∃ p, p < n ∧ p ≠ o ∧ f p = some g
theorem pathX_of (P : Path n h f) (o : Nat) : PathX n h f o := fun q hq _ x hx => P q hq x hx
theorem out_step (h2 : 2 ≤ n) (hh : ∀ g, h g < n) {y w : Int} {o : Nat} (ho : o < n) (P : PathX n h f o) (hw : f o = some w) (e : f (nx n o) = some y) (a : h y ≠ nx n o) :
    PathX n h (fup f o (some y)) (nx n o) := by
  have hb := nx_lt ho
  have hne := nx_ne h2 ho
  intro q hq wq x hx
  by_cases c1 : q = o
  · subst c1; rw [fup_same] at hx; cases hx
    intro r hr hl
    have : r ≠ q := fun e => by rw [e] at hl; omega
    rw [fup_ne this]
    exact P _ hb hne y e r hr (by rw [far_nx (hh y) ho (fun z => a z.symm)]; omega)
  · rw [fup_ne c1] at hx
    intro r hr hl
    by_cases c2 : r = o
    · subst c2; rw [fup_same]
      refine ⟨y, rfl, ?_⟩
      have hx2 : nx n r ≠ h x := fun z => by
        have := far_last (hh x) ho z
        have := far_lt (hh x) hq
        omega
      have hl2 : far n (h x) (nx n r) < far n (h x) q := by
        have h3 := far_nx (hh x) ho hx2
        have : far n (h x) (nx n r) ≠ far n (h x) q := fun z => wq (far_inj (hh x) hb hq z).symm
        omega
      obtain ⟨y', hy', ah⟩ := P q hq c1 x hx _ hb hl2
      rw [e] at hy'; cases hy'
      exact (ah_nx hh ho (fun z => a z.symm) hx2).mp ah
    · rw [fup_ne c2]; exact P q hq c1 x hx r hr hl
theorem out_sits (h2 : 2 ≤ n) {y : Int} {o : Nat} (ho : o < n) (e : f (nx n o) = some y) (x : Int) : SitsX n (fup f o (some y)) (nx n o) x ↔ SitsX n f o x := by
  have hne := nx_ne h2 ho
  constructor
  · rintro ⟨q, hq, c, hx⟩
    by_cases w : q = o
    · subst w; rw [fup_same] at hx; cases hx; exact ⟨_, nx_lt ho, hne, e⟩
    · rw [fup_ne w] at hx; exact ⟨q, hq, w, hx⟩
  · rintro ⟨q, hq, c, hx⟩
    by_cases w : q = nx n o
    · subst w; rw [e] at hx; cases hx; exact ⟨o, ho, fun z => hne z.symm, fup_same⟩
    · exact ⟨q, hq, w, by rw [fup_ne c]; exact hx⟩
theorem out_end (h2 : 2 ≤ n) (hh : ∀ g, h g < n) {o : Nat} (ho : o < n) (P : PathX n h f o) (e : ∀ y, f (nx n o) = some y → h y = nx n o) : Path n h (fup f o none) := by
  have hb := nx_lt ho
  have hne := nx_ne h2 ho
  intro q hq x hx
  by_cases c1 : q = o
  · subst c1; rw [fup_same] at hx; cases hx
  · rw [fup_ne c1] at hx
    intro r hr hl
    by_cases c2 : r = o
    · subst c2
      exfalso
      have hx2 : nx n r ≠ h x := fun z => by
        have := far_last (hh x) ho z
        have := far_lt (hh x) hq
        omega
      by_cases c3 : q = nx n r
      · subst c3; exact hx2 (e x hx).symm
      · have h3 := far_nx (hh x) ho hx2
        have : far n (h x) (nx n r) ≠ far n (h x) q := fun z => c3 (far_inj (hh x) hb hq z).symm
        obtain ⟨y, hy, ah⟩ := P q hq c1 x hx _ hb (by omega)
        have e1 := e y hy
        have : far n (h y) (nx n r) = 0 := by rw [e1]; exact far_self
        unfold Ah at ah; omega
    · rw [fup_ne c2]; exact P q hq c1 x hx r hr hl
theorem outEnd_sits {o : Nat} (x : Int) : Sits n (fup f o none) x ↔ SitsX n f o x := by
  constructor
  · rintro ⟨q, hq, hx⟩
    by_cases w : q = o
    · subst w; rw [fup_same] at hx; cases hx
    · rw [fup_ne w] at hx; exact ⟨q, hq, w, hx⟩
  · rintro ⟨q, hq, c, hx⟩
    exact ⟨q, hq, by rw [fup_ne c]; exact hx⟩
theorem sitsX_of (hh : ∀ g, h g < n) (P : Path n h f) {o : Nat} {g : Int} (ho : o < n) (e : f o = some g) (x : Int) : SitsX n f o x ↔ Sits n f x ∧ x ≠ g := by
  constructor
  · rintro ⟨q, hq, c, hx⟩
    exact ⟨⟨q, hq, hx⟩, fun z => c (path_one hh P hq ho hx (z ▸ e))⟩
  · rintro ⟨⟨q, hq, hx⟩, c⟩
    exact ⟨q, hq, fun z => by rw [z, e] at hx; cases hx; exact c rfl, hx⟩
/-! one settled seating alone -/
theorem far_before {n h p q e : Nat} (hh : h < n) (hp : p < n) (hq : q < n) (he : e < n) (h1 : far n h p < far n h q) (h2 : far n h q < far n h e) : far n (nx n e) p < far n (nx n e) q := by
  unfold nx
  split
  · unfold far at *; split <;> split <;> (split at h1 <;> split at h1 <;> split at h2 <;> split at h2 <;> omega)
  · unfold far at *; split <;> split <;> (split at h1 <;> split at h1 <;> split at h2 <;> split at h2 <;> omega)
theorem one_side (hh : ∀ g, h g < n) {s t : Nat → Option Int} (S : Path n h s) (T : Path n h t) (st : ∀ g, Sits n t g → Sits n s g) {e : Nat} (he : e < n) (h0 : t e = none) :
    ∀ (m : Nat) (g : Int) (p q : Nat), p < n → q < n → s p = some g → t q = some g → far n (nx n e) q ≤ m → ¬ far n (h g) p < far n (h g) q := by
  intro m
  induction m with
  | zero =>
    intro g p q hp hq hs ht hm hl
    have c := T q hq g ht
    have : far n (h g) q < far n (h g) e := by
      have h1 : e ≠ q := fun z => by rw [← z, h0] at ht; cases ht
      have h3 : far n (h g) e ≠ far n (h g) q := fun z => h1 (far_inj (hh g) he hq z)
      by_cases h4 : far n (h g) e < far n (h g) q
      · obtain ⟨y, hy, _⟩ := c e he h4; rw [h0] at hy; cases hy
      · omega
    have := far_before (hh g) hp hq he hl this
    omega
  | succ m ih =>
    intro g p q hp hq hs ht hm hl
    have c := T q hq g ht
    have h5 : far n (h g) q < far n (h g) e := by
      have h1 : e ≠ q := fun z => by rw [← z, h0] at ht; cases ht
      have h3 : far n (h g) e ≠ far n (h g) q := fun z => h1 (far_inj (hh g) he hq z)
      by_cases h4 : far n (h g) e < far n (h g) q
      · obtain ⟨y, hy, _⟩ := c e he h4; rw [h0] at hy; cases hy
      · omega
    have h6 := far_before (hh g) hp hq he hl h5
    obtain ⟨y, hy, a⟩ := c p hp hl
    obtain ⟨p', hp', hy'⟩ := st y ⟨p, hp, hy⟩
    refine ih y p' p hp' hp hy' hy (by omega) ?_
    have h7 : p' ≠ p := fun z => by
      rw [z, hs] at hy'; cases hy'; exact ah_irr a
    have h8 : far n (h y) p' ≠ far n (h y) p := fun z => h7 (far_inj (hh y) hp' hp z)
    by_cases h9 : far n (h y) p < far n (h y) p'
    · obtain ⟨z, hz, b⟩ := S p' hp' y hy' p hp h9
      rw [hs] at hz; cases hz
      exact absurd b (ah_asym a)
    · omega
theorem alike (hh : ∀ g, h g < n) {s t : Nat → Option Int} (S : Path n h s) (T : Path n h t) (st : ∀ g, Sits n t g ↔ Sits n s g) (h0 : ∃ e, e < n ∧ t e = none) (h1 : ∃ e, e < n ∧ s e = none) :
    ∀ p, p < n → s p = t p := by
  obtain ⟨e, he, h0⟩ := h0
  obtain ⟨e', he', h1⟩ := h1
  have key : ∀ p g, p < n → (s p = some g ↔ t p = some g) := by
    intro p g hp
    constructor
    · intro hs
      obtain ⟨q, hq, ht⟩ := (st g).mpr ⟨p, hp, hs⟩
      have a := one_side hh S T (fun g => (st g).mp) he h0 _ g p q hp hq hs ht (Nat.le_refl _)
      have b := one_side hh T S (fun g => (st g).mpr) he' h1 _ g q p hq hp ht hs (Nat.le_refl _)
      rw [far_inj (hh g) hp hq (by omega)]; exact ht
    · intro ht
      obtain ⟨q, hq, hs⟩ := (st g).mp ⟨p, hp, ht⟩
      have a := one_side hh S T (fun g => (st g).mp) he h0 _ g q p hq hp hs ht (Nat.le_refl _)
      have b := one_side hh T S (fun g => (st g).mpr) he' h1 _ g p q hp hq ht hs (Nat.le_refl _)
      rw [far_inj (hh g) hp hq (by omega)]; exact hs
  intro p hp
  cases hs : s p with
  | some g => exact ((key p g hp).mp hs).symm
  | none =>
    cases ht : t p with
    | none => rfl
    | some g => rw [(key p g hp).mpr ht] at hs; cases hs
end
end Ring
/-! ### who sits, as a list -/
namespace Ring
def gl (n : Nat) (f : Nat → Option Int) : List Int := (List.range n).filterMap f
def em (n : Nat) (f : Nat → Option Int) : Nat := (List.range n).countP (fun p => (f p).isNone)
theorem mem_gl {n : Nat} {f : Nat → Option Int} {x : Int} : x ∈ gl n f ↔ Sits n f x := by
  unfold gl Sits
  rw [List.mem_filterMap]
  exact ⟨fun ⟨p, hp, e⟩ => ⟨p, List.mem_range.mp hp, e⟩, fun ⟨p, hp, e⟩ => ⟨p, List.mem_range.mpr hp, e⟩⟩
theorem fm_len (l : List Nat) (f : Nat → Option Int) : (l.filterMap f).length + l.countP (fun p => (f p).isNone) = l.length := by
  induction l with
  | nil => rfl
  | cons a l ih =>
    cases e : f a with
    | none => rw [List.filterMap_cons_none e, List.countP_cons_of_pos (by simp [e]), List.length_cons]; omega
    | some y => rw [List.filterMap_cons_some e, List.countP_cons_of_neg (by simp [e]), List.length_cons, List.length_cons]; omega
theorem gl_em (n : Nat) (f : Nat → Option Int) : (gl n f).length + em n f = n := by
  have := fm_len (List.range n) f
  rw [List.length_range] at this; exact this
theorem em_pos {n : Nat} {f : Nat → Option Int} : 0 < em n f ↔ ∃ e, e < n ∧ f e = none := by
  unfold em
  rw [List.countP_pos_iff]
  constructor
  · rintro ⟨a, ha, e⟩; exact ⟨a, List.mem_range.mp ha, by simpa using e⟩
  · rintro ⟨a, ha, e⟩; exact ⟨a, List.mem_range.mpr ha, by simpa using e⟩
theorem fm_nodup (l : List Nat) (hl : l.Nodup) (f : Nat → Option Int) (one : ∀ p q x, p ∈ l → q ∈ l → f p = some x → f q = some x → p = q) : (l.filterMap f).Nodup := by
  induction l with
  | nil => exact List.nodup_nil
  | cons a l ih =>
    obtain ⟨h1, h2⟩ := List.nodup_cons.mp hl
    have ih' := ih h2 fun p q x hp hq => one p q x (List.mem_cons_of_mem _ hp) (List.mem_cons_of_mem _ hq)
    cases e : f a with
    | none => rw [List.filterMap_cons_none e]; exact ih'
    | some y =>
      rw [List.filterMap_cons_some e]
      refine List.nodup_cons.mpr ⟨fun hm => ?_, ih'⟩
      obtain ⟨b, hb, e2⟩ := List.mem_filterMap.mp hm
      have := one a b y List.mem_cons_self (List.mem_cons_of_mem _ hb) e e2
      exact h1 (this ▸ hb)
theorem gl_nodup {n : Nat} {h : Int → Nat} {f : Nat → Option Int} (hh : ∀ g, h g < n) (P : Path n h f) : (gl n f).Nodup :=
  fm_nodup _ List.nodup_range f fun _ _ _ hp hq e1 e2 => path_one hh P (List.mem_range.mp hp) (List.mem_range.mp hq) e1 e2
theorem perm_of {a b : List Int} (ha : a.Nodup) (hb : b.Nodup) (e : ∀ x, x ∈ a ↔ x ∈ b) : a.Perm b := (List.perm_ext_iff_of_nodup ha hb).mpr e
theorem gl_perm {n : Nat} {h : Int → Nat} {f : Nat → Option Int} (hh : ∀ g, h g < n) (P : Path n h f) {gs : List Int} (hn : gs.Nodup) (e : ∀ x, Sits n f x ↔ x ∈ gs) : (gl n f).Perm gs :=
  perm_of (gl_nodup hh P) hn fun x => by rw [mem_gl]; exact e x
theorem em_of {n : Nat} {h : Int → Nat} {f : Nat → Option Int} (hh : ∀ g, h g < n) (P : Path n h f) {gs : List Int} (hn : gs.Nodup) (e : ∀ x, Sits n f x ↔ x ∈ gs) : em n f + gs.length = n := by
  have := gl_em n f
  rw [(gl_perm hh P hn e).length_eq] at this; omega
/-- no seat, no guest -/
theorem path_none {n : Nat} {h : Int → Nat} : Path n h (fun _ => none) := fun _ _ _ e => nomatch e
theorem sits_none {n : Nat} {x : Int} : ¬ Sits n (fun _ => none) x := fun ⟨_, _, e⟩ => nomatch e
/-- a look ends: where a seat is empty -/
theorem loc_or (n : Nat) (h : Int → Nat) (f : Nat → Option Int) (g : Int) (p : Nat) : (f p = none ∨ (∃ y, f p = some y ∧ ¬ Ah n h y g p)) ∨ ∃ y, f p = some y ∧ Ah n h y g p := by
  cases e : f p with
  | none => exact .inl (.inl rfl)
  | some y =>
    by_cases a : Ah n h y g p
    · exact .inr ⟨y, rfl, a⟩
    · exact .inl (.inr ⟨y, rfl, a⟩)
end Ring
namespace Ring
theorem swap_out {n : Nat} {h : Int → Nat} {f : Nat → Option Int} (hh : ∀ g, h g < n) (P : Path n h f) {g y : Int} {p : Nat} (hp : p < n) (e : f p = some y) (ng : ¬ Sits n f g) : ¬ Sits n (fup f p (some g)) y := by
  rintro ⟨q, hq, hx⟩
  by_cases w : q = p
  · subst w; rw [fup_same] at hx; cases hx; exact ng ⟨q, hq, e⟩
  · rw [fup_ne w] at hx; exact w (path_one hh P hq hp hx e)
end Ring
/-! ### the home of a guest, how far it is carried, who goes ahead: as the program reckons, and on the ring -/
namespace RS
def homeI (g n : Int) : Int := (g * 40503 + g / 65536) % 65536 % n
def farI (g p n : Int) : Int := (p - homeI g n) % n
def aheadI (a b p n : Int) : Bool := decide (farI b p n < farI a p n ∨ (farI a p n = farI b p n ∧ a < b))
def hm (n : Nat) (g : Int) : Nat := (homeI g n).toNat
theorem homeI_lo {g n : Int} (hn : 0 < n) : 0 ≤ homeI g n := Int.emod_nonneg _ (by omega)
theorem homeI_hi {g n : Int} (hn : 0 < n) : homeI g n < n := Int.emod_lt_of_pos _ hn
theorem farI_lo {g p n : Int} (hn : 0 < n) : 0 ≤ farI g p n := Int.emod_nonneg _ (by omega)
theorem farI_hi {g p n : Int} (hn : 0 < n) : farI g p n < n := Int.emod_lt_of_pos _ hn
theorem hm_is {n : Nat} (hn : 0 < n) (g : Int) : homeI g n = (hm n g : Int) := by
  have := homeI_lo (g := g) (n := n) (by omega)
  unfold hm; omega
theorem hm_lt {n : Nat} (hn : 0 < n) (g : Int) : hm n g < n := by
  have := homeI_hi (g := g) (n := n) (by omega)
  have := hm_is hn g
  omega
theorem mod_far {n h p : Nat} (hh : h < n) (hp : p < n) : ((p : Int) - (h : Int)) % (n : Int) = (Ring.far n h p : Int) := by
  unfold Ring.far
  split
  · rw [Int.emod_eq_of_lt (by omega) (by omega)]; omega
  · rw [← Int.add_emod_right, Int.emod_eq_of_lt (by omega) (by omega)]; omega
theorem far_is {n p : Nat} (hp : p < n) (g : Int) : farI g p n = (Ring.far n (hm n g) p : Int) := by
  have hn : 0 < n := by omega
  unfold farI
  rw [hm_is hn, mod_far (hm_lt hn g) hp]
theorem nx_is {n p : Nat} (hp : p < n) : ((p : Int) + 1) % (n : Int) = (Ring.nx n p : Int) := by
  unfold Ring.nx
  split
  · rw [Int.emod_eq_of_lt (by omega) (by omega)]; omega
  · have : (p : Int) + 1 = n := by omega
    rw [this, Int.emod_self]; rfl
theorem pv_is {n p : Nat} (hp : p < n) : ((p : Int) - 1) % (n : Int) = (Ring.pv n p : Int) := by
  unfold Ring.pv
  split
  · rename_i e
    rw [← Int.add_emod_right, Int.emod_eq_of_lt (by omega) (by omega)]; omega
  · rw [Int.emod_eq_of_lt (by omega) (by omega)]; omega
theorem ahead_is {n p : Nat} (hp : p < n) (a b : Int) : aheadI a b p n = decide (Ring.Ah n (hm n) a b p) := by
  unfold aheadI Ring.Ah
  rw [far_is hp, far_is hp]
  refine decide_eq_decide.mpr ?_
  constructor
  · rintro (h | ⟨h1, h2⟩)
    · exact .inl (by omega)
    · exact .inr ⟨by omega, h2⟩
  · rintro (h | ⟨h1, h2⟩)
    · exact .inl (by omega)
    · exact .inr ⟨by omega, h2⟩
end RS
/-! ### words of our own: a def that stands behind the top, a def that keeps its promise, the call of one -/
namespace RS
open PySem PySem.Spec PyProof.Rows L2

abbrev rAdd : R2 := rI0 fun i j => .int (i + j)
abbrev rSub : R2 := rI0 fun i j => .int (i - j)
abbrev rMod : R2 := rI (fun _ j => 0 < j) fun i j => .int (i % j)
abbrev rFdv : R2 := rI CDiv fun i j => .int (i / j)
abbrev rLt : R2 := rI0 fun i j => .bl (decide (i < j))
abbrev rLe : R2 := rI0 fun i j => .bl (decide (i ≤ j))
abbrev rGt : R2 := rI0 fun i j => .bl (decide (j < i))
abbrev rGe : R2 := rI0 fun i j => .bl (decide (j ≤ i))
abbrev rNeg : V → Hp → VK → Prop := rU fun i => .int (-i)
/-- one factor within 64 bits -/
def CMl (i j : Int) : Prop := (-18446744073709551616 < i ∧ i < 18446744073709551616) ∨ (-18446744073709551616 < j ∧ j < 18446744073709551616)
theorem CMl.ok {i j : Int} (h : CMl i j) : CMul i j := h
abbrev rMul : R2 := rI CMl fun i j => .int (i * j)
theorem op_mulL {X : Cx} : OpR X (binaryOp .Mult) rMul := by
  intro pins s σ H x y u v Q I rx ry h
  obtain ⟨i, j, hx, hy, hc, q⟩ := h
  exact op_mul pins s σ H x y u v Q I rx ry ⟨i, j, hx, hy, hc.ok, q⟩
/-- a power of two written numbers, by its value -/
theorem pe_pow {X : Cx} {a b : Int} {m n N : Nat} {j1 j2 : Nat} {p1 p2 pos : Pos} (ha : a = (m : Int)) (hb : b = (n : Int)) (hN : m ^ n = N) (hn : (n : Int) ≤ 1000000) (hm : m < 18446744073709551616) :
    PE X (.BinOp (.Constant (.int a) j1 p1) .Pow (.Constant (.int b) j2 p2) pos) (tC (.int (N : Int))) := by
  refine ⟨fun pins s σ H Q I h => ?_⟩
  refine (pe_op op_pow pe_int pe_int).run pins s σ H Q I ⟨a, b, rfl, rfl, ⟨by omega, by omega, by subst ha; rw [Int.natAbs_natCast]; exact hm⟩, ?_⟩
  show Q (.int (a ^ b.toNat)) H
  rw [hb, Int.toNat_natCast, ha, ← Int.natCast_pow, hN]
  exact h
def rLenS (K : PySem.W.Frag) : List V → Hp → VK → Prop := fun xs H Q => ∃ p ys, xs = [.ref p] ∧ (SqL K H p ys ∨ SqT K H p ys) ∧ Q (.int ys.length) H
def rLenD : List V → Hp → VK → Prop := fun xs H Q => ∃ a kvs, xs = [V.ref a] ∧ H a = some (.dK kvs) ∧ Q (.int kvs.length) H
def rListS (K : PySem.W.Frag) : List V → Hp → VK → Prop := fun xs H Q => ∃ p ys, xs = [.ref p] ∧ (SqL K H p ys ∨ SqT K H p ys) ∧ ∀ l, H l = none → Q (.ref l) (upd H l (.lst ys))
def rMax2 : List V → Hp → VK → Prop := fun xs H Q => ∃ i j, xs = [.int i, .int j] ∧ Q (.int (if j > i then j else i)) H
def rMin2 : List V → Hp → VK → Prop := fun xs H Q => ∃ i j, xs = [.int i, .int j] ∧ Q (.int (if j < i then j else i)) H
def rInt1 : List V → Hp → VK → Prop := fun xs H Q => (∃ i, xs = [.int i] ∧ Q (.int i) H) ∨ ∃ k, xs = [.bl k] ∧ Q (.int (if k then 1 else 0)) H
def rStr1 : List V → Hp → VK → Prop := fun xs H Q => ∃ i, xs = [.int i] ∧ i.natAbs.log2 < 1920 ∧ Q (.str (toString i)) H

/-- the program's classes, by where they stand -/
structure Cs where
  cRingError : Addr
  cNoGuest : Addr
  cNoSize : Addr
  cTwice : Addr
  cAway : Addr
  cFull : Addr
  cHouse : Addr

/-- a def of the text, by its name -/
structure Def (K : PySem.W.Frag) (mg : Str → Option Value) (x : Str) (st : Stmt) : Prop where
  ex : ∃ f fd, Fun K x x st f fd ∧ mg x = some (.ref f)
theorem def_mk {K : PySem.W.Frag} {h : Heap} {mg : Str → Option Value} {x : Str} {st : Stmt} {f : Addr} (X : K.In h) (G : h.Ns mainGlobals mg)
    {od an : Option Addr} {sl : Array (Option Value)} {oc kV dc pm cd ct : Value}
    (a : PySem.W.nsIn K mainGlobals x = some (some (.ref f))) (l : K.lookup f = some ⟨oc, od, .func (PySem.W.fnOf x x (defArgs st) (defBody st) (defScope st) .none kV dc pm an cd ct), sl⟩)
    (c : PySem.W.codeIn K cd x = true) (k : PySem.W.keepIn K (.ref f) = true) : Def K mg x st :=
  ⟨f, _, fun_mk l c k, PySem.W.mg_of X G a⟩

/-- a def that keeps its promise, by its name -/
structure Cal (P : Program) (w : World) (K : PySem.W.Frag) (mg : Str → Option Value) (base : Heap) (CX : CXT) (k : Nat) (x : Str) (ps : List Str) (sp : Sp) : Prop where
  ex : ∃ f fd, FnOk P w K mg base CX k f fd ps sp ∧ mg x = some (.ref f) ∧ PySem.W.keepIn K (.ref f) = true ∧ Binds K fd ps []
section
variable {X : Cx} {CX : CXT} {k : Nat} {ps : List Str} {sp : Sp} {E : XK} {x : Str} {p pos : Pos} {e : Expr} {es : List Expr} {t : TA}
theorem pe_fn (c : Cal X.prog X.w X.K X.mg X.base CX k x ps sp) (hr : Room k X.A) (hx : Passes CX X E) (ha : PA X (e :: es) t) (hg : Gl X x := by rfl) (hdb : (x == ("__debug__" : Str)) = false := by decide)
    (he : starEach (e :: es) X.env = (false, eval e X.env) :: starEach es X.env := by rfl) (hpl : (backTo pos (starEach es X.env)).any (·.1) = false := by rfl) :
    PE X (.Call (.Name x p) (e :: es) [] pos) (tCall sp [] E t) := by
  obtain ⟨f, fd, G, hm, hk, hb⟩ := c.ex
  exact pe_call G hr hg hm hk hb .nil hx ha hdb he hpl
end
theorem iteB {c : Bool} {A B : Prop} (h1 : c = true → A) (h2 : c = false → B) : if c = true then A else B := by
  cases c with
  | true => rw [if_pos rfl]; exact h1 rfl
  | false => rw [if_neg Bool.false_ne_true]; exact h2 rfl
end RS
/-! ### isinstance of the built-in kinds, by what a value is -/
namespace RS
open PySem PySem.Spec PyProof.Rows L2
inductive Ty where
  | int | bool | none | str | list | tuple | dict
  deriving DecidableEq
def Ty.nm : Ty → String
  | .int => "int" | .bool => "bool" | .none => "NoneType" | .str => "str" | .list => "list" | .tuple => "tuple" | .dict => "dict"
def Ty.isA : Ty → Ty → Bool
  | .int, .int => true | .bool, .bool => true | .bool, .int => true | .none, .none => true | .str, .str => true | .list, .list => true | .tuple, .tuple => true | .dict, .dict => true | _, _ => false
def hoTy : HO → Option Ty
  | .lst _ => some .list | .tup _ => some .tuple | .dK _ => some .dict | .frz _ (.lst _) => some .list | _ => Option.none
def tyOf (H : Hp) : V → Option Ty
  | .int _ => some .int | .bl _ => some .bool | .non => some .none | .str _ => some .str
  | .ref a => (H a).bind hoTy
  | _ => Option.none
theorem tyOf_int {H : Hp} {i : Int} : tyOf H (.int i) = some .int := rfl
theorem tyOf_bl {H : Hp} {i : Bool} : tyOf H (.bl i) = some .bool := rfl
theorem tyOf_non {H : Hp} : tyOf H .non = some .none := rfl
theorem tyOf_str {H : Hp} {i : Str} : tyOf H (.str i) = some .str := rfl
theorem tyX_of {K : PySem.W.Frag} {H : Hp} {x : V} {s : Ty} (h : tyOf H x = some s) : TyX K H x (.type s.nm) := by
  cases x with
  | int i => cases h; exact .base (.int i)
  | bl b => cases h; exact .base (.bl b)
  | non => cases h; exact .base .non
  | str z => cases h; exact .base (.str z)
  | byt b => cases h
  | flt b => cases h
  | ty n => cases h
  | ref a =>
    have h' : (H a).bind hoTy = some s := h
    cases e : H a with
    | none => rw [e] at h'; cases h'
    | some o =>
      rw [e] at h'
      have h2 : hoTy o = some s := h'
      cases o with
      | lst xs => cases h2; exact .base (.lst e)
      | tup xs => cases h2; exact .base (.tup e)
      | dK kvs => cases h2; exact .base (.dK e)
      | frz ob u =>
        cases u with
        | lst xs => cases h2; exact .base (.frz e)
        | _ => cases h2
      | _ => cases h2
theorem kit_is : ∀ s c : Ty, (c = .int ∨ c = .bool ∨ c = .list ∨ c = .tuple) → kitB s.nm c.nm = some (s.isA c) := by
  intro s c hc
  rcases hc with rfl | rfl | rfl | rfl <;> cases s <;> decide +kernel
def isWh : V → Bool
  | .int _ => true
  | _ => false
theorem isWh_int {i : Int} : isWh (.int i) = true := rfl
theorem isWh_bl {i : Bool} : isWh (.bl i) = false := rfl
theorem isWh_non : isWh .non = false := rfl
theorem isWh_ref {i : Addr} : isWh (.ref i) = false := rfl
def rIsA (c : Ty) : List V → Hp → VK → Prop := fun xs H Q => ∃ x s, xs = [x, .ty c.nm] ∧ tyOf H x = some s ∧ Q (.bl (s.isA c)) H
theorem call_isA {X : Cx} {c : Ty} (hc : c = .int ∨ c = .bool ∨ c = .list ∨ c = .tuple := by first | exact .inl rfl | exact .inr (.inl rfl) | exact .inr (.inr (.inl rfl)) | exact .inr (.inr (.inr rfl))) : CallR X (.builtin "isinstance") (rIsA c) := by
  intro pins s σ H xs us Q I r h
  obtain ⟨x, t, rfl, ht, q⟩ := h
  exact call_isi pins s σ H _ us Q I r ⟨x, .ty c.nm, _, _, _, rfl, .ty _, tyX_of ht, kit_ty (kit_is t c hc), q⟩

/-! ### steps -/
section
variable {K : PySem.W.Frag} {ta : TA} {te tl : TE} {g : TG} {tb t u : TS} {c : TT} {D : Ends} {σ : L2.St} {H H' : Hp}
theorem for_rng1 {j : Int} {n : Nat} (hta : ∀ R : List V → Hp → Prop, R [.int j] H' → ta σ H R) (hj : j = (n : Int)) (hn : n < 2 ^ 62) (Pv : Nat → L2.St → Hp → Prop) (h0 : Pv 0 σ H')
    (hs : ∀ (i : Nat) σ H, i < n → Pv i σ H → g (.int (i : Int)) σ H fun σ2 H2 => tb { D with nx := Pv (i + 1), ct := Pv (i + 1), bk := D.nx } σ2 H2) (hd : ∀ σ H, Pv n σ H → D.nx σ H) : tFor (iRng1 ta) g tb D σ H := by
  subst hj
  refine hta _ ⟨(n : Int), rfl, ?_, ?_, ?_⟩
  · have : (0 : Int) ≤ n := Int.natCast_nonneg n
    omega
  · omega
  · rw [Int.toNat_natCast]
    exact for_range (lo := 0) Pv h0 (fun i σ H hi p => by rw [Int.zero_add]; exact hs i σ H hi p) hd
theorem for_lst {a : Addr} {xs : List V} (htl : ∀ R : VK, R (.ref a) H' → tl σ H R) (hx : SqL K H' a xs) (Pv : Nat → L2.St → Hp → Prop) (h0 : Pv 0 σ H') (hl : ∀ i σ H, i ≤ xs.length → Pv i σ H → SqL K H a xs)
    (hs : ∀ i x σ H, xs[i]? = some x → Pv i σ H → g x σ H fun σ2 H2 => tb { D with nx := Pv (i + 1), ct := Pv (i + 1), bk := D.nx } σ2 H2) (hd : ∀ σ H, Pv xs.length σ H → D.nx σ H) : tFor (iList K tl) g tb D σ H :=
  htl _ ⟨a, rfl, ⟨xs, hx⟩, for_list Pv h0 hl hs hd⟩
theorem if_step {b : Bool} (hc : ∀ R : Bool → Hp → Prop, R b H' → c σ H R) (h1 : b = true → t D σ H') (h2 : b = false → u D σ H') : tIfS c t u D σ H := hc _ (iteB h1 h2)
theorem asg_step {v : V} {i : Nat} (he : ∀ R : VK, R v H' → te σ H R) (h : D.nx (σ.set i (some v)) H') : tAsg te (gName i) D σ H := he _ h
end
end RS
namespace RS
open PySem PySem.Spec PyProof.Rows L2
section
variable {K : PySem.W.Frag} {ta : TA} {te tl : TE} {g : TG} {tb t u : TS} {c : TT} {D : Ends} {σ : L2.St} {H H' : Hp}
theorem asg_ext {v : V} {i : Nat} (he : ∀ R : VK, (∀ H', Same H H' → R v H') → te σ H R) (h : ∀ H', Same H H' → D.nx (σ.set i (some v)) H') : tAsg te (gName i) D σ H := he _ h
theorem if_ext {b : Bool} (hc : ∀ R : Bool → Hp → Prop, (∀ H', Same H H' → R b H') → c σ H R) (h1 : b = true → ∀ H', Same H H' → t D σ H') (h2 : b = false → ∀ H', Same H H' → u D σ H') : tIfS c t u D σ H :=
  hc _ fun H' s => iteB (fun e => h1 e H' s) (fun e => h2 e H' s)
theorem same_new {p : Addr} {o : HO} (h : H p = none) : Same H (upd H p o) := fun b x e => by
  rw [upd_ne (ne_of_none e h)]
  exact e
theorem sizes {n : Nat} (h : n ≤ 100000) : n ≤ sizeLine := Nat.le_trans h (by decide)
theorem sizel {n : Nat} (h : n < 100000) : n < sizeLine := Nat.lt_of_lt_of_le h (by decide)
end
end RS
namespace RS
open PySem PySem.Spec PyProof.Rows L2
/-- an if behind which the ways meet: D is a letter in both -/
theorem if_join {c : TT} {t u : TS} {D : Ends} {σ : L2.St} {H : Hp} {b : Bool} (P : L2.St → Hp → Prop) (hc : ∀ R : Bool → Hp → Prop, (∀ H', Same H H' → R b H') → c σ H R)
    (h1 : b = true → ∀ H', Same H H' → ∀ D' : Ends, D'.rt = D.rt → D'.bk = D.bk → D'.ct = D.ct → (∀ σ' H', P σ' H' → D'.nx σ' H') → t D' σ H')
    (h2 : b = false → ∀ H', Same H H' → ∀ D' : Ends, D'.rt = D.rt → D'.bk = D.bk → D'.ct = D.ct → (∀ σ' H', P σ' H' → D'.nx σ' H') → u D' σ H')
    (rest : ∀ σ' H', P σ' H' → D.nx σ' H') : tIfS c t u D σ H :=
  hc _ fun H' s => iteB (fun e => h1 e H' s D rfl rfl rfl rest) (fun e => h2 e H' s D rfl rfl rfl rest)
end RS
namespace RS
open PySem PySem.Spec PyProof.Rows L2
section
variable {K : PySem.W.Frag} {ta : TA} {te tl : TE} {g : TG} {tb t u : TS} {c : TT} {D : Ends} {σ : L2.St} {H H' : Hp}
/-- what is known of the value and the heap behind it: P -/
theorem asg_any {i : Nat} (P : V → Hp → Prop) (he : ∀ R : VK, (∀ v H', P v H' → R v H') → te σ H R) (h : ∀ v H', P v H' → D.nx (σ.set i (some v)) H') : tAsg te (gName i) D σ H := he _ h
theorem ret_any (P : V → Hp → Prop) (he : ∀ R : VK, (∀ v H', P v H' → R v H') → te σ H R) (h : ∀ v H', P v H' → D.rt v H') : tRet te D σ H := he _ h
theorem drop_any (P : V → Hp → Prop) (he : ∀ R : VK, (∀ v H', P v H' → R v H') → te σ H R) (h : ∀ v H', P v H' → D.nx σ H') : tDrop te D σ H := he _ h
theorem if_any {b : Bool} (P : Hp → Prop) (hc : ∀ R : Bool → Hp → Prop, (∀ H', P H' → R b H') → c σ H R) (h1 : b = true → ∀ H', P H' → t D σ H') (h2 : b = false → ∀ H', P H' → u D σ H') : tIfS c t u D σ H :=
  hc _ fun H' s => iteB (fun e => h1 e H' s) (fun e => h2 e H' s)
theorem for_rng3 {a b c : Int} {n : Nat} (hta : ∀ R : List V → Hp → Prop, R [.int a, .int b, .int c] H' → ta σ H R) (hn : RgC a b c n) (Pv : Nat → L2.St → Hp → Prop) (h0 : Pv 0 σ H')
    (hs : ∀ (i : Nat) σ H, i < n → Pv i σ H → g (.int (a + (i : Int) * c)) σ H fun σ2 H2 => tb { D with nx := Pv (i + 1), ct := Pv (i + 1), bk := D.nx } σ2 H2) (hd : ∀ σ H, Pv n σ H → D.nx σ H) : tFor (iRng3 ta) g tb D σ H :=
  hta _ ⟨a, b, c, n, rfl, hn, for_rangeC Pv h0 hs hd⟩
end
theorem rgc_2 {N : Int} (h1 : 0 < N) (h2 : N ≤ 100000) : RgC 0 N 2 ((N - 1) / 2 + 1).toNat := by
  have e : Builtin.Range.rangeSize 0 N 2 = (N - 1) / 2 + 1 := by
    unfold Builtin.Range.rangeSize
    rw [if_pos (by decide), if_pos h1, Int.sub_zero]
  refine ⟨by decide, by decide, ?_, by rw [e]; omega⟩
  unfold Builtin.Range.small
  rw [e]
  simp only [Builtin.Range.rangeFitsLong, Bool.and_eq_true, Bool.or_eq_true, decide_eq_true_eq, beq_iff_eq, show ((2 : Int) > 0) by decide, if_true]
  omega
theorem rgc_4 {N : Int} (h1 : 0 < N) (h2 : N ≤ 100000) : RgC 0 N 4 ((N - 1) / 4 + 1).toNat := by
  have e : Builtin.Range.rangeSize 0 N 4 = (N - 1) / 4 + 1 := by
    unfold Builtin.Range.rangeSize
    rw [if_pos (by decide), if_pos h1, Int.sub_zero]
  refine ⟨by decide, by decide, ?_, by rw [e]; omega⟩
  unfold Builtin.Range.small
  rw [e]
  simp only [Builtin.Range.rangeFitsLong, Bool.and_eq_true, Bool.or_eq_true, decide_eq_true_eq, beq_iff_eq, show ((4 : Int) > 0) by decide, if_true]
  omega
theorem tyOf_same {H H' : Hp} {x : V} {s : Ty} (h : tyOf H x = some s) (e : Same H H') : tyOf H' x = some s := by
  cases x with
  | ref a =>
    have h' : (H a).bind hoTy = some s := h
    show (H' a).bind hoTy = some s
    cases q : H a with
    | none => rw [q] at h'; cases h'
    | some o => rw [e a o q]; rw [q] at h'; exact h'
  | _ => exact h
theorem tyOf_at {H : Hp} {a : Addr} {o : HO} {s : Ty} (h : H a = some o) (e : hoTy o = some s) : tyOf H (.ref a) = some s := by
  show (H a).bind hoTy = some s
  rw [h]; exact e
end RS
namespace RS
open PySem PySem.Spec PyProof.Rows L2
section
variable {K : PySem.W.Frag} {tl : TE} {g : TG} {tb : TS} {D : Ends} {σ : L2.St} {H H' : Hp}
/-- a for over a list that is made there: what is known of it and the heap is P -/
theorem for_any (P : Addr → List V → Hp → Prop) (htl : ∀ R : VK, (∀ a xs H', P a xs H' → R (.ref a) H') → tl σ H R)
    (hb : ∀ a xs H', P a xs H' → SqL K H' a xs ∧ ∃ Pv : Nat → L2.St → Hp → Prop, Pv 0 σ H' ∧ (∀ i σ H, i ≤ xs.length → Pv i σ H → SqL K H a xs) ∧
      (∀ i x σ H, xs[i]? = some x → Pv i σ H → g x σ H fun σ2 H2 => tb { D with nx := Pv (i + 1), ct := Pv (i + 1), bk := D.nx } σ2 H2) ∧ ∀ σ H, Pv xs.length σ H → D.nx σ H) : tFor (iList K tl) g tb D σ H :=
  htl _ fun a xs H' p => by
    obtain ⟨hx, Pv, h0, hl, hs, hd⟩ := hb a xs H' p
    exact ⟨a, rfl, ⟨xs, hx⟩, for_list Pv h0 hl hs hd⟩
end
end RS
namespace RS
open PySem PySem.Spec PyProof.Rows L2
/-- a while whose test leaves the heap -/
theorem while_step {c : TT} {tb : TS} {D : Ends} {σ : L2.St} {H : Hp} (W : Nat → L2.St → Hp → Prop) (h0 : ∃ m, W m σ H)
    (hs : ∀ m σ H, W m σ H → ∃ b : Bool, (∀ R : Bool → Hp → Prop, R b H → c σ H R) ∧
      (b = true → tb { D with nx := fun σ' H' => ∃ m', m' < m ∧ W m' σ' H', ct := fun σ' H' => ∃ m', m' < m ∧ W m' σ' H', bk := D.nx } σ H) ∧ (b = false → D.nx σ H)) : tWhile c tb D σ H := by
  refine ⟨W, h0, fun m σ H w => ?_⟩
  obtain ⟨b, hc, h1, h2⟩ := hs m σ H w
  exact hc _ (iteB (fun e => ⟨_, fun _ _ z => z, h1 e⟩) h2)
end RS
namespace RS
open PySem PySem.Spec PyProof.Rows L2
/-- for i, x in enumerate(xs): the pair is laid anew -/
theorem for_enum {K : PySem.W.Frag} {ta : TA} {g : TG} {tb : TS} {D : Ends} {σ : L2.St} {H H' : Hp} {a : Addr} {xs : List V} (hta : ∀ R : List V → Hp → Prop, R [.ref a] H' → ta σ H R) (hx : SqL K H' a xs) (Pv : Nat → L2.St → Hp → Prop) (h0 : Pv 0 σ H')
    (hl : ∀ i σ H, Pv i σ H → SqL K H a xs)
    (hs : ∀ i x σ H, xs[i]? = some x → Pv i σ H → ∀ T, H T = none → g (.ref T) σ (upd H T (.tup [.int (i : Nat), x])) fun σ2 H2 => tb { D with nx := Pv (i + 1), ct := Pv (i + 1), bk := D.nx } σ2 H2) (hd : ∀ σ H, Pv xs.length σ H → D.nx σ H) : tFor (iEnum K ta) g tb D σ H := by
  refine hta _ ⟨a, xs, rfl, hx, fun i m σ H => m = xs.length - i ∧ i ≤ xs.length ∧ Pv i σ H, ⟨xs.length, by simp, Nat.zero_le _, h0⟩, ?_⟩
  rintro i m σ H ⟨rfl, hi, p⟩
  have q := hl i σ H p
  by_cases hlt : i < xs.length
  · refine .inr ⟨⟨xs, xs[i], q, by simp [hlt]⟩, Pv (i + 1), fun σ' H' p' => ⟨xs.length - (i + 1), by omega, rfl, hlt, p'⟩, fun v H1 y => ?_⟩
    obtain ⟨T, x, rfl, hT, rfl, hx⟩ := y
    exact hs i x σ H (hx xs q) p T hT
  · have e : i = xs.length := by omega
    subst e
    exact .inl ⟨⟨xs, q, Nat.le_refl _⟩, hd σ H p⟩
end RS
namespace RS
open PySem PySem.Spec PyProof.Rows L2
/-- xs[i] = v -/
theorem set_step {te to ti : TE} {D : Ends} {σ : L2.St} {H H' : Hp} {v : V} {a : Addr} {xs : List V} {z : Int} {j : Nat} (he : ∀ R : VK, R v H' → te σ H R) (ho : ∀ R : VK, R (.ref a) H' → to σ H' R) (hi : ∀ R : VK, R (.int z) H' → ti σ H' R)
    (hx : H' a = some (.lst xs)) (hj : ixN xs.length z = some j) (h : D.nx σ (upd H' a (.lst (xs.set j v)))) : tAsg te (gSub to ti rSetL) D σ H :=
  he _ (ho _ (hi _ ⟨a, xs, z, j, rfl, rfl, hx, hj, h⟩))
theorem var_is {σ : L2.St} {i : Nat} {v : V} (h : σ[i]? = some (some v)) {R : VK} {H : Hp} (r : R v H) : tVar i σ H R := ⟨v, h, r⟩
end RS
namespace RS
open PySem PySem.Spec PyProof.Rows L2
/-- d[k] = v -/
theorem dput_step {td ty tv : TE} {D : Ends} {σ : L2.St} {H H' : Hp} {v : V} {d : Addr} {kvs : List (Key × V)} {k : Key} (hv : ∀ R : VK, R v H' → tv σ H R) (hd : ∀ R : VK, R (.ref d) H' → td σ H' R) (hk : ∀ R : VK, R (kV k) H' → ty σ H' R)
    (hx : H' d = some (.dK kvs)) (hl : kvs.length < sizeLine) (h : D.nx σ (upd H' d (.dK (putK kvs k v)))) : sDPut td ty tv D σ H :=
  hv _ (hd _ (hk _ ⟨d, _, rfl, DPut.k hx hl, h⟩))
end RS
namespace RS
open PySem PySem.Spec PyProof.Rows L2
section
variable {K : PySem.W.Frag} {ta : TA} {te tl : TE} {tt : TT} {vs : List Nat} {σ : L2.St} {H H' : Hp} {Q : VK} {k : Nat}
/-- a comprehension over range(n) that leaves the heap: P by the turn and what is made so far -/
theorem lc_rng1 {j : Int} {n : Nat} (hta : ∀ R : List V → Hp → Prop, R [.int j] H' → ta σ H R) (hj : j = (n : Int)) (hn : n ≤ 100000) (hw : ∀ x, wipe ((wipe σ vs).set k (some x)) vs = wipe σ vs) (P : Nat → List V → Prop) (h0 : P 0 [])
    (hs : ∀ (i : Nat) acc H2, i < n → Same H' H2 → P i acc → ∃ b : Bool, (∀ R : Bool → Hp → Prop, R b H2 → tt ((wipe σ vs).set k (some (.int (i : Int)))) H2 R) ∧
      (b = true → ∃ v, (∀ R : VK, R v H2 → te ((wipe σ vs).set k (some (.int (i : Int)))) H2 R) ∧ P (i + 1) (acc ++ [v])) ∧ (b = false → P (i + 1) acc))
    (hd : ∀ D H3 acc, H' D = none → Same H' H3 → H3 D = some (.lst acc) → P n acc → acc.length ≤ n → Q (.ref D) H3) : tLc (iRng1 ta) (gName k) tt te vs σ H Q := by
  subst hj
  refine hta _ ⟨(n : Int), rfl, ?_, ?_, ?_⟩
  · have : (0 : Int) ≤ n := Int.natCast_nonneg n
    omega
  · omega
  rw [Int.toNat_natCast]
  intro D hD
  refine lc_range (lo := 0) (fun i H2 => Same H' H2 ∧ ∃ acc, H2 D = some (.lst acc) ∧ P i acc ∧ acc.length ≤ i) ⟨same_new hD, [], upd_same, h0, Nat.le_refl _⟩ ?_ ?_
  · rintro i H2 hi ⟨sm, acc, ha, p, hl⟩
    rw [Int.zero_add]
    obtain ⟨b, h1, h2, h3⟩ := hs i acc H2 hi sm p
    refine ⟨hw _, h1 _ ?_⟩
    cases b with
    | true =>
      obtain ⟨v, h4, h5⟩ := h2 rfl
      rw [if_pos rfl]
      refine h4 _ ⟨acc, ha, sizel (by omega), fun b o hb => ?_, _, upd_same, h5, by rw [List.length_append]; simp; omega⟩
      rw [upd_ne (fun z => by rw [z, hD] at hb; cases hb)]; exact sm _ _ hb
    | false =>
      rw [if_neg (by decide)]
      exact ⟨sm, acc, ha, h3 rfl, by omega⟩
  · rintro H2 ⟨sm, acc, ha, p, hl⟩
    exact hd D H2 acc hD sm ha p hl
theorem lc_lst {a : Addr} {xs : List V} (htl : ∀ R : VK, R (.ref a) H' → tl σ H R) (hx : SqL K H' a xs) (hn : xs.length ≤ 90000) (hw : ∀ x, wipe ((wipe σ vs).set k (some x)) vs = wipe σ vs) (P : Nat → List V → Prop) (h0 : P 0 [])
    (hs : ∀ (i : Nat) x acc H2, xs[i]? = some x → Same H' H2 → P i acc → ∃ b : Bool, (∀ R : Bool → Hp → Prop, R b H2 → tt ((wipe σ vs).set k (some x)) H2 R) ∧
      (b = true → ∃ v, (∀ R : VK, R v H2 → te ((wipe σ vs).set k (some x)) H2 R) ∧ P (i + 1) (acc ++ [v])) ∧ (b = false → P (i + 1) acc))
    (hd : ∀ D H3 acc, H' D = none → Same H' H3 → H3 D = some (.lst acc) → P xs.length acc → acc.length ≤ xs.length → Q (.ref D) H3) : tLc (iList K tl) (gName k) tt te vs σ H Q := by
  refine htl _ ⟨a, rfl, ⟨xs, hx⟩, ?_⟩
  intro D hD
  refine lc_list (xs := xs) (fun i H2 => Same H' H2 ∧ ∃ acc, H2 D = some (.lst acc) ∧ P i acc ∧ acc.length ≤ i) ⟨same_new hD, [], upd_same, h0, Nat.le_refl _⟩ (fun i H2 _ p => p.1.seq hx) ?_ ?_
  · rintro i x H2 hi ⟨sm, acc, ha, p, hl⟩
    have hlt := (List.getElem?_eq_some_iff.mp hi).1
    obtain ⟨b, h1, h2, h3⟩ := hs i x acc H2 hi sm p
    refine ⟨hw _, h1 _ ?_⟩
    cases b with
    | true =>
      obtain ⟨v, h4, h5⟩ := h2 rfl
      rw [if_pos rfl]
      refine h4 _ ⟨acc, ha, sizel (by omega), fun b o hb => ?_, _, upd_same, h5, by rw [List.length_append]; simp; omega⟩
      rw [upd_ne (fun z => by rw [z, hD] at hb; cases hb)]; exact sm _ _ hb
    | false =>
      rw [if_neg (by decide)]
      exact ⟨sm, acc, ha, h3 rfl, by omega⟩
  · rintro H2 ⟨sm, acc, ha, p, hl⟩
    exact hd D H2 acc hD sm ha p hl
end
end RS
namespace RS
open PySem PySem.Spec PyProof.Rows L2
theorem for_tp {K : PySem.W.Frag} {tl : TE} {g : TG} {tb : TS} {D : Ends} {σ : L2.St} {H H' : Hp} {a : Addr} {xs : List V} (htl : ∀ R : VK, R (.ref a) H' → tl σ H R) (hx : SqT K H' a xs) (Pv : Nat → L2.St → Hp → Prop) (h0 : Pv 0 σ H') (hl : ∀ i σ H, i ≤ xs.length → Pv i σ H → SqT K H a xs)
    (hs : ∀ i x σ H, xs[i]? = some x → Pv i σ H → g x σ H fun σ2 H2 => tb { D with nx := Pv (i + 1), ct := Pv (i + 1), bk := D.nx } σ2 H2) (hd : ∀ σ H, Pv xs.length σ H → D.nx σ H) : tFor (iTup K tl) g tb D σ H :=
  htl _ ⟨a, rfl, ⟨xs, hx⟩, for_tup Pv h0 hl hs hd⟩
end RS
namespace RS
open PySem PySem.Spec PyProof.Rows L2
theorem seqT_of {K : PySem.W.Frag} {H H' : Hp} {a : Addr} {xs : List V} (e : Same H H') (h : SqT K H a xs) : SqT K H' a xs := by
  rcases h with (h | ⟨o, h⟩) | h
  · exact .inl (.inl (e _ _ h))
  · exact .inl (.inr ⟨o, e _ _ h⟩)
  · exact .inr h
end RS
namespace RS
open PySem PySem.Spec PyProof.Rows L2
theorem gtup2 {K : PySem.W.Frag} {i j : Nat} {p : Addr} {x y : V} {σ : L2.St} {H : Hp} {Q : L2.St → Hp → Prop} (h : H p = some (.tup [x, y])) (q : Q ((σ.set i (some x)).set j (some y)) H) : gTup K 2 (gCons (gName i) (gCons (gName j) gNil)) (.ref p) σ H Q :=
  ⟨p, _, rfl, .inl (.inl h), rfl, ⟨_, _, rfl, ⟨_, _, rfl, rfl, q⟩⟩⟩
end RS
namespace RS
open PySem PySem.Spec PyProof.Rows L2
theorem nxt_seq {a b : TS} {D0 : Ends} {σ : L2.St} {H : Hp} {r : VK} {bk ct : L2.St → Hp → Prop} (h : a { D0 with nx := b D0 } σ H) : tNext { nx := tSeq a b D0, rt := r, bk := bk, ct := ct } σ H := h
end RS
/-! ### a ring of seats as a list -/
namespace RS
open PySem PySem.Spec PyProof.Rows L2
def ov : Option Int → V
  | .none => .non
  | .some g => .int g
theorem ov_non : ov none = .non := rfl
theorem ov_some {g : Int} : ov (some g) = .int g := rfl
theorem ov_inj {a b : Option Int} (h : ov a = ov b) : a = b := by
  cases a <;> cases b <;> simp [ov] at h ⊢
  exact h
def row (n : Nat) (f : Nat → Option Int) : List V := (List.range n).map fun p => ov (f p)
theorem row_len {n : Nat} {f : Nat → Option Int} : (row n f).length = n := by unfold row; rw [List.length_map, List.length_range]
theorem row_get {n : Nat} {f : Nat → Option Int} {p : Nat} (hp : p < n) : (row n f)[p]? = some (ov (f p)) := by
  unfold row; rw [List.getElem?_map, List.getElem?_range hp]; rfl
theorem row_some {n : Nat} {f : Nat → Option Int} {p : Nat} {v : V} (h : (row n f)[p]? = some v) : p < n ∧ v = ov (f p) := by
  have hp : p < n := by
    have := (List.getElem?_eq_some_iff.mp h).1
    rw [row_len] at this; exact this
  rw [row_get hp] at h
  exact ⟨hp, (Option.some.inj h).symm⟩
theorem row_ext {n : Nat} {f f' : Nat → Option Int} (h : ∀ p, p < n → f p = f' p) : row n f = row n f' := by
  unfold row
  exact List.map_congr_left fun p hp => by rw [h p (List.mem_range.mp hp)]
theorem row_inj {n : Nat} {f f' : Nat → Option Int} (h : row n f = row n f') (p : Nat) (hp : p < n) : f p = f' p := by
  have := row_get (f := f) hp
  rw [h, row_get hp] at this
  exact (ov_inj (Option.some.inj this)).symm
theorem row_set {n : Nat} {f : Nat → Option Int} {p : Nat} {v : Option Int} : (row n f).set p (ov v) = row n (Ring.fup f p v) := by
  refine List.ext_getElem? fun q => ?_
  by_cases hq : q < n
  · rw [row_get hq, List.getElem?_set]
    by_cases w : p = q
    · subst w; rw [if_pos rfl, if_pos (by rw [row_len]; exact hq), Ring.fup_same]
    · rw [if_neg w, row_get hq, Ring.fup_ne (fun e => w e.symm)]
  · rw [List.getElem?_eq_none (by rw [List.length_set, row_len]; omega), List.getElem?_eq_none (by rw [row_len]; omega)]
theorem row_none {n : Nat} : (List.replicate n [V.non]).flatten = row n fun _ => none := by
  refine List.ext_getElem? fun q => ?_
  have e : (List.replicate n [V.non]).flatten = List.replicate n V.non := by
    induction n with
    | zero => rfl
    | succ n ih => rw [List.replicate_succ, List.flatten_cons, ih]; rfl
  rw [e]
  by_cases hq : q < n
  · rw [row_get hq, List.getElem?_replicate, if_pos hq]; rfl
  · rw [List.getElem?_eq_none (by rw [List.length_replicate]; omega), List.getElem?_eq_none (by rw [row_len]; omega)]
theorem row_at {n : Nat} {f : Nat → Option Int} {p : Nat} (hp : p < n) : atI (row n f) (p : Int) = some (ov (f p)) := at_of (j := p) rfl (row_get hp)
theorem row_ix {n : Nat} {f : Nat → Option Int} {p : Nat} (hp : p < n) : ixN (row n f).length (p : Int) = some p := by
  rw [row_len]; unfold ixN; rw [if_pos (by omega), if_pos (by omega), Int.toNat_natCast]
/-- a heap but for one list -/
def Off (a : Addr) (H H' : Hp) : Prop := ∀ b o, b ≠ a → H b = some o → H' b = some o
theorem Off.refl {a : Addr} {H : Hp} : Off a H H := fun _ _ _ h => h
theorem Off.trans {a : Addr} {H H1 H2 : Hp} (x : Off a H H1) (y : Off a H1 H2) : Off a H H2 := fun b o hb h => y b o hb (x b o hb h)
theorem Off.same {a : Addr} {H H' : Hp} (x : Same H H') : Off a H H' := fun b o _ h => x b o h
theorem Off.upd {a : Addr} {H : Hp} {o : HO} : Off a H (upd H a o) := fun b o hb h => by rw [upd_ne hb]; exact h
end RS
namespace RS
open PySem PySem.Spec PyProof.Rows L2
theorem upd_id {H : Hp} {a : Addr} {o : HO} (h : H a = some o) : upd H a o = H := by
  funext b
  by_cases e : b = a
  · subst e; rw [upd_same, h]
  · rw [upd_ne e]
theorem row_put {n : Nat} {f : Nat → Option Int} {p : Nat} {g : Int} : (row n f).set p (.int g) = row n (Ring.fup f p (some g)) := row_set (v := some g)
theorem row_open {n : Nat} {f : Nat → Option Int} {p : Nat} : (row n f).set p .non = row n (Ring.fup f p none) := row_set (v := none)
end RS
/-! ### == of lists and tuples of flat things -/
namespace RS
open PySem PySem.Spec PyProof.Rows L2
def datV : V → PyData
  | .bl b => .bool b | .int i => .int i | _ => .none
/-- none, truths, whole numbers -/
def flD : V → Bool
  | .non => true | .bl _ => true | .int _ => true | _ => false
theorem dp_flat {K : PySem.W.Frag} {H : Hp} : ∀ v : V, flD v = true → Dp K H v (datV v) := by
  intro v h
  cases v with
  | non => exact .non
  | bl b => exact .bl b
  | int i => exact .int i
  | _ => cases h
theorem dp_all {K : PySem.W.Frag} {H : Hp} : ∀ xs : List V, xs.all flD = true → DpAll K H xs (xs.map datV)
  | [], _ => .nil
  | x :: xs, h => by
    rw [List.all_cons, Bool.and_eq_true] at h
    exact .cons (dp_flat x h.1) (dp_all xs h.2)
theorem row_flD {n : Nat} {f : Nat → Option Int} : (row n f).all flD = true := by
  unfold row
  rw [List.all_eq_true]
  intro x hx
  obtain ⟨p, hp, rfl⟩ := List.mem_map.mp hx
  cases f p <;> rfl
theorem lay_all : ∀ xs : List V, PyData.canLayAll0 (xs.map datV) = true ∧ PyData.depthAll (xs.map datV) = 0
  | [] => ⟨rfl, rfl⟩
  | x :: xs => by
    obtain ⟨h1, h2⟩ := lay_all xs
    rw [List.map_cons, PyData.canLayAll0, PyData.depthAll, h1, h2]
    cases x <;> exact ⟨by simp [datV, PyData.canLay0], by simp [datV, PyData.depth]⟩
theorem shp_lst (xs : List V) : SeqAt.shaped (.list (xs.map datV)) = true := by
  obtain ⟨h1, h2⟩ := lay_all xs
  unfold SeqAt.shaped
  rw [PyData.canLay0, PyData.depth, h1, h2]; rfl
theorem shp_tup (xs : List V) : SeqAt.shaped (.tuple (xs.map datV)) = true := by
  obtain ⟨h1, h2⟩ := lay_all xs
  unfold SeqAt.shaped
  rw [PyData.canLay0, PyData.depth, h1, h2]; rfl
section
variable {K : PySem.W.Frag} {H : Hp} {a b : Addr} {xs : List V} {R : VK}
theorem eqD_lst (hx : SqL K H a xs) (hy : SqL K H b xs) (hf : xs.all flD = true) (r : R (.bl true) H) : rEqD K (.ref a) (.ref b) H R := by
  refine ⟨_, _, .lst hx (dp_all xs hf), .lst hy (dp_all xs hf), shp_lst xs, shp_lst xs, ?_⟩
  rw [SeqAt.eqv_refl _ (SeqAt.canLay_of_shaped (shp_lst xs))]; exact r
theorem neD_lst (hx : SqL K H a xs) (hy : SqL K H b xs) (hf : xs.all flD = true) (r : R (.bl false) H) : rNeD K (.ref a) (.ref b) H R := by
  refine ⟨_, _, .lst hx (dp_all xs hf), .lst hy (dp_all xs hf), shp_lst xs, shp_lst xs, ?_⟩
  rw [SeqAt.eqv_refl _ (SeqAt.canLay_of_shaped (shp_lst xs))]; exact r
theorem eqD_tup (hx : SqT K H a xs) (hy : SqT K H b xs) (hf : xs.all flD = true) (r : R (.bl true) H) : rEqD K (.ref a) (.ref b) H R := by
  refine ⟨_, _, .tup hx (dp_all xs hf), .tup hy (dp_all xs hf), shp_tup xs, shp_tup xs, ?_⟩
  rw [SeqAt.eqv_refl _ (SeqAt.canLay_of_shaped (shp_tup xs))]; exact r
theorem neD_tup (hx : SqT K H a xs) (hy : SqT K H b xs) (hf : xs.all flD = true) (r : R (.bl false) H) : rNeD K (.ref a) (.ref b) H R := by
  refine ⟨_, _, .tup hx (dp_all xs hf), .tup hy (dp_all xs hf), shp_tup xs, shp_tup xs, ?_⟩
  rw [SeqAt.eqv_refl _ (SeqAt.canLay_of_shaped (shp_tup xs))]; exact r
end
end RS
/-! "run": a reading is worked off by rewriting, from the left -/
local macro_rules | `(tactic| walk_at "run") => `(tactic| simp only [L2.tSeq, L2.tAsg, L2.gName, L2.tVar, L2.tC, L2.tOp, L2.tUn, L2.tTest, L2.tB, L2.tIfS, L2.tNext, L2.tRet, L2.tRetN, L2.tDrop, L2.tCall, L2.tCons, L2.tNil, L2.tCB, L2.tAnd, L2.tOr, L2.tNot, L2.tAndV, L2.tOrV, L2.tNotV, L2.tIf, L2.tIsN, L2.tNotN, L2.tBreak, L2.tCont, L2.tTup, L2.tLst, L2.gTup, L2.gCons, L2.gNil, L2.gSub, L2.tChain, L2.tDGet, L2.tDIn, L2.tDNotIn, L2.sDPut, L2.tDNewK,
  L2.rI, L2.rI0, L2.rU, L2.rEq, L2.rNe, L2.rIxL, L2.rIxT, L2.rIn, L2.rIsi, L2.rSetL, L2.rCat, L2.rRep, L2.rSlL, L2.tSl, L2.tPart, L2.tNoPart, L2.tYes, RS.ov_non, RS.ov_some, L2.rIsB, L2.rNotB, RS.rIsA, RS.isWh_int, RS.isWh_bl, RS.isWh_non, RS.isWh_ref, RS.Ty.nm, RS.Ty.isA, RS.tyOf_int, RS.tyOf_bl, RS.tyOf_non, RS.tyOf_str, RS.rLenS, RS.rLenD, RS.rListS, RS.rMax2, RS.rMin2, RS.rInt1, RS.rStr1, RS.CMl, L2.CDiv, L2.scal,
  List.getElem?_cons_zero, List.getElem?_cons_succ, List.set_cons_zero, List.set_cons_succ, List.append_nil, List.nil_append, List.cons_append,
  Option.some.injEq, L2.V.int.injEq, L2.V.bl.injEq, L2.V.ref.injEq, L2.V.str.injEq, List.cons.injEq, List.nil_eq, reduceCtorEq,
  exists_eq, exists_eq', exists_eq_left, exists_eq_left', exists_eq_right, exists_eq_right', exists_and_left, exists_and_right, exists_const, and_assoc, Int.reduceLT, Int.reduceLE, Int.reduceNeg, Nat.reduceLT, Nat.reduceLeDiff, List.length_cons, List.length_nil, Nat.reduceAdd, Int.reduceMul, Int.reduceSub, true_or, or_true, true_and, and_true, and_self, false_and, and_false, or_false, false_or, decide_eq_true_eq, Bool.not_eq_true', Bool.not_eq_true, decide_eq_false_iff_not, Bool.not_not, Bool.true_eq_false, Bool.false_eq_true, if_true, if_false, Bool.not_true, Bool.not_false, decide_true, decide_false, eq_self, not_true_eq_false, not_false_eq_true, ite_true, ite_false])
local macro_rules | `(tactic| walk_at "nxt") => `(tactic| dsimp only [L2.tSeq, L2.tNext, List.set_cons_zero, List.set_cons_succ])
namespace RS
open PySem PySem.Spec PyProof.Rows L2
def isG : V → Bool
  | .int i => decide (0 ≤ i) && decide (i < 1000000000000000000000000000000000000000000000000000000000000)
  | _ => false
theorem isG_yes {i : Int} (h0 : 0 ≤ i) (h1 : i < 1000000000000000000000000000000000000000000000000000000000000) : isG (.int i) = true := by
  show (decide _ && decide _) = true
  rw [decide_eq_true h0, decide_eq_true h1]; rfl
theorem isG_neg {i : Int} (h0 : i < 0) : isG (.int i) = false := by
  show (decide _ && decide _) = false
  rw [decide_eq_false (p := 0 ≤ i) (by omega)]; rfl
theorem isG_big {i : Int} (h0 : 1000000000000000000000000000000000000000000000000000000000000 ≤ i) : isG (.int i) = false := by
  show (decide _ && decide _) = false
  rw [decide_eq_false (p := i < 1000000000000000000000000000000000000000000000000000000000000) (by omega), Bool.and_false]
theorem isG_is {i : Int} (h : isG (.int i) = true) : 0 ≤ i ∧ i < 1000000000000000000000000000000000000000000000000000000000000 := by
  have h' : (decide (0 ≤ i) && decide (i < 1000000000000000000000000000000000000000000000000000000000000)) = true := h
  rw [Bool.and_eq_true, decide_eq_true_eq, decide_eq_true_eq] at h'
  exact h'
def sp_is_guest (K : PySem.W.Frag) (C : Cs) : Sp := fun vs H Q _ => ∃ (x : V) (s : Ty), vs = [x] ∧ tyOf H x = some s ∧ Q (.bl (isG x)) H
def sp_home (K : PySem.W.Frag) (C : Cs) : Sp := fun vs H Q _ => ∃ g n : Int, vs = [.int g, .int n] ∧ 0 < n ∧ Q (.int (homeI g n)) H
def cellI (ns : List Int) (k : Int) : Int := if k < ns.length then ns.getD k.toNat 0 else 0
def sp_law_cell_at (K : PySem.W.Frag) (C : Cs) : Sp := fun vs H Q _ => ∃ (a : Addr) (ns : List Int) (k : Int), vs = [.ref a, .int k] ∧ SqL K H a (ns.map V.int) ∧ 0 ≤ k ∧ Q (.int (cellI ns k)) H
def sp_law_whole (K : PySem.W.Frag) (C : Cs) : Sp := fun vs H Q _ => ∃ (x : V) (s : Ty), vs = [x] ∧ tyOf H x = some s ∧ Q (.bl (isWh x)) H
def guestI (c : Int) : Int := if c % 4 = 0 then c / 4 % 1000000000000000000000000000000000000000000000000000000000000 else if c % 4 = 1 then 1000000000000000000000000000000000000000000000000000000000000 - 1 - c / 4 % 70000 else if c % 4 = 2 then c / 4 % 200000 else 65536 * (1 + c / 4 % 2000) - c / 4 / 2000 % 2
theorem guestI_ok (c : Int) : 0 ≤ guestI c ∧ guestI c < 1000000000000000000000000000000000000000000000000000000000000 := by
  unfold guestI; repeat' split
  all_goals omega
def sp_law_guest_by (K : PySem.W.Frag) (C : Cs) : Sp := fun vs H Q _ => ∃ c : Int, vs = [.int c] ∧ Q (.int (guestI c)) H
def menuI : List Int := [2, 3, 7, 8, 64, 255, 256, 1024]
def manyI (c : Int) : Int := if c % 4 = 0 then 2 + c / 4 % 1023 else if c % 4 = 1 then menuI.getD (c / 4 % 8).toNat 0 else 2 + c / 4 % 63
theorem menu_ok : ∀ j : Nat, j < 8 → 2 ≤ menuI.getD j 0 ∧ menuI.getD j 0 ≤ 1024 := by decide
theorem manyI_ok (c : Int) : 2 ≤ manyI c ∧ manyI c ≤ 1024 := by
  unfold manyI; repeat' split
  · omega
  · exact menu_ok _ (by omega)
  · omega
def sp_law_many_by (K : PySem.W.Frag) (C : Cs) : Sp := fun vs H Q _ => ∃ c : Int, vs = [.int c] ∧ ∀ H', Same H H' → Q (.int (manyI c)) H'
def sp_law0 (K : PySem.W.Frag) : Sp := fun vs H Q _ => ∃ (a : Addr) (ns : List Int), vs = [.ref a] ∧ SqL K H a (ns.map V.int) ∧ ns.length ≤ 63 ∧ ∀ H', Q (.bl true) H'
def sp_law (K : PySem.W.Frag) (C : Cs) : Sp := sp_law0 K
theorem log2_small {g : Int} (h0 : 0 ≤ g) (h1 : g < 1000000000000000000000000000000000000000000000000000000000000) : g.natAbs.log2 < 1920 := by
  by_cases e : g.natAbs = 0
  · rw [e]; decide
  · refine (Nat.log2_lt e).mpr ?_
    have : g.natAbs < 1000000000000000000000000000000000000000000000000000000000000 := by omega
    exact Nat.lt_of_lt_of_le this (by decide +kernel)
end RS
namespace RS
open PySem PySem.Spec PyProof.Rows L2
def t_is_guest (K : PySem.W.Frag) (C : Cs) (E : XK) : TS :=
  (tSeq (tIfS (tOr (tNot (tB (tCB (rIsA .int) (tCons (tVar 0) (tCons (tC (.ty "int")) tNil))))) (tB (tCB (rIsA .bool) (tCons (tVar 0) (tCons (tC (.ty "bool")) tNil))))) (tRet (tC (.bl false))) tNext)
    (tRet (tAndV (tOp rLe (tC (.int 0)) (tVar 0)) (tOp rLt (tVar 0) (tC (.int 1000000000000000000000000000000000000000000000000000000000000))))))
def t_home (K : PySem.W.Frag) (C : Cs) (E : XK) : TS :=
  (tRet (tOp rMod (tOp rMod (tOp rAdd (tOp rMul (tVar 0) (tC (.int 40503))) (tOp rFdv (tVar 0) (tC (.int 65536)))) (tC (.int 65536))) (tVar 1)))
def t_law_cell_at (K : PySem.W.Frag) (C : Cs) (E : XK) : TS :=
  (tSeq (tIfS (tTest (tOp rLt (tVar 1) (tCB (rLenS K) (tCons (tVar 0) tNil)))) (tRet (tOp (rIxL K) (tVar 0) (tVar 1))) tNext)
    (tRet (tC (.int 0))))
def t_law_whole (K : PySem.W.Frag) (C : Cs) (E : XK) : TS :=
  (tRet (tAndV (tCB (rIsA .int) (tCons (tVar 0) (tCons (tC (.ty "int")) tNil))) (tNotV (tCB (rIsA .bool) (tCons (tVar 0) (tCons (tC (.ty "bool")) tNil))))))
def t_law_guest_by (K : PySem.W.Frag) (C : Cs) (E : XK) : TS :=
  (tSeq (tAsg (tOp rFdv (tVar 0) (tC (.int 4))) (gName 1))
    (tSeq (tIfS (tTest (tOp rEq (tOp rMod (tVar 0) (tC (.int 4))) (tC (.int 0)))) (tRet (tOp rMod (tVar 1) (tC (.int 1000000000000000000000000000000000000000000000000000000000000)))) tNext)
    (tSeq (tIfS (tTest (tOp rEq (tOp rMod (tVar 0) (tC (.int 4))) (tC (.int 1)))) (tRet (tOp rSub (tOp rSub (tC (.int 1000000000000000000000000000000000000000000000000000000000000)) (tC (.int 1))) (tOp rMod (tVar 1) (tC (.int 70000))))) tNext)
    (tSeq (tIfS (tTest (tOp rEq (tOp rMod (tVar 0) (tC (.int 4))) (tC (.int 2)))) (tRet (tOp rMod (tVar 1) (tC (.int 200000)))) tNext)
    (tRet (tOp rSub (tOp rMul (tC (.int 65536)) (tOp rAdd (tC (.int 1)) (tOp rMod (tVar 1) (tC (.int 2000))))) (tOp rMod (tOp rFdv (tVar 1) (tC (.int 2000))) (tC (.int 2)))))))))
def t_law_many_by (K : PySem.W.Frag) (C : Cs) (E : XK) : TS :=
  (tSeq (tAsg (tOp rFdv (tVar 0) (tC (.int 4))) (gName 1))
    (tSeq (tIfS (tTest (tOp rEq (tOp rMod (tVar 0) (tC (.int 4))) (tC (.int 0)))) (tRet (tOp rAdd (tC (.int 2)) (tOp rMod (tVar 1) (tC (.int 1023))))) tNext)
    (tSeq (tIfS (tTest (tOp rEq (tOp rMod (tVar 0) (tC (.int 4))) (tC (.int 1)))) (tRet (tOp (rIxL K) (tLst (tCons (tC (.int 2)) (tCons (tC (.int 3)) (tCons (tC (.int 7)) (tCons (tC (.int 8)) (tCons (tC (.int 64)) (tCons (tC (.int 255)) (tCons (tC (.int 256)) (tCons (tC (.int 1024)) tNil))))))))) (tOp rMod (tVar 1) (tC (.int 8))))) tNext)
    (tRet (tOp rAdd (tC (.int 2)) (tOp rMod (tVar 1) (tC (.int 63))))))))
def t_law_b1 (K : PySem.W.Frag) (C : Cs) (E : XK) : TS :=
  (tIfS (tTest (tOp rNotB (tCall (sp_is_guest K C) [] E0 (tCons (tVar 7) tNil)) (tC (.bl false)))) (tRet (tC (.bl false))) tNext)
def t_law_b2 (K : PySem.W.Frag) (C : Cs) (E : XK) : TS :=
  (tSeq (tAsg (tCall (sp_law_guest_by K C) [] E0 (tCons (tCall (sp_law_cell_at K C) [] E0 (tCons (tVar 0) (tCons (tVar 1) tNil))) tNil)) (gName 2))
    (tSeq (tAsg (tCall (sp_law_many_by K C) [] E0 (tCons (tCall (sp_law_cell_at K C) [] E0 (tCons (tVar 0) (tCons (tOp rAdd (tVar 1) (tC (.int 1))) tNil))) tNil)) (gName 3))
    (tSeq (tAsg (tCall (sp_home K C) [] E0 (tCons (tVar 2) (tCons (tVar 3) tNil))) (gName 4))
    (tSeq (tAsg (tOp rMod (tOp rMod (tOp rAdd (tOp rMul (tVar 2) (tC (.int 40503))) (tOp rFdv (tVar 2) (tC (.int 65536)))) (tC (.int 65536))) (tVar 3)) (gName 5))
    (tSeq (tIfS (tOr (tNot (tB (tCall (sp_law_whole K C) [] E0 (tCons (tVar 4) tNil)))) (tTest (tOp rNe (tVar 4) (tVar 5)))) (tRet (tC (.bl false))) tNext)
    (tSeq (tIfS (tTest (tOp rNotB (tCall (sp_is_guest K C) [] E0 (tCons (tVar 2) tNil)) (tC (.bl true)))) (tRet (tC (.bl false))) tNext)
    (tSeq (tAsg (tLst (tCons (tC (.bl true)) (tCons (tC (.bl false)) (tCons (tC .non) (tCons (tCB rStr1 (tCons (tVar 2) tNil)) (tCons (tTup (tCons (tVar 2) tNil)) (tCons (tLst (tCons (tVar 2) tNil)) (tCons tDNewK (tCons (tOp rSub (tUn rNeg (tC (.int 1))) (tVar 2)) (tCons (tOp rAdd (tVar 2) (tC (.int 1000000000000000000000000000000000000000000000000000000000000))) tNil)))))))))) (gName 6))
    (tFor (iList K (tVar 6)) (gName 7) (t_law_b1 K C E)))))))))
def t_law (K : PySem.W.Frag) (C : Cs) (E : XK) : TS :=
  (tSeq (tFor (iRng3 (tCons (tC (.int 0)) (tCons (tCB rMax2 (tCons (tC (.int 2)) (tCons (tCB rMin2 (tCons (tCB (rLenS K) (tCons (tVar 0) tNil)) (tCons (tC (.int 64)) tNil))) tNil))) (tCons (tC (.int 2)) tNil)))) (gName 1) (t_law_b2 K C E))
    (tRet (tAndV (tOp rIsB (tCall (sp_is_guest K C) [] E0 (tCons (tC (.int 0)) tNil)) (tC (.bl true))) (tOp rIsB (tCall (sp_is_guest K C) [] E0 (tCons (tOp rSub (tC (.int 1000000000000000000000000000000000000000000000000000000000000)) (tC (.int 1))) tNil)) (tC (.bl true))))))
end RS
namespace RS
open PySem PySem.Spec PyProof.Rows L2
section
variable {K : PySem.W.Frag} {C : Cs} {vs : List V} {H : Hp} {Q : VK} {E : XK}
theorem len_is_guest (h : sp_is_guest K C vs H Q E) : vs.length = (["thing"] : List Str).length := by
  unfold sp_is_guest at h
  repeat (obtain ⟨_, h⟩ := h)
  subst_vars; rfl
theorem pure_is_guest (h : sp_is_guest K C vs H Q E) : t_is_guest K C E { nx := fun _ H' => Q .non H', rt := Q } (start ["thing"] vs) H := by
  obtain ⟨x, s, rfl, ht, q⟩ := h
  have big : ∀ i : Int, isG (.int i) = (decide (0 ≤ i) && decide (i < 1000000000000000000000000000000000000000000000000000000000000)) := fun _ => rfl
  by_cases hx : ∃ i, x = .int i
  · obtain ⟨i, rfl⟩ := hx
    show tSeq _ _ _ [some (.int i)] H
    rw [big] at q
    walk_at "run"
    by_cases h0 : 0 ≤ i
    · rw [if_pos h0]
      rw [decide_eq_true h0, Bool.true_and] at q
      exact q
    · rw [if_neg h0]
      rw [decide_eq_false h0, Bool.false_and] at q
      exact q
  · have e : isG x = false := by
      cases x with
      | int i => exact absurd ⟨i, rfl⟩ hx
      | _ => rfl
    rw [e] at q
    have hs : ∀ b, (Ty.isA s .int = b) → (b = false ∨ Ty.isA s .bool = true) := by
      intro b hb
      cases x with
      | int i => exact absurd ⟨i, rfl⟩ hx
      | bl b => cases ht; exact .inr rfl
      | non => cases ht; exact .inl hb.symm
      | str z => cases ht; exact .inl hb.symm
      | byt b => cases ht
      | flt b => cases ht
      | ty n => cases ht
      | ref a =>
        have h' : (H a).bind hoTy = some s := ht
        cases e : H a with
        | none => rw [e] at h'; cases h'
        | some o =>
          rw [e] at h'
          have h2 : hoTy o = some s := h'
          cases o with
          | lst xs => cases h2; exact .inl hb.symm
          | tup xs => cases h2; exact .inl hb.symm
          | dK kvs => cases h2; exact .inl hb.symm
          | frz ob u =>
            cases u with
            | lst xs => cases h2; exact .inl hb.symm
            | _ => cases h2
          | _ => cases h2
    show tSeq _ _ _ [some x] H
    refine if_step (b := true) (H' := H) (fun R h => ?_) (fun _ => ?_) (fun e => nomatch e)
    · simp only [tOr, tNot, tB, tCB, tCons, tNil, tVar, tC, rIsA]
      refine ⟨x, rfl, x, s, rfl, ht, s.isA .int, rfl, ?_⟩
      refine iteB (fun _ => h) fun e1 => ?_
      refine ⟨x, rfl, x, s, rfl, ht, s.isA .bool, rfl, ?_⟩
      rcases hs _ rfl with e2 | e2
      · rw [e2] at e1; cases e1
      · rw [e2]; exact h
    · exact q
theorem len_home (h : sp_home K C vs H Q E) : vs.length = (["guest", "many"] : List Str).length := by
  unfold sp_home at h
  repeat (obtain ⟨_, h⟩ := h)
  subst_vars; rfl
theorem pure_home (h : sp_home K C vs H Q E) : t_home K C E { nx := fun _ H' => Q .non H', rt := Q } (start ["guest", "many"] vs) H := by
  obtain ⟨g, n, rfl, h0, q⟩ := h
  show tRet _ _ [some (.int g), some (.int n)] H
  walk_at "run"
  exact ⟨h0, q⟩
theorem len_law_cell_at (h : sp_law_cell_at K C vs H Q E) : vs.length = (["_law_script", "_law_k"] : List Str).length := by
  unfold sp_law_cell_at at h
  repeat (obtain ⟨_, h⟩ := h)
  subst_vars; rfl
theorem pure_law_cell_at (h : sp_law_cell_at K C vs H Q E) : t_law_cell_at K C E { nx := fun _ H' => Q .non H', rt := Q } (start ["_law_script", "_law_k"] vs) H := by
  obtain ⟨a, ns, k, rfl, hS, h0, q⟩ := h
  show tSeq _ _ _ [some (.ref a), some (.int k)] H
  walk_at "run"
  refine ⟨_, .inl hS, ?_⟩
  rw [List.length_map]
  unfold cellI at q
  split
  · rename_i hk
    rw [if_pos hk] at q
    refine ⟨_, hS, .int (ns.getD k.toNat 0), at_of (j := k.toNat) (by omega) ?_, q⟩
    rw [List.getElem?_map, List.getElem?_eq_getElem (by omega), List.getD_eq_getElem?_getD, List.getElem?_eq_getElem (by omega)]
    rfl
  · rename_i hk
    rw [if_neg hk] at q
    exact q
theorem len_law_whole (h : sp_law_whole K C vs H Q E) : vs.length = (["_law_found"] : List Str).length := by
  unfold sp_law_whole at h
  repeat (obtain ⟨_, h⟩ := h)
  subst_vars; rfl
theorem pure_law_whole (h : sp_law_whole K C vs H Q E) : t_law_whole K C E { nx := fun _ H' => Q .non H', rt := Q } (start ["_law_found"] vs) H := by
  obtain ⟨x, s, rfl, ht, q⟩ := h
  show tRet _ _ [some x] H
  have key : (Ty.isA s .int && !Ty.isA s .bool) = isWh x := by
    cases x with
    | int i => cases ht; rfl
    | bl b => cases ht; rfl
    | non => cases ht; rfl
    | str z => cases ht; rfl
    | byt b => cases ht
    | flt b => cases ht
    | ty n => cases ht
    | ref a =>
      have h' : (H a).bind hoTy = some s := ht
      cases e : H a with
      | none => rw [e] at h'; cases h'
      | some o =>
        rw [e] at h'
        have h2 : hoTy o = some s := h'
        cases o with
        | lst xs => cases h2; rfl
        | tup xs => cases h2; rfl
        | dK kvs => cases h2; rfl
        | frz ob u =>
          cases u with
          | lst xs => cases h2; rfl
          | _ => cases h2
        | _ => cases h2
  simp only [tRet, tAndV, tNotV, tCB, tCons, tNil, tVar, tC, rIsA]
  refine ⟨x, rfl, x, s, rfl, ht, s.isA .int, rfl, ?_⟩
  refine iteB (fun e => ?_) fun e => ?_
  · refine ⟨x, rfl, x, s, rfl, ht, s.isA .bool, rfl, ?_⟩
    rw [e] at key
    rw [show (!Ty.isA s .bool) = isWh x from by rw [← key]; rfl]
    exact q
  · rw [e] at key
    rw [show false = isWh x from by rw [← key]; rfl]
    exact q
theorem len_law_guest_by (h : sp_law_guest_by K C vs H Q E) : vs.length = (["_law_cell"] : List Str).length := by
  unfold sp_law_guest_by at h
  repeat (obtain ⟨_, h⟩ := h)
  subst_vars; rfl
theorem pure_law_guest_by (h : sp_law_guest_by K C vs H Q E) : t_law_guest_by K C E { nx := fun _ H' => Q .non H', rt := Q } (start ["_law_cell", "_law_number"] vs) H := by
  obtain ⟨c, rfl, q⟩ := h
  show tSeq _ _ _ [some (.int c), none] H
  unfold guestI at q
  walk_at "run"
  repeat' split
  all_goals simp_all
theorem len_law_many_by (h : sp_law_many_by K C vs H Q E) : vs.length = (["_law_cell"] : List Str).length := by
  unfold sp_law_many_by at h
  repeat (obtain ⟨_, h⟩ := h)
  subst_vars; rfl
theorem pure_law_many_by (h : sp_law_many_by K C vs H Q E) : t_law_many_by K C E { nx := fun _ H' => Q .non H', rt := Q } (start ["_law_cell", "_law_number"] vs) H := by
  obtain ⟨c, rfl, q⟩ := h
  show tSeq _ _ _ [some (.int c), none] H
  unfold manyI at q
  walk_at "run"
  split
  · rename_i e; rw [if_pos e] at q; exact q H (Same.refl _)
  · rename_i e; rw [if_neg e] at q
    split
    · rename_i e2; rw [if_pos e2] at q
      refine ⟨sizes (by decide), fun p hp => ⟨_, .inl (.inl upd_same), .int (menuI.getD (c / 4 % 8).toNat 0), at_of (j := (c / 4 % 8).toNat) (by omega) ?_, q _ (same_new hp)⟩⟩
      have ej : (c / 4 % 8).toNat < 8 := by omega
      generalize (c / 4 % 8).toNat = j at ej
      revert j; decide
    · rename_i e2; rw [if_neg e2] at q; exact q H (Same.refl _)
theorem len_law (h : sp_law K C vs H Q E) : vs.length = (["_law_script"] : List Str).length := by
  unfold sp_law sp_law0 at h
  repeat (obtain ⟨_, h⟩ := h)
  subst_vars; rfl
theorem pure_law (h : sp_law K C vs H Q E) : t_law K C E { nx := fun _ H' => Q .non H', rt := Q } (start ["_law_script", "_law_k", "_law_guest", "_law_many", "_law_found", "_law_due", "_law_odd", "_law_thing"] vs) H := by
  obtain ⟨a, ns, rfl, hS, hl, q⟩ := h
  show tSeq _ _ _ [some (.ref a), none, none, none, none, none, none, none] H
  obtain ⟨N, hN⟩ : ∃ N : Int, N = if (ns.length : Int) > 2 then (ns.length : Int) else 2 := ⟨_, rfl⟩
  refine for_rng3 (a := 0) (b := N) (c := 2) (H' := H) (fun R h => ?_) (rgc_2 (by split at hN <;> omega) (by split at hN <;> omega))
    (fun i σ H' => ∃ x1 x2 x3 x4 x5 x6 x7, σ = [some (.ref a), x1, x2, x3, x4, x5, x6, x7] ∧ Same H H') ⟨_, _, _, _, _, _, _, rfl, Same.refl H⟩ ?_ ?_
  · walk_at "run"
    refine ⟨_, .inl hS, ?_⟩
    rw [List.length_map]
    have e : (if (if (64 : Int) < ns.length then (64 : Int) else (ns.length : Int)) > 2 then (if (64 : Int) < ns.length then (64 : Int) else (ns.length : Int)) else 2) = N := by
      rw [hN]
      repeat' split
      all_goals omega
    rw [e]; exact h
  · rintro i σ H1 hi ⟨x1, x2, x3, x4, x5, x6, x7, rfl, sm⟩
    unfold t_law_b2
    obtain ⟨g, hg⟩ : ∃ g, g = guestI (cellI ns (0 + (i : Int) * 2)) := ⟨_, rfl⟩
    obtain ⟨m, hm⟩ : ∃ m, m = manyI (cellI ns (0 + (i : Int) * 2 + 1)) := ⟨_, rfl⟩
    obtain ⟨g0, g1⟩ : 0 ≤ g ∧ g < 1000000000000000000000000000000000000000000000000000000000000 := by rw [hg]; exact guestI_ok _
    obtain ⟨m0, m1⟩ : 2 ≤ m ∧ m ≤ 1024 := by rw [hm]; exact manyI_ok _
    refine asg_step (v := .int g) (H' := H1) (fun R h => ?_) ?_
    · walk_at "run"; unfold sp_law_guest_by sp_law_cell_at; walk_at "run"
      exact ⟨ns, sm.seq hS, by omega, by rw [← hg]; exact h⟩
    walk_at "nxt"
    refine asg_ext (v := .int m) (fun R h => ?_) fun H2 s2 => ?_
    · walk_at "run"; unfold sp_law_many_by sp_law_cell_at; walk_at "run"
      exact ⟨ns, sm.seq hS, by omega, by rw [← hm]; exact h⟩
    walk_at "nxt"
    refine asg_step (v := .int (homeI g m)) (H' := H2) (fun R h => ?_) ?_
    · walk_at "run"; unfold sp_home; walk_at "run"; exact ⟨by omega, h⟩
    walk_at "nxt"
    refine asg_step (v := .int (homeI g m)) (H' := H2) (fun R h => ?_) ?_
    · walk_at "run"; exact ⟨by omega, h⟩
    walk_at "nxt"
    refine if_step (b := false) (H' := H2) (fun R h => ?_) (fun e => nomatch e) (fun _ => ?_)
    · walk_at "run"; unfold sp_law_whole; walk_at "run"; exact h
    walk_at "nxt"
    refine if_step (b := false) (H' := H2) (fun R h => ?_) (fun e => nomatch e) (fun _ => ?_)
    · walk_at "run"; unfold sp_is_guest; walk_at "run"
      rw [isG_yes g0 g1]; exact h
    refine nxt_seq ?_
    refine asg_any (fun v H' => Same H2 H' ∧ ∃ p xs, v = .ref p ∧ H' p = some (.lst xs) ∧ ∀ x ∈ xs, isG x = false ∧ ∃ s, tyOf H' x = some s) (fun R h => ?_) ?_
    · walk_at "run"
      refine ⟨log2_small g0 g1, sizes (by decide), fun p1 h1 => ⟨sizes (by decide), fun p2 h2 p3 h3 => ⟨sizes (by decide), fun p4 h4 => ?_⟩⟩⟩
      have s1 := same_new (o := .tup [V.int g]) h1
      have s2' := same_new (o := .lst [V.int g]) h2
      have s3 := same_new (o := .dK []) h3
      have s4 := same_new (o := .lst [V.bl true, V.bl false, V.non, V.str (toString g), V.ref p1, V.ref p2, V.ref p3, V.int (-1 - g), V.int (g + 1000000000000000000000000000000000000000000000000000000000000)]) h4
      refine h _ _ ⟨((s1.trans s2').trans s3).trans s4, p4, _, rfl, upd_same, ?_⟩
      have t1 := s4 _ _ (s3 _ _ (s2' _ _ (upd_same (H := H2) (a := p1) (o := .tup [V.int g]))))
      have t2 := s4 _ _ (s3 _ _ (upd_same (H := upd H2 p1 (.tup [V.int g])) (a := p2) (o := .lst [V.int g])))
      have t3 := s4 _ _ (upd_same (H := upd (upd H2 p1 (.tup [V.int g])) p2 (.lst [V.int g])) (a := p3) (o := .dK []))
      intro x hx
      simp only [List.mem_cons, List.not_mem_nil, or_false] at hx
      rcases hx with rfl | rfl | rfl | rfl | rfl | rfl | rfl | rfl | rfl
      · exact ⟨rfl, _, rfl⟩
      · exact ⟨rfl, _, rfl⟩
      · exact ⟨rfl, _, rfl⟩
      · exact ⟨rfl, _, rfl⟩
      · exact ⟨rfl, _, tyOf_at t1 rfl⟩
      · exact ⟨rfl, _, tyOf_at t2 rfl⟩
      · exact ⟨rfl, _, tyOf_at t3 rfl⟩
      · exact ⟨isG_neg (by omega), _, rfl⟩
      · exact ⟨isG_big (by omega), _, rfl⟩
    rintro v H3 ⟨s3, p, xs, rfl, hp, hxs⟩
    walk_at "nxt"
    refine for_lst (a := p) (xs := xs) (H' := H3) (fun R h => ?_) (.inl (.inl hp))
      (fun j σ H' => ∃ y, σ = [some (.ref a), some (.int (0 + (i : Int) * 2)), some (.int g), some (.int m), some (.int (homeI g m)), some (.int (homeI g m)), some (.ref p), y] ∧ Same H3 H') ⟨_, rfl, Same.refl _⟩ (fun j σ H' _ ⟨_, _, s⟩ => s.seq (.inl (.inl hp))) ?_ ?_
    · walk_at "run"; exact h
    · rintro j x σ H4 hj ⟨y, rfl, s4⟩
      obtain ⟨e1, s, e2⟩ := hxs x (List.mem_of_getElem? hj)
      unfold t_law_b1
      walk_at "run"; unfold sp_is_guest; walk_at "run"
      refine ⟨⟨s, tyOf_same e2 s4⟩, ?_⟩
      rw [e1, if_neg (by decide)]
      exact s4
    · rintro σ H4 ⟨y, rfl, s4⟩
      exact ⟨_, _, _, _, _, _, _, rfl, ((sm.trans s2).trans s3).trans s4⟩
  · rintro σ H1 ⟨x1, x2, x3, x4, x5, x6, x7, rfl, sm⟩
    walk_at "run"; unfold sp_is_guest; walk_at "run"
    rw [isG_yes (i := 0) (by omega) (by omega), isG_yes (i := 999999999999999999999999999999999999999999999999999999999999) (by decide) (by decide)]
    exact q H1
end
end RS
namespace RS
open PySem PySem.Spec PyProof.Rows L2
def topS (i : Nat) : Stmt := PySem.Challenge.pw_ringseat_k01_a_home.main.body.getD i (.Pass ⟨0, 0, 0, 0⟩)
/-- the built-in names that the text reads are still the built-in ones -/
structure Bl (mg : Str → Option Value) : Prop where
  bool : mg "bool" = none
  int : mg "int" = none
  isinstance : mg "isinstance" = none
  len : mg "len" = none
  max : mg "max" = none
  min : mg "min" = none
  range : mg "range" = none
  str : mg "str" = none
abbrev s_is_guest : Stmt := topS 1
theorem sc_is_guest : FnScope ["thing"] ["thing"] (defScope s_is_guest) := ⟨rfl, rfl, rfl, by decide +kernel, rfl, by decide +kernel, by decide +kernel⟩
theorem ok_is_guest {P : Program} {w : World} {K : PySem.W.Frag} {mg : Str → Option Value} {base : Heap} {C : Cs} {f : Addr} {fd : FuncData} (F : Fun K "is_guest" "is_guest" s_is_guest f fd) (B : Bl mg) :
    FnOk P w K mg base CX0 1 f fd ["thing"] (sp_is_guest K C) := by
  refine F.ok sc_is_guest (fun vs H Q E h => len_is_guest h) (fun cdv A outer s H vs Q E hr h => ⟨t_is_guest K C E, ?_, pure_is_guest h⟩)
  have hu := hu_of hr
  exact (pss_cons (ps_if (PW.pt (pw_or (pt_not (pt_val (pe_callB call_isA (by rfl) B.isinstance (by decide +kernel) (pa_cons (pv 0) (pa_cons (pe_bltn (v := .ty "int") (by rfl) B.int (by decide +kernel) rfl) pa_nil))))) (pw_or1 (pt_val (pe_callB call_isA (by rfl) B.isinstance (by decide +kernel) (pa_cons (pv 0) (pa_cons (pe_bltn (v := .ty "bool") (by rfl) B.bool (by decide +kernel) rfl) pa_nil))))))) (pss_one (ps_ret pe_bl)) pss_nil)
      (pss_one (ps_ret (pe_and (pe_cmpR op_le pe_int (pv 0) (nomark _)) (pe_one (pe_cmpR op_lt (pv 0) (pe_pow (m := 10) (n := 60) (N := 1000000000000000000000000000000000000000000000000000000000000) rfl rfl (by decide +kernel) (by decide) (by decide)) (nomark _)))))))
theorem cal_is_guest {P : Program} {w : World} {K : PySem.W.Frag} {mg : Str → Option Value} {base : Heap} {C : Cs} (D : Def K mg "is_guest" s_is_guest) (B : Bl mg) :
    Cal P w K mg base CX0 1 "is_guest" ["thing"] (sp_is_guest K C) := by
  obtain ⟨f, fd, F, hm⟩ := D.ex
  exact ⟨f, fd, ok_is_guest F B, hm, F.kp, F.binds (ps := ["thing"]) fun _ _ _ _ _ _ us hl => match us, hl with | [_], _ => rfl⟩
abbrev s_home : Stmt := topS 2
theorem sc_home : FnScope ["guest", "many"] ["guest", "many"] (defScope s_home) := ⟨rfl, rfl, rfl, by decide +kernel, rfl, by decide +kernel, by decide +kernel⟩
theorem ok_home {P : Program} {w : World} {K : PySem.W.Frag} {mg : Str → Option Value} {base : Heap} {C : Cs} {f : Addr} {fd : FuncData} (F : Fun K "home" "home" s_home f fd) (B : Bl mg) :
    FnOk P w K mg base CX0 1 f fd ["guest", "many"] (sp_home K C) := by
  refine F.ok sc_home (fun vs H Q E h => len_home h) (fun cdv A outer s H vs Q E hr h => ⟨t_home K C E, ?_, pure_home h⟩)
  have hu := hu_of hr
  exact (pss_one (ps_ret (pe_op op_mod (pe_op op_mod (pe_op op_add (pe_op op_mulL (pv 0) pe_int) (pe_op op_fdiv (pv 0) pe_int)) pe_int) (pv 1))))
theorem cal_home {P : Program} {w : World} {K : PySem.W.Frag} {mg : Str → Option Value} {base : Heap} {C : Cs} (D : Def K mg "home" s_home) (B : Bl mg) :
    Cal P w K mg base CX0 1 "home" ["guest", "many"] (sp_home K C) := by
  obtain ⟨f, fd, F, hm⟩ := D.ex
  exact ⟨f, fd, ok_home F B, hm, F.kp, F.binds (ps := ["guest", "many"]) fun _ _ _ _ _ _ us hl => match us, hl with | [_, _], _ => rfl⟩
abbrev s_law_cell_at : Stmt := topS 4
theorem sc_law_cell_at : FnScope ["_law_script", "_law_k"] ["_law_script", "_law_k"] (defScope s_law_cell_at) := ⟨rfl, rfl, rfl, by decide +kernel, rfl, by decide +kernel, by decide +kernel⟩
theorem ok_law_cell_at {P : Program} {w : World} {K : PySem.W.Frag} {mg : Str → Option Value} {base : Heap} {C : Cs} {f : Addr} {fd : FuncData} (F : Fun K "_law_cell_at" "_law_cell_at" s_law_cell_at f fd) (B : Bl mg) :
    FnOk P w K mg base CX0 1 f fd ["_law_script", "_law_k"] (sp_law_cell_at K C) := by
  refine F.ok sc_law_cell_at (fun vs H Q E h => len_law_cell_at h) (fun cdv A outer s H vs Q E hr h => ⟨t_law_cell_at K C E, ?_, pure_law_cell_at h⟩)
  have hu := hu_of hr
  exact (pss_cons (ps_if (pt_cmpR op_lt (pv 1) (pe_callB call_len_seq (by rfl) B.len (by decide +kernel) (pa_cons (pv 0) pa_nil)) (nomark _)) (pss_one (ps_ret (pe_ix ix_list (pv 0) (pv 1) (fun _ _ => rfl)))) pss_nil)
      (pss_one (ps_ret pe_int)))
theorem cal_law_cell_at {P : Program} {w : World} {K : PySem.W.Frag} {mg : Str → Option Value} {base : Heap} {C : Cs} (D : Def K mg "_law_cell_at" s_law_cell_at) (B : Bl mg) :
    Cal P w K mg base CX0 1 "_law_cell_at" ["_law_script", "_law_k"] (sp_law_cell_at K C) := by
  obtain ⟨f, fd, F, hm⟩ := D.ex
  exact ⟨f, fd, ok_law_cell_at F B, hm, F.kp, F.binds (ps := ["_law_script", "_law_k"]) fun _ _ _ _ _ _ us hl => match us, hl with | [_, _], _ => rfl⟩
abbrev s_law_whole : Stmt := topS 5
theorem sc_law_whole : FnScope ["_law_found"] ["_law_found"] (defScope s_law_whole) := ⟨rfl, rfl, rfl, by decide +kernel, rfl, by decide +kernel, by decide +kernel⟩
theorem ok_law_whole {P : Program} {w : World} {K : PySem.W.Frag} {mg : Str → Option Value} {base : Heap} {C : Cs} {f : Addr} {fd : FuncData} (F : Fun K "_law_whole" "_law_whole" s_law_whole f fd) (B : Bl mg) :
    FnOk P w K mg base CX0 1 f fd ["_law_found"] (sp_law_whole K C) := by
  refine F.ok sc_law_whole (fun vs H Q E h => len_law_whole h) (fun cdv A outer s H vs Q E hr h => ⟨t_law_whole K C E, ?_, pure_law_whole h⟩)
  have hu := hu_of hr
  exact (pss_one (ps_ret (pe_and (pe_callB call_isA (by rfl) B.isinstance (by decide +kernel) (pa_cons (pv 0) (pa_cons (pe_bltn (v := .ty "int") (by rfl) B.int (by decide +kernel) rfl) pa_nil))) (pe_one (pe_not (pe_callB call_isA (by rfl) B.isinstance (by decide +kernel) (pa_cons (pv 0) (pa_cons (pe_bltn (v := .ty "bool") (by rfl) B.bool (by decide +kernel) rfl) pa_nil))))))))
theorem cal_law_whole {P : Program} {w : World} {K : PySem.W.Frag} {mg : Str → Option Value} {base : Heap} {C : Cs} (D : Def K mg "_law_whole" s_law_whole) (B : Bl mg) :
    Cal P w K mg base CX0 1 "_law_whole" ["_law_found"] (sp_law_whole K C) := by
  obtain ⟨f, fd, F, hm⟩ := D.ex
  exact ⟨f, fd, ok_law_whole F B, hm, F.kp, F.binds (ps := ["_law_found"]) fun _ _ _ _ _ _ us hl => match us, hl with | [_], _ => rfl⟩
abbrev s_law_guest_by : Stmt := topS 6
theorem sc_law_guest_by : FnScope ["_law_cell", "_law_number"] ["_law_cell"] (defScope s_law_guest_by) := ⟨rfl, rfl, rfl, by decide +kernel, rfl, by decide +kernel, by decide +kernel⟩
theorem ok_law_guest_by {P : Program} {w : World} {K : PySem.W.Frag} {mg : Str → Option Value} {base : Heap} {C : Cs} {f : Addr} {fd : FuncData} (F : Fun K "_law_guest_by" "_law_guest_by" s_law_guest_by f fd) (B : Bl mg) :
    FnOk P w K mg base CX0 1 f fd ["_law_cell"] (sp_law_guest_by K C) := by
  refine F.ok sc_law_guest_by (fun vs H Q E h => len_law_guest_by h) (fun cdv A outer s H vs Q E hr h => ⟨t_law_guest_by K C E, ?_, pure_law_guest_by h⟩)
  have hu := hu_of hr
  exact (pss_cons (ps_set (i := 1) sc_law_guest_by.nd rfl (.inl rfl) (pe_op op_fdiv (pv 0) pe_int))
      (pss_cons (ps_if (pt_cmpR op_eq (pe_op op_mod (pv 0) pe_int) pe_int (nomark _)) (pss_one (ps_ret (pe_op op_mod (pv 1) (pe_pow (m := 10) (n := 60) (N := 1000000000000000000000000000000000000000000000000000000000000) rfl rfl (by decide +kernel) (by decide) (by decide))))) pss_nil)
      (pss_cons (ps_if (pt_cmpR op_eq (pe_op op_mod (pv 0) pe_int) pe_int (nomark _)) (pss_one (ps_ret (pe_op op_sub (pe_op op_sub (pe_pow (m := 10) (n := 60) (N := 1000000000000000000000000000000000000000000000000000000000000) rfl rfl (by decide +kernel) (by decide) (by decide)) pe_int) (pe_op op_mod (pv 1) pe_int)))) pss_nil)
      (pss_cons (ps_if (pt_cmpR op_eq (pe_op op_mod (pv 0) pe_int) pe_int (nomark _)) (pss_one (ps_ret (pe_op op_mod (pv 1) pe_int))) pss_nil)
      (pss_one (ps_ret (pe_op op_sub (pe_op op_mulL pe_int (pe_op op_add pe_int (pe_op op_mod (pv 1) pe_int))) (pe_op op_mod (pe_op op_fdiv (pv 1) pe_int) pe_int))))))))
theorem cal_law_guest_by {P : Program} {w : World} {K : PySem.W.Frag} {mg : Str → Option Value} {base : Heap} {C : Cs} (D : Def K mg "_law_guest_by" s_law_guest_by) (B : Bl mg) :
    Cal P w K mg base CX0 1 "_law_guest_by" ["_law_cell"] (sp_law_guest_by K C) := by
  obtain ⟨f, fd, F, hm⟩ := D.ex
  exact ⟨f, fd, ok_law_guest_by F B, hm, F.kp, F.binds (ps := ["_law_cell"]) fun _ _ _ _ _ _ us hl => match us, hl with | [_], _ => rfl⟩
abbrev s_law_many_by : Stmt := topS 7
theorem sc_law_many_by : FnScope ["_law_cell", "_law_number"] ["_law_cell"] (defScope s_law_many_by) := ⟨rfl, rfl, rfl, by decide +kernel, rfl, by decide +kernel, by decide +kernel⟩
theorem ok_law_many_by {P : Program} {w : World} {K : PySem.W.Frag} {mg : Str → Option Value} {base : Heap} {C : Cs} {f : Addr} {fd : FuncData} (F : Fun K "_law_many_by" "_law_many_by" s_law_many_by f fd) (B : Bl mg) :
    FnOk P w K mg base CX0 1 f fd ["_law_cell"] (sp_law_many_by K C) := by
  refine F.ok sc_law_many_by (fun vs H Q E h => len_law_many_by h) (fun cdv A outer s H vs Q E hr h => ⟨t_law_many_by K C E, ?_, pure_law_many_by h⟩)
  have hu := hu_of hr
  exact (pss_cons (ps_set (i := 1) sc_law_many_by.nd rfl (.inl rfl) (pe_op op_fdiv (pv 0) pe_int))
      (pss_cons (ps_if (pt_cmpR op_eq (pe_op op_mod (pv 0) pe_int) pe_int (nomark _)) (pss_one (ps_ret (pe_op op_add pe_int (pe_op op_mod (pv 1) pe_int)))) pss_nil)
      (pss_cons (ps_if (pt_cmpR op_eq (pe_op op_mod (pv 0) pe_int) pe_int (nomark _)) (pss_one (ps_ret (pe_ix ix_list (pe_lst (pa_cons pe_int (pa_cons pe_int (pa_cons pe_int (pa_cons pe_int (pa_cons pe_int (pa_cons pe_int (pa_cons pe_int (pa_cons pe_int pa_nil))))))))) (pe_op op_mod (pv 1) pe_int) (fun _ _ => rfl)))) pss_nil)
      (pss_one (ps_ret (pe_op op_add pe_int (pe_op op_mod (pv 1) pe_int)))))))
theorem cal_law_many_by {P : Program} {w : World} {K : PySem.W.Frag} {mg : Str → Option Value} {base : Heap} {C : Cs} (D : Def K mg "_law_many_by" s_law_many_by) (B : Bl mg) :
    Cal P w K mg base CX0 1 "_law_many_by" ["_law_cell"] (sp_law_many_by K C) := by
  obtain ⟨f, fd, F, hm⟩ := D.ex
  exact ⟨f, fd, ok_law_many_by F B, hm, F.kp, F.binds (ps := ["_law_cell"]) fun _ _ _ _ _ _ us hl => match us, hl with | [_], _ => rfl⟩
abbrev s_law : Stmt := topS 8
theorem sc_law : FnScope ["_law_script", "_law_k", "_law_guest", "_law_many", "_law_found", "_law_due", "_law_odd", "_law_thing"] ["_law_script"] (defScope s_law) := ⟨rfl, rfl, rfl, by decide +kernel, rfl, by decide +kernel, by decide +kernel⟩
theorem ok_law {P : Program} {w : World} {K : PySem.W.Frag} {mg : Str → Option Value} {base : Heap} {C : Cs} {f : Addr} {fd : FuncData} (F : Fun K "law" "law" s_law f fd) (B : Bl mg) (c_law_cell_at : Cal P w K mg base CX0 1 "_law_cell_at" ["_law_script", "_law_k"] (sp_law_cell_at K C)) (c_law_guest_by : Cal P w K mg base CX0 1 "_law_guest_by" ["_law_cell"] (sp_law_guest_by K C)) (c_law_many_by : Cal P w K mg base CX0 1 "_law_many_by" ["_law_cell"] (sp_law_many_by K C)) (c_home : Cal P w K mg base CX0 1 "home" ["guest", "many"] (sp_home K C)) (c_law_whole : Cal P w K mg base CX0 1 "_law_whole" ["_law_found"] (sp_law_whole K C)) (c_is_guest : Cal P w K mg base CX0 1 "is_guest" ["thing"] (sp_is_guest K C)) :
    FnOk P w K mg base CX0 2 f fd ["_law_script"] (sp_law K C) := by
  refine F.ok sc_law (fun vs H Q E h => len_law h) (fun cdv A outer s H vs Q E hr h => ⟨t_law K C E, ?_, pure_law h⟩)
  have hu := hu_of hr
  exact (pss_cons (ps_for PassesOwn.never rfl (pi_range3 (by rfl) B.range (pa_cons pe_int (pa_cons (pe_callB (call_max2 rfl) (by rfl) B.max (by decide +kernel) (pa_cons pe_int (pa_cons (pe_callB (call_min2 rfl) (by rfl) B.min (by decide +kernel) (pa_cons (pe_callB call_len_seq (by rfl) B.len (by decide +kernel) (pa_cons (pv 0) pa_nil)) (pa_cons pe_int pa_nil))) pa_nil))) (pa_cons pe_int pa_nil)))) (pg_name (i := 1) sc_law.nd rfl (.inl rfl)) (pss_cons (ps_set (i := 2) sc_law.nd rfl (.inl rfl) (pe_fn c_law_guest_by (hr.mono (by decide)) pass0 (pa_cons (pe_fn c_law_cell_at (hr.mono (by decide)) pass0 (pa_cons (pv 0) (pa_cons (pv 1) pa_nil))) pa_nil)))
      (pss_cons (ps_set (i := 3) sc_law.nd rfl (.inl rfl) (pe_fn c_law_many_by (hr.mono (by decide)) pass0 (pa_cons (pe_fn c_law_cell_at (hr.mono (by decide)) pass0 (pa_cons (pv 0) (pa_cons (pe_op op_add (pv 1) pe_int) pa_nil))) pa_nil)))
      (pss_cons (ps_set (i := 4) sc_law.nd rfl (.inl rfl) (pe_fn c_home (hr.mono (by decide)) pass0 (pa_cons (pv 2) (pa_cons (pv 3) pa_nil))))
      (pss_cons (ps_set (i := 5) sc_law.nd rfl (.inl rfl) (pe_op op_mod (pe_op op_mod (pe_op op_add (pe_op op_mulL (pv 2) pe_int) (pe_op op_fdiv (pv 2) pe_int)) pe_int) (pv 3)))
      (pss_cons (ps_if (PW.pt (pw_or (pt_not (pt_val (pe_fn c_law_whole (hr.mono (by decide)) pass0 (pa_cons (pv 4) pa_nil)))) (pw_or1 (pt_cmpR op_ne (pv 4) (pv 5) (nomark _))))) (pss_one (ps_ret pe_bl)) pss_nil)
      (pss_cons (ps_if (pt_cmpR op_notBl (pe_fn c_is_guest (hr.mono (by decide)) pass0 (pa_cons (pv 2) pa_nil)) pe_bl (nomark _)) (pss_one (ps_ret pe_bl)) pss_nil)
      (pss_cons (ps_set (i := 6) sc_law.nd rfl (.inl rfl) (pe_lst (pa_cons pe_bl (pa_cons pe_bl (pa_cons pe_non (pa_cons (pe_callTy call_str_int (by rfl) B.str (by decide +kernel) (pa_cons (pv 2) pa_nil)) (pa_cons (pe_tup (pa_cons (pv 2) pa_nil)) (pa_cons (pe_lst (pa_cons (pv 2) pa_nil)) (pa_cons pe_dnewK (pa_cons (pe_op op_sub (pe_un un_neg pe_int) (pv 2)) (pa_cons (pe_op op_add (pv 2) (pe_pow (m := 10) (n := 60) (N := 1000000000000000000000000000000000000000000000000000000000000) rfl rfl (by decide +kernel) (by decide) (by decide))) pa_nil)))))))))))
      (pss_one (ps_for PassesOwn.never rfl (pi_list (pv 6)) (pg_name (i := 7) sc_law.nd rfl (.inl rfl)) (pss_one (ps_if (pt_cmpR op_notBl (pe_fn c_is_guest (hr.mono (by decide)) pass0 (pa_cons (pv 7) pa_nil)) pe_bl (nomark _)) (pss_one (ps_ret pe_bl)) pss_nil))))))))))))
      (pss_one (ps_ret (pe_and (pe_cmpR op_isBl (pe_fn c_is_guest (hr.mono (by decide)) pass0 (pa_cons pe_int pa_nil)) pe_bl (nomark _)) (pe_one (pe_cmpR op_isBl (pe_fn c_is_guest (hr.mono (by decide)) pass0 (pa_cons (pe_op op_sub (pe_pow (m := 10) (n := 60) (N := 1000000000000000000000000000000000000000000000000000000000000) rfl rfl (by decide +kernel) (by decide) (by decide)) pe_int) pa_nil)) pe_bl (nomark _)))))))
end RS
namespace RS
open PySem PySem.Spec PyProof.Rows L2
theorem all_mk {l : PySem.W.OpenLaw} {w : World} {K : PySem.W.Frag} {h : Heap} {mg : Str → Option Value} {fa : Addr} (X : K.In h) (G : h.Ns mainGlobals mg) (hfa : mg "law" = some (.ref fa)) (C : Cs)
    (d_is_guest : Def K mg "is_guest" s_is_guest)
    (d_home : Def K mg "home" s_home)
    (d_law_cell_at : Def K mg "_law_cell_at" s_law_cell_at)
    (d_law_whole : Def K mg "_law_whole" s_law_whole)
    (d_law_guest_by : Def K mg "_law_guest_by" s_law_guest_by)
    (d_law_many_by : Def K mg "_law_many_by" s_law_many_by)
    (d_law : Def K mg "law" s_law)
    (z_bool : PySem.W.nsIn K mainGlobals "bool" = some none) (z_int : PySem.W.nsIn K mainGlobals "int" = some none) (z_isinstance : PySem.W.nsIn K mainGlobals "isinstance" = some none) (z_len : PySem.W.nsIn K mainGlobals "len" = some none) (z_max : PySem.W.nsIn K mainGlobals "max" = some none) (z_min : PySem.W.nsIn K mainGlobals "min" = some none) (z_range : PySem.W.nsIn K mainGlobals "range" = some none) (z_str : PySem.W.nsIn K mainGlobals "str" = some none) :
    ∃ fd : FuncData, (∀ (s : Shared) (v : Value), BindsTo s fd ⟨[v], []⟩ [("_law_script", v)]) ∧ ∀ base : Heap, K.In base → base.Ns mainGlobals mg → FnOk l.prog w K mg base CX0 2 fa fd ["_law_script"] (sp_law K C) := by
  have B : Bl mg := ⟨PySem.W.mg_none_of X G z_bool, PySem.W.mg_none_of X G z_int, PySem.W.mg_none_of X G z_isinstance, PySem.W.mg_none_of X G z_len, PySem.W.mg_none_of X G z_max, PySem.W.mg_none_of X G z_min, PySem.W.mg_none_of X G z_range, PySem.W.mg_none_of X G z_str⟩
  obtain ⟨f, fd, F, hm⟩ := d_law.ex
  have e := hfa.symm.trans hm
  cases e
  refine ⟨fd, fun s v => ?_, fun base _ _ => ?_⟩
  · obtain ⟨oc, od, kV, doc, pm, an, cdv, ct, osl, rfl, lk, hcd⟩ := F.ex
    exact .of_eq rfl
  · have c_is_guest := cal_is_guest (P := l.prog) (w := w) (base := base) (C := C) d_is_guest B 
    have c_home := cal_home (P := l.prog) (w := w) (base := base) (C := C) d_home B 
    have c_law_cell_at := cal_law_cell_at (P := l.prog) (w := w) (base := base) (C := C) d_law_cell_at B 
    have c_law_whole := cal_law_whole (P := l.prog) (w := w) (base := base) (C := C) d_law_whole B 
    have c_law_guest_by := cal_law_guest_by (P := l.prog) (w := w) (base := base) (C := C) d_law_guest_by B 
    have c_law_many_by := cal_law_many_by (P := l.prog) (w := w) (base := base) (C := C) d_law_many_by B 
    exact ok_law F B c_law_cell_at c_law_guest_by c_law_many_by c_home c_law_whole c_is_guest
theorem fin {l : PySem.W.OpenLaw} {q : Program} {loose : List Str} {XP : (Str → Option Value) → Heap → Prop} {YP : World → Heap → Prop} {d : DefRec} {K : Params → PySem.W.Frag} (hn : l.most = some 63) (hdf : d.params.defaults = [])
    (hY : ∀ (w : World) (h : Heap), YP w h → (K w.params).In h)
    (F : ∀ (w : World) (mg : Str → Option Value) (fa : Addr) (h : Heap), (K w.params).In h → h.Ns mainGlobals mg → mg d.name = some (.ref fa) → ∃ C : Cs,
      ∃ fd : FuncData, (∀ (s : Shared) (u : Value), BindsTo s fd ⟨[u], []⟩ [("_law_script", u)]) ∧ ∀ base : Heap, (K w.params).In base → base.Ns mainGlobals mg → FnOk l.prog w (K w.params) mg base CX0 2 fa fd ["_law_script"] (sp_law (K w.params) C)) :
    PySem.W.WalkO q loose XP YP l.row.toRowW d [] (fun f vs => PySem.call f vs) :=
  L2.walk_of (n := 63) (k := 2) (x := "_law_script") (CX := fun _ => CX0) (sp := fun w => sp_law0 (K w.params)) hn (by decide) hdf ⟨rfl, by decide, by decide⟩ hY
    (fun w mg fa h a b c => by
      obtain ⟨C, fd, h1, h2⟩ := F w mg fa h a b c
      exact ⟨fd, h1, h2⟩)
    (fun _ _ a ns hl _ hS => ⟨a, ns, rfl, hS, hl, fun _ => rfl⟩) fun _ _ _ _ _ z => z
end RS
open PySem PySem.W PyProof.Rows
set_option maxRecDepth 100000 in
set_option maxHeartbeats 0 in
theorem PySem.Challenge.cw_ringseat_k01_a_home_holds : PySem.Challenge.rw_ringseat_k01_a_home.Holds := by
  w_on; o_law; k_head; (case hw => w_witness2)
  k_fill
  refine RS.fin (l := PySem.Challenge.rw_ringseat_k01_a_home) rfl rfl (fun w h Y => PySem.W.kIn_of Y) ?F
  case F =>
    intro w mg fa h KX G hmg
    refine ⟨⟨0, 0, 0, 0, 0, 0, 0⟩, ?_⟩
    refine' RS.all_mk KX G hmg _ (RS.def_mk KX G ?a_is_guest ?l_is_guest ?c_is_guest ?k_is_guest) (RS.def_mk KX G ?a_home ?l_home ?c_home ?k_home) (RS.def_mk KX G ?a_law_cell_at ?l_law_cell_at ?c_law_cell_at ?k_law_cell_at) (RS.def_mk KX G ?a_law_whole ?l_law_whole ?c_law_whole ?k_law_whole) (RS.def_mk KX G ?a_law_guest_by ?l_law_guest_by ?c_law_guest_by ?k_law_guest_by) (RS.def_mk KX G ?a_law_many_by ?l_law_many_by ?c_law_many_by ?k_law_many_by) (RS.def_mk KX G ?a_law ?l_law ?c_law ?k_law) ?z_bool ?z_int ?z_isinstance ?z_len ?z_max ?z_min ?z_range ?z_str
    (case a_is_guest => k_is); (case l_is_guest => k_is); (case c_is_guest => k_is); (case k_is_guest => k_is)
    (case a_home => k_is); (case l_home => k_is); (case c_home => k_is); (case k_home => k_is)
    (case a_law_cell_at => k_is); (case l_law_cell_at => k_is); (case c_law_cell_at => k_is); (case k_law_cell_at => k_is)
    (case a_law_whole => k_is); (case l_law_whole => k_is); (case c_law_whole => k_is); (case k_law_whole => k_is)
    (case a_law_guest_by => k_is); (case l_law_guest_by => k_is); (case c_law_guest_by => k_is); (case k_law_guest_by => k_is)
    (case a_law_many_by => k_is); (case l_law_many_by => k_is); (case c_law_many_by => k_is); (case k_law_many_by => k_is)
    (case a_law => k_is); (case l_law => k_is); (case c_law => k_is); (case k_law => k_is)
    (case z_bool => k_is); (case z_int => k_is); (case z_isinstance => k_is); (case z_len => k_is); (case z_max => k_is); (case z_min => k_is); (case z_range => k_is); (case z_str => k_is)
