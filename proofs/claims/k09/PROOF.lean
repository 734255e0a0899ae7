import PyProof.Rows.All
import Wide.All
import OpenK.AllK
import Wide.FinOn
import HandS.ForMost
import HandS.ForExc
import HandS.IsInst
import HandS.Style
import HandS.SortInts
import HandS.ExcIs
import HandS.Conv
import HandS.Zip
import HandS.More
import HandS.Sort
import KE.GoesNew
import PySem.Challenge.RW_ringseat_k09_whole_first_come
set_option Elab.async false
set_option linter.all false
set_option maxRecDepth 100000
set_option maxHeartbeats 4000000
/-! ### the ring: seats 0 .. n-1, far from a home, who goes ahead, settled seatings -/
namespace Ring
def far (n h p : Nat) : Nat := if h ≤ p then p - h else p + n - h
def nx (n p : Nat) : Nat := if p + 1 < n then p + 1 else 0
def pv (n p : Nat) : Nat := if p = 0 then n - 1 else p - 1
theorem far_lt {n h p : Nat} (hh : h < n) (hp : p < n) : far n h p < n := by unfold far; split <;> omega
theorem far_self {n h : Nat} : far n h h = 0 := by unfold far; simp
theorem far_zero {n h p : Nat} (hh : h < n) (e : far n h p = 0) : p = h := by unfold far at e; split at e <;> omega
theorem far_inj {n h p q : Nat} (hh : h < n) (hp : p < n) (hq : q < n) (e : far n h p = far n h q) : p = q := by unfold far at e; split at e <;> split at e <;> omega
theorem nx_lt {n p : Nat} (hp : p < n) : nx n p < n := by unfold nx; split <;> omega
theorem pv_lt {n p : Nat} (hp : p < n) : pv n p < n := by unfold pv; split <;> omega
theorem nx_pv {n p : Nat} (hp : p < n) : nx n (pv n p) = p := by unfold nx pv; split <;> split <;> omega
theorem pv_nx {n p : Nat} (hp : p < n) : pv n (nx n p) = p := by
  unfold nx
  split
  · unfold pv; rw [if_neg (by omega)]; omega
  · unfold pv; rw [if_pos rfl]; omega
theorem nx_ne {n p : Nat} (h2 : 2 ≤ n) (hp : p < n) : nx n p ≠ p := by unfold nx; split <;> omega
theorem far_nx {n h p : Nat} (hh : h < n) (hp : p < n) (e : nx n p ≠ h) : far n h (nx n p) = far n h p + 1 := by
  unfold nx at *; unfold far
  split at e <;> rename_i h1
  · rw [if_pos h1]; split <;> split <;> omega
  · rw [if_neg h1]; split <;> split <;> omega
theorem far_last {n h p : Nat} (hh : h < n) (hp : p < n) (e : nx n p = h) : far n h p = n - 1 := by
  unfold nx at *; unfold far
  split at e <;> split <;> omega
theorem far_pv {n h p : Nat} (hh : h < n) (hp : p < n) (e : p ≠ h) : far n h (pv n p) + 1 = far n h p := by
  have := far_nx (n := n) (h := h) (p := pv n p) hh (pv_lt hp) (by rw [nx_pv hp]; exact e)
  rw [nx_pv hp] at this; omega
theorem far_le {n h p q : Nat} (hh : h < n) (hp : p < n) (hq : q < n) (e : nx n p ≠ h) : far n h q < far n h (nx n p) ↔ far n h q < far n h p ∨ q = p := by
  rw [far_nx hh hp e]
  constructor
  · intro h1
    by_cases h2 : far n h q < far n h p
    · exact .inl h2
    · exact .inr (far_inj hh hq hp (by omega))
  · rintro (h1 | rfl) <;> omega
/-- the way to an empty seat grows shorter -/
theorem far_to {n p e : Nat} (hp : p < n) (he : e < n) (h : p ≠ e) : far n (nx n p) e + 1 = far n p e := by
  unfold nx far
  split <;> split <;> split <;> omega

def fup (f : Nat → Option Int) (p : Nat) (v : Option Int) : Nat → Option Int := fun q => if q = p then v else f q
theorem fup_same {f : Nat → Option Int} {p : Nat} {v : Option Int} : fup f p v p = v := by unfold fup; rw [if_pos rfl]
theorem fup_ne {f : Nat → Option Int} {p q : Nat} {v : Option Int} (h : q ≠ p) : fup f p v q = f q := by unfold fup; rw [if_neg h]

section
variable (n : Nat) (h : Int → Nat)
/-- y goes ahead of g at seat q -/
def Ah (y g : Int) (q : Nat) : Prop := far n (h g) q < far n (h y) q ∨ (far n (h y) q = far n (h g) q ∧ y < g)
instance (y g : Int) (q : Nat) : Decidable (Ah n h y g q) := by unfold Ah; exact inferInstance
def Car (f : Nat → Option Int) (g : Int) (p : Nat) : Prop := ∀ q, q < n → far n (h g) q < far n (h g) p → ∃ y, f q = some y ∧ Ah n h y g q
def Path (f : Nat → Option Int) : Prop := ∀ p, p < n → ∀ g, f p = some g → Car n h f g p
def Sits (f : Nat → Option Int) (g : Int) : Prop := ∃ p, p < n ∧ f p = some g
/-- where a look for g ends -/
def Loc (f : Nat → Option Int) (g : Int) (p : Nat) : Prop := Car n h f g p ∧ ∀ y, f p = some y → ¬ Ah n h y g p
end
section
variable {n : Nat} {h : Int → Nat} {f : Nat → Option Int}
theorem ah_irr {g : Int} {q : Nat} : ¬ Ah n h g g q := by unfold Ah; omega
theorem ah_asym {y g : Int} {q : Nat} (a : Ah n h y g q) : ¬ Ah n h g y q := by unfold Ah at *; omega
theorem ah_tot {y g : Int} {q : Nat} (a : ¬ Ah n h y g q) (e : y ≠ g) : Ah n h g y q := by unfold Ah at *; omega
theorem ah_trans {x y z : Int} {q : Nat} (a : Ah n h x y q) (b : Ah n h y z q) : Ah n h x z q := by unfold Ah at *; omega
theorem ah_nx (hh : ∀ g, h g < n) {y z : Int} {p : Nat} (hp : p < n) (ey : nx n p ≠ h y) (ez : nx n p ≠ h z) : Ah n h y z (nx n p) ↔ Ah n h y z p := by
  unfold Ah; rw [far_nx (hh _) hp ey, far_nx (hh _) hp ez]; omega
theorem car_home {g : Int} : Car n h f g (h g) := fun q _ a => by rw [far_self] at a; omega
theorem car_nx (hh : ∀ g, h g < n) {g y : Int} {p : Nat} (hp : p < n) (c : Car n h f g p) (e : f p = some y) (a : Ah n h y g p) : Car n h f g (nx n p) := by
  by_cases w : nx n p = h g
  · rw [w]; exact car_home
  · intro q hq hl
    rcases (far_le (hh g) hp hq w).mp hl with h1 | rfl
    · exact c q hq h1
    · exact ⟨y, e, a⟩
/-- no guest is carried round the whole ring while a seat is empty -/
theorem no_wrap (hh : ∀ g, h g < n) {g : Int} {p e : Nat} (hp : p < n) (he : e < n) (h0 : f e = none) (c : Car n h f g p) (h1 : f p ≠ none) : nx n p ≠ h g := by
  intro w
  have hl := far_last (hh g) hp w
  by_cases ee : e = p
  · exact h1 (ee ▸ h0)
  have : far n (h g) e < far n (h g) p := by
    have h3 := far_lt (hh g) he
    have : far n (h g) e ≠ far n (h g) p := fun x => ee (far_inj (hh g) he hp x)
    omega
  obtain ⟨y, hy, _⟩ := c e he this
  rw [h0] at hy; cases hy
theorem path_one (hh : ∀ g, h g < n) (P : Path n h f) {x : Int} {p q : Nat} (hp : p < n) (hq : q < n) (e1 : f p = some x) (e2 : f q = some x) : p = q := by
  by_cases e : far n (h x) p = far n (h x) q
  · exact far_inj (hh x) hp hq e
  by_cases l : far n (h x) p < far n (h x) q
  · obtain ⟨y, hy, a⟩ := P q hq x e2 p hp l
    rw [e1] at hy; cases hy; exact absurd a ah_irr
  · obtain ⟨y, hy, a⟩ := P p hp x e1 q hq (by omega)
    rw [e2] at hy; cases hy; exact absurd a ah_irr
theorem loc_one (hh : ∀ g, h g < n) {g : Int} {p q : Nat} (hp : p < n) (hq : q < n) (a : Loc n h f g p) (b : Loc n h f g q) : p = q := by
  by_cases e : far n (h g) p = far n (h g) q
  · exact far_inj (hh g) hp hq e
  by_cases l : far n (h g) p < far n (h g) q
  · obtain ⟨y, hy, c⟩ := b.1 p hp l
    exact absurd c (a.2 y hy)
  · obtain ⟨y, hy, c⟩ := a.1 q hq (by omega)
    exact absurd c (b.2 y hy)
theorem path_loc (P : Path n h f) {g : Int} {p : Nat} (hp : p < n) (e : f p = some g) : Loc n h f g p := ⟨P p hp g e, fun y hy => by rw [e] at hy; cases hy; exact ah_irr⟩
/-- a guest sits where the look ends, or nowhere -/
theorem loc_sits (hh : ∀ g, h g < n) (P : Path n h f) {g : Int} {p : Nat} (hp : p < n) (l : Loc n h f g p) : Sits n f g ↔ f p = some g :=
  ⟨fun ⟨q, hq, e⟩ => by rw [loc_one hh hp hq l (path_loc P hq e)]; exact e, fun e => ⟨p, hp, e⟩⟩
theorem step_put {g : Int} {p : Nat} (P : Path n h f) (c : Car n h f g p) (e : f p = none) : Path n h (fup f p (some g)) := by
  intro q hq x hx
  by_cases w : q = p
  · subst w; rw [fup_same] at hx; cases hx
    intro r hr hl
    have : r ≠ q := fun e => by rw [e] at hl; omega
    rw [fup_ne this]; exact c r hr hl
  · rw [fup_ne w] at hx
    intro r hr hl
    obtain ⟨y, hy, a⟩ := P q hq x hx r hr hl
    have : r ≠ p := fun z => by rw [z, e] at hy; cases hy
    rw [fup_ne this]; exact ⟨y, hy, a⟩
theorem step_swap (hh : ∀ g, h g < n) {g y : Int} {p : Nat} (hp : p < n) (P : Path n h f) (c : Car n h f g p) (e : f p = some y) (a : Ah n h g y p) :
    Path n h (fup f p (some g)) ∧ Car n h (fup f p (some g)) y (nx n p) := by
  constructor
  · intro q hq x hx
    by_cases w : q = p
    · subst w; rw [fup_same] at hx; cases hx
      intro r hr hl
      have : r ≠ q := fun e => by rw [e] at hl; omega
      rw [fup_ne this]; exact c r hr hl
    · rw [fup_ne w] at hx
      intro r hr hl
      obtain ⟨z, hz, b⟩ := P q hq x hx r hr hl
      by_cases w2 : r = p
      · subst w2; rw [fup_same]; rw [e] at hz; cases hz
        exact ⟨g, rfl, ah_trans a b⟩
      · rw [fup_ne w2]; exact ⟨z, hz, b⟩
  · refine car_nx hh hp (y := g) ?_ fup_same a
    intro r hr hl
    have : r ≠ p := fun e => by rw [e] at hl; omega
    rw [fup_ne this]; exact P p hp y e r hr hl
/-- who is pushed on goes ahead of who sits on the next seat -/
theorem push_next (h2 : 2 ≤ n) (hh : ∀ g, h g < n) {y z : Int} {p e : Nat} (hp : p < n) (he : e < n) (h0 : f e = none) (P : Path n h f) (ey : f p = some y) (ez : f (nx n p) = some z) : Ah n h y z (nx n p) := by
  have wy := no_wrap hh hp he h0 (P p hp y ey) (by rw [ey]; exact fun x => nomatch x)
  by_cases wz : nx n p = h z
  · have : far n (h z) (nx n p) = 0 := by rw [wz]; exact far_self
    refine .inl ?_
    rw [this, far_nx (hh y) hp wy]; omega
  · rw [ah_nx hh hp wy wz]
    obtain ⟨y', hy', a⟩ := P _ (nx_lt hp) z ez p hp (by rw [far_nx (hh z) hp wz]; omega)
    rw [ey] at hy'; cases hy'; exact a
/-- who sits away from home has one ahead of it on the seat before -/
theorem path_before (hh : ∀ g, h g < n) (P : Path n h f) {g : Int} {p : Nat} (hp : p < n) (e : f p = some g) (w : h g ≠ p) : ∃ y, f (pv n p) = some y ∧ Ah n h y g (pv n p) :=
  P p hp g e _ (pv_lt hp) (by have := far_pv (hh g) hp (fun z => w z.symm); omega)
/-! who sits, behind a step -/
theorem sits_put {g : Int} {p : Nat} (hp : p < n) (e : f p = none) (x : Int) : Sits n (fup f p (some g)) x ↔ Sits n f x ∨ x = g := by
  constructor
  · rintro ⟨q, hq, hx⟩
    by_cases w : q = p
    · subst w; rw [fup_same] at hx; cases hx; exact .inr rfl
    · rw [fup_ne w] at hx; exact .inl ⟨q, hq, hx⟩
  · rintro (⟨q, hq, hx⟩ | rfl)
    · have w : q ≠ p := fun z => by rw [z, e] at hx; cases hx
      exact ⟨q, hq, by rw [fup_ne w]; exact hx⟩
    · exact ⟨p, hp, fup_same⟩
theorem sits_swap {g y : Int} {p : Nat} (hp : p < n) (e : f p = some y) (x : Int) : (Sits n (fup f p (some g)) x ∨ x = y) ↔ (Sits n f x ∨ x = g) := by
  constructor
  · rintro (⟨q, hq, hx⟩ | rfl)
    · by_cases w : q = p
      · subst w; rw [fup_same] at hx; cases hx; exact .inr rfl
      · rw [fup_ne w] at hx; exact .inl ⟨q, hq, hx⟩
    · exact .inl ⟨p, hp, e⟩
  · rintro (⟨q, hq, hx⟩ | rfl)
    · by_cases w : q = p
      · subst w; rw [e] at hx; cases hx; exact .inr rfl
      · exact .inl ⟨q, hq, by rw [fup_ne w]; exact hx⟩
    · exact .inl ⟨p, hp, fup_same⟩
/-! taking a guest out: seat `at` is open, its entry stale -/
def PathX (n : Nat) (h : Int → Nat) (f : Nat → Option Int) (o : Nat) : Prop := ∀ q, q < n → q ≠ o → ∀ x, f q = some x → Car n h f x q
def SitsX (n : Nat) (f : Nat → Option Int) (o : Nat) (g : Int) : Prop := ∃ p, p < n ∧ p ≠ o ∧ f p = some g
theorem pathX_of (P : Path n h f) (o : Nat) : PathX n h f o := fun q hq _ x hx => P q hq x hx
theorem out_step (h2 : 2 ≤ n) (hh : ∀ g, h g < n) {y w : Int} {o : Nat} (ho : o < n) (P : PathX n h f o) (hw : f o = some w) (e : f (nx n o) = some y) (a : h y ≠ nx n o) :
    PathX n h (fup f o (some y)) (nx n o) := by
  have hb := nx_lt ho
  have hne := nx_ne h2 ho
  intro q hq wq x hx
  by_cases c1 : q = o
  · subst c1; rw [fup_same] at hx; cases hx
    intro r hr hl
    have : r ≠ q := fun e => by rw [e] at hl; omega
    rw [fup_ne this]
    exact P _ hb hne y e r hr (by rw [far_nx (hh y) ho (fun z => a z.symm)]; omega)
  · rw [fup_ne c1] at hx
    intro r hr hl
    by_cases c2 : r = o
    · subst c2; rw [fup_same]
      refine ⟨y, rfl, ?_⟩
      have hx2 : nx n r ≠ h x := fun z => by
        have := far_last (hh x) ho z
        have := far_lt (hh x) hq
        omega
      have hl2 : far n (h x) (nx n r) < far n (h x) q := by
        have h3 := far_nx (hh x) ho hx2
        have : far n (h x) (nx n r) ≠ far n (h x) q := fun z => wq (far_inj (hh x) hb hq z).symm
        omega
      obtain ⟨y', hy', ah⟩ := P q hq c1 x hx _ hb hl2
      rw [e] at hy'; cases hy'
      exact (ah_nx hh ho (fun z => a z.symm) hx2).mp ah
    · rw [fup_ne c2]; exact P q hq c1 x hx r hr hl
theorem out_sits (h2 : 2 ≤ n) {y : Int} {o : Nat} (ho : o < n) (e : f (nx n o) = some y) (x : Int) : SitsX n (fup f o (some y)) (nx n o) x ↔ SitsX n f o x := by
  have hne := nx_ne h2 ho
  constructor
  · rintro ⟨q, hq, c, hx⟩
    by_cases w : q = o
    · subst w; rw [fup_same] at hx; cases hx; exact ⟨_, nx_lt ho, hne, e⟩
    · rw [fup_ne w] at hx; exact ⟨q, hq, w, hx⟩
  · rintro ⟨q, hq, c, hx⟩
    by_cases w : q = nx n o
    · subst w; rw [e] at hx; cases hx; exact ⟨o, ho, fun z => hne z.symm, fup_same⟩
    · exact ⟨q, hq, w, by rw [fup_ne c]; exact hx⟩
theorem out_end (h2 : 2 ≤ n) (hh : ∀ g, h g < n) {o : Nat} (ho : o < n) (P : PathX n h f o) (e : ∀ y, f (nx n o) = some y → h y = nx n o) : Path n h (fup f o none) := by
  have hb := nx_lt ho
  have hne := nx_ne h2 ho
  intro q hq x hx
  by_cases c1 : q = o
  · subst c1; rw [fup_same] at hx; cases hx
  · rw [fup_ne c1] at hx
    intro r hr hl
    by_cases c2 : r = o
    · subst c2
      exfalso
      have hx2 : nx n r ≠ h x := fun z => by
        have := far_last (hh x) ho z
        have := far_lt (hh x) hq
        omega
      by_cases c3 : q = nx n r
      · subst c3; exact hx2 (e x hx).symm
      · have h3 := far_nx (hh x) ho hx2
        have : far n (h x) (nx n r) ≠ far n (h x) q := fun z => c3 (far_inj (hh x) hb hq z).symm
        obtain ⟨y, hy, ah⟩ := P q hq c1 x hx _ hb (by omega)
        have e1 := e y hy
        have : far n (h y) (nx n r) = 0 := by rw [e1]; exact far_self
        unfold Ah at ah; omega
    · rw [fup_ne c2]; exact P q hq c1 x hx r hr hl
theorem outEnd_sits {o : Nat} (x : Int) : Sits n (fup f o none) x ↔ SitsX n f o x := by
  constructor
  · rintro ⟨q, hq, hx⟩
    by_cases w : q = o
    · subst w; rw [fup_same] at hx; cases hx
    · rw [fup_ne w] at hx; exact ⟨q, hq, w, hx⟩
  · rintro ⟨q, hq, c, hx⟩
    exact ⟨q, hq, by rw [fup_ne c]; exact hx⟩
theorem sitsX_of (hh : ∀ g, h g < n) (P : Path n h f) {o : Nat} {g : Int} (ho : o < n) (e : f o = some g) (x : Int) : SitsX n f o x ↔ Sits n f x ∧ x ≠ g := by
  constructor
  · rintro ⟨q, hq, c, hx⟩
    exact ⟨⟨q, hq, hx⟩, fun z => c (path_one hh P hq ho hx (z ▸ e))⟩
  · rintro ⟨⟨q, hq, hx⟩, c⟩
    exact ⟨q, hq, fun z => by rw [z, e] at hx; cases hx; exact c rfl, hx⟩
/-! one settled seating alone -/
theorem far_before {n h p q e : Nat} (hh : h < n) (hp : p < n) (hq : q < n) (he : e < n) (h1 : far n h p < far n h q) (h2 : far n h q < far n h e) : far n (nx n e) p < far n (nx n e) q := by
  unfold nx
  split
  · unfold far at *; split <;> split <;> (split at h1 <;> split at h1 <;> split at h2 <;> split at h2 <;> omega)
  · unfold far at *; split <;> split <;> (split at h1 <;> split at h1 <;> split at h2 <;> split at h2 <;> omega)
theorem one_side (hh : ∀ g, h g < n) {s t : Nat → Option Int} (S : Path n h s) (T : Path n h t) (st : ∀ g, Sits n t g → Sits n s g) {e : Nat} (he : e < n) (h0 : t e = none) :
    ∀ (m : Nat) (g : Int) (p q : Nat), p < n → q < n → s p = some g → t q = some g → far n (nx n e) q ≤ m → ¬ far n (h g) p < far n (h g) q := by
  intro m
  induction m with
  | zero =>
    intro g p q hp hq hs ht hm hl
    have c := T q hq g ht
    have : far n (h g) q < far n (h g) e := by
      have h1 : e ≠ q := fun z => by rw [← z, h0] at ht; cases ht
      have h3 : far n (h g) e ≠ far n (h g) q := fun z => h1 (far_inj (hh g) he hq z)
      by_cases h4 : far n (h g) e < far n (h g) q
      · obtain ⟨y, hy, _⟩ := c e he h4; rw [h0] at hy; cases hy
      · omega
    have := far_before (hh g) hp hq he hl this
    omega
  | succ m ih =>
    intro g p q hp hq hs ht hm hl
    have c := T q hq g ht
    have h5 : far n (h g) q < far n (h g) e := by
      have h1 : e ≠ q := fun z => by rw [← z, h0] at ht; cases ht
      have h3 : far n (h g) e ≠ far n (h g) q := fun z => h1 (far_inj (hh g) he hq z)
      by_cases h4 : far n (h g) e < far n (h g) q
      · obtain ⟨y, hy, _⟩ := c e he h4; rw [h0] at hy; cases hy
      · omega
    have h6 := far_before (hh g) hp hq he hl h5
    obtain ⟨y, hy, a⟩ := c p hp hl
    obtain ⟨p', hp', hy'⟩ := st y ⟨p, hp, hy⟩
    refine ih y p' p hp' hp hy' hy (by omega) ?_
    have h7 : p' ≠ p := fun z => by
      rw [z, hs] at hy'; cases hy'; exact ah_irr a
    have h8 : far n (h y) p' ≠ far n (h y) p := fun z => h7 (far_inj (hh y) hp' hp z)
    by_cases h9 : far n (h y) p < far n (h y) p'
    · obtain ⟨z, hz, b⟩ := S p' hp' y hy' p hp h9
      rw [hs] at hz; cases hz
      exact absurd b (ah_asym a)
    · omega
theorem alike (hh : ∀ g, h g < n) {s t : Nat → Option Int} (S : Path n h s) (T : Path n h t) (st : ∀ g, Sits n t g ↔ Sits n s g) (h0 : ∃ e, e < n ∧ t e = none) (h1 : ∃ e, e < n ∧ s e = none) :
    ∀ p, p < n → s p = t p := by
  obtain ⟨e, he, h0⟩ := h0
  obtain ⟨e', he', h1⟩ := h1
  have key : ∀ p g, p < n → (s p = some g ↔ t p = some g) := by
    intro p g hp
    constructor
    · intro hs
      obtain ⟨q, hq, ht⟩ := (st g).mpr ⟨p, hp, hs⟩
      have a := one_side hh S T (fun g => (st g).mp) he h0 _ g p q hp hq hs ht (Nat.le_refl _)
      have b := one_side hh T S (fun g => (st g).mpr) he' h1 _ g q p hq hp ht hs (Nat.le_refl _)
      rw [far_inj (hh g) hp hq (by omega)]; exact ht
    · intro ht
      obtain ⟨q, hq, hs⟩ := (st g).mp ⟨p, hp, ht⟩
      have a := one_side hh S T (fun g => (st g).mp) he h0 _ g q p hq hp hs ht (Nat.le_refl _)
      have b := one_side hh T S (fun g => (st g).mpr) he' h1 _ g p q hp hq ht hs (Nat.le_refl _)
      rw [far_inj (hh g) hp hq (by omega)]; exact hs
  intro p hp
  cases hs : s p with
  | some g => exact ((key p g hp).mp hs).symm
  | none =>
    cases ht : t p with
    | none => rfl
    | some g => rw [(key p g hp).mpr ht] at hs; cases hs
end
end Ring
/-! ### who sits, as a list -/
namespace Ring
def gl (n : Nat) (f : Nat → Option Int) : List Int := (List.range n).filterMap f
def em (n : Nat) (f : Nat → Option Int) : Nat := (List.range n).countP (fun p => (f p).isNone)
theorem mem_gl {n : Nat} {f : Nat → Option Int} {x : Int} : x ∈ gl n f ↔ Sits n f x := by
  unfold gl Sits
  rw [List.mem_filterMap]
  exact ⟨fun ⟨p, hp, e⟩ => ⟨p, List.mem_range.mp hp, e⟩, fun ⟨p, hp, e⟩ => ⟨p, List.mem_range.mpr hp, e⟩⟩
theorem fm_len (l : List Nat) (f : Nat → Option Int) : (l.filterMap f).length + l.countP (fun p => (f p).isNone) = l.length := by
  induction l with
  | nil => rfl
  | cons a l ih =>
    cases e : f a with
    | none => rw [List.filterMap_cons_none e, List.countP_cons_of_pos (by simp [e]), List.length_cons]; omega
    | some y => rw [List.filterMap_cons_some e, List.countP_cons_of_neg (by simp [e]), List.length_cons, List.length_cons]; omega
theorem gl_em (n : Nat) (f : Nat → Option Int) : (gl n f).length + em n f = n := by
  have := fm_len (List.range n) f
  rw [List.length_range] at this; exact this
theorem em_pos {n : Nat} {f : Nat → Option Int} : 0 < em n f ↔ ∃ e, e < n ∧ f e = none := by
  unfold em
  rw [List.countP_pos_iff]
  constructor
  · rintro ⟨a, ha, e⟩; exact ⟨a, List.mem_range.mp ha, by simpa using e⟩
  · rintro ⟨a, ha, e⟩; exact ⟨a, List.mem_range.mpr ha, by simpa using e⟩
theorem fm_nodup (l : List Nat) (hl : l.Nodup) (f : Nat → Option Int) (one : ∀ p q x, p ∈ l → q ∈ l → f p = some x → f q = some x → p = q) : (l.filterMap f).Nodup := by
  induction l with
  | nil => exact List.nodup_nil
  | cons a l ih =>
    obtain ⟨h1, h2⟩ := List.nodup_cons.mp hl
    have ih' := ih h2 fun p q x hp hq => one p q x (List.mem_cons_of_mem _ hp) (List.mem_cons_of_mem _ hq)
    cases e : f a with
    | none => rw [List.filterMap_cons_none e]; exact ih'
    | some y =>
      rw [List.filterMap_cons_some e]
      refine List.nodup_cons.mpr ⟨fun hm => ?_, ih'⟩
      obtain ⟨b, hb, e2⟩ := List.mem_filterMap.mp hm
      have := one a b y List.mem_cons_self (List.mem_cons_of_mem _ hb) e e2
      exact h1 (this ▸ hb)
theorem gl_nodup {n : Nat} {h : Int → Nat} {f : Nat → Option Int} (hh : ∀ g, h g < n) (P : Path n h f) : (gl n f).Nodup :=
  fm_nodup _ List.nodup_range f fun _ _ _ hp hq e1 e2 => path_one hh P (List.mem_range.mp hp) (List.mem_range.mp hq) e1 e2
theorem perm_of {a b : List Int} (ha : a.Nodup) (hb : b.Nodup) (e : ∀ x, x ∈ a ↔ x ∈ b) : a.Perm b := (List.perm_ext_iff_of_nodup ha hb).mpr e
theorem gl_perm {n : Nat} {h : Int → Nat} {f : Nat → Option Int} (hh : ∀ g, h g < n) (P : Path n h f) {gs : List Int} (hn : gs.Nodup) (e : ∀ x, Sits n f x ↔ x ∈ gs) : (gl n f).Perm gs :=
  perm_of (gl_nodup hh P) hn fun x => by rw [mem_gl]; exact e x
theorem em_of {n : Nat} {h : Int → Nat} {f : Nat → Option Int} (hh : ∀ g, h g < n) (P : Path n h f) {gs : List Int} (hn : gs.Nodup) (e : ∀ x, Sits n f x ↔ x ∈ gs) : em n f + gs.length = n := by
  have := gl_em n f
  rw [(gl_perm hh P hn e).length_eq] at this; omega
/-- no seat, no guest -/
theorem path_none {n : Nat} {h : Int → Nat} : Path n h (fun _ => none) := fun _ _ _ e => nomatch e
theorem sits_none {n : Nat} {x : Int} : ¬ Sits n (fun _ => none) x := fun ⟨_, _, e⟩ => nomatch e
/-- a look ends: where a seat is empty -/
theorem loc_or (n : Nat) (h : Int → Nat) (f : Nat → Option Int) (g : Int) (p : Nat) : (f p = none ∨ (∃ y, f p = some y ∧ ¬ Ah n h y g p)) ∨ ∃ y, f p = some y ∧ Ah n h y g p := by
  cases e : f p with
  | none => exact .inl (.inl rfl)
  | some y =>
    by_cases a : Ah n h y g p
    · exact .inr ⟨y, rfl, a⟩
    · exact .inl (.inr ⟨y, rfl, a⟩)
end Ring
namespace Ring
theorem swap_out {n : Nat} {h : Int → Nat} {f : Nat → Option Int} (hh : ∀ g, h g < n) (P : Path n h f) {g y : Int} {p : Nat} (hp : p < n) (e : f p = some y) (ng : ¬ Sits n f g) : ¬ Sits n (fup f p (some g)) y := by
  rintro ⟨q, hq, hx⟩
  by_cases w : q = p
  · subst w; rw [fup_same] at hx; cases hx; exact ng ⟨q, hq, e⟩
  · rw [fup_ne w] at hx; exact w (path_one hh P hq hp hx e)
end Ring
/-! ### the home of a guest, how far it is carried, who goes ahead: as the program reckons, and on the ring -/
namespace RS
def homeI (g n : Int) : Int := (g * 40503 + g / 65536) % 65536 % n
def farI (g p n : Int) : Int := (p - homeI g n) % n
def aheadI (a b p n : Int) : Bool := decide (farI b p n < farI a p n ∨ (farI a p n = farI b p n ∧ a < b))
def hm (n : Nat) (g : Int) : Nat := (homeI g n).toNat
theorem homeI_lo {g n : Int} (hn : 0 < n) : 0 ≤ homeI g n := Int.emod_nonneg _ (by omega)
theorem homeI_hi {g n : Int} (hn : 0 < n) : homeI g n < n := Int.emod_lt_of_pos _ hn
theorem farI_lo {g p n : Int} (hn : 0 < n) : 0 ≤ farI g p n := Int.emod_nonneg _ (by omega)
theorem farI_hi {g p n : Int} (hn : 0 < n) : farI g p n < n := Int.emod_lt_of_pos _ hn
theorem hm_is {n : Nat} (hn : 0 < n) (g : Int) : homeI g n = (hm n g : Int) := by
  have := homeI_lo (g := g) (n := n) (by omega)
  unfold hm; omega
theorem hm_lt {n : Nat} (hn : 0 < n) (g : Int) : hm n g < n := by
  have := homeI_hi (g := g) (n := n) (by omega)
  have := hm_is hn g
  omega
theorem mod_far {n h p : Nat} (hh : h < n) (hp : p < n) : ((p : Int) - (h : Int)) % (n : Int) = (Ring.far n h p : Int) := by
  unfold Ring.far
  split
  · rw [Int.emod_eq_of_lt (by omega) (by omega)]; omega
  · rw [← Int.add_emod_right, Int.emod_eq_of_lt (by omega) (by omega)]; omega
theorem far_is {n p : Nat} (hp : p < n) (g : Int) : farI g p n = (Ring.far n (hm n g) p : Int) := by
  have hn : 0 < n := by omega
  unfold farI
  rw [hm_is hn, mod_far (hm_lt hn g) hp]
theorem nx_is {n p : Nat} (hp : p < n) : ((p : Int) + 1) % (n : Int) = (Ring.nx n p : Int) := by
  unfold Ring.nx
  split
  · rw [Int.emod_eq_of_lt (by omega) (by omega)]; omega
  · have : (p : Int) + 1 = n := by omega
    rw [this, Int.emod_self]; rfl
theorem pv_is {n p : Nat} (hp : p < n) : ((p : Int) - 1) % (n : Int) = (Ring.pv n p : Int) := by
  unfold Ring.pv
  split
  · rename_i e
    rw [← Int.add_emod_right, Int.emod_eq_of_lt (by omega) (by omega)]; omega
  · rw [Int.emod_eq_of_lt (by omega) (by omega)]; omega
theorem ahead_is {n p : Nat} (hp : p < n) (a b : Int) : aheadI a b p n = decide (Ring.Ah n (hm n) a b p) := by
  unfold aheadI Ring.Ah
  rw [far_is hp, far_is hp]
  refine decide_eq_decide.mpr ?_
  constructor
  · rintro (h | ⟨h1, h2⟩)
    · exact .inl (by omega)
    · exact .inr ⟨by omega, h2⟩
  · rintro (h | ⟨h1, h2⟩)
    · exact .inl (by omega)
    · exact .inr ⟨by omega, h2⟩
end RS
/-! ### any filling of the seats, turned into the settled one by exchanges: what it costs -/
namespace Ring
def tot (F : Nat → Int → Int) (f : Nat → Option Int) : Nat → Int
  | 0 => 0
  | k + 1 => match f k with
    | none => tot F f k
    | some g => tot F f k + F k g
theorem tot_out {F : Nat → Int → Int} {f : Nat → Option Int} {p : Nat} {v : Option Int} : ∀ {k : Nat}, k ≤ p → tot F (fup f p v) k = tot F f k
  | 0, _ => rfl
  | k + 1, h => by
    unfold tot
    rw [fup_ne (show k ≠ p by omega), tot_out (k := k) (by omega)]
theorem tot_fup {F : Nat → Int → Int} {f : Nat → Option Int} {p : Nat} {x y : Int} (e : f p = some x) : ∀ {k : Nat}, p < k → tot F (fup f p (some y)) k = tot F f k - F p x + F p y
  | 0, h => absurd h (Nat.not_lt_zero _)
  | k + 1, h => by
    unfold tot
    by_cases w : k = p
    · subst w
      rw [fup_same, e, tot_out (Nat.le_refl _)]
      show _ + _ = _ + _ - _ + _
      omega
    · rw [fup_ne w, tot_fup e (k := k) (by omega)]
      cases f k with
      | none => rfl
      | some g => show _ + _ = _ + _ - _ + _; omega
theorem tot_same {F G : Nat → Int → Int} {f v : Nat → Option Int} : ∀ {k : Nat}, (∀ p, p < k → f p = v p) → (∀ p g, p < k → f p = some g → F p g = G p g) → tot F f k = tot G v k
  | 0, _, _ => rfl
  | k + 1, h, hF => by
    have ih := tot_same (k := k) (fun p hp => h p (by omega)) fun p g hp => hF p g (by omega)
    unfold tot
    rw [← h k (by omega)]
    cases e : f k with
    | none => exact ih
    | some g => show tot F f k + F k g = tot G v k + G k g; rw [ih, hF k g (by omega) e]
theorem tot_nn {F : Nat → Int → Int} {f : Nat → Option Int} : ∀ {k : Nat}, (∀ p g, p < k → f p = some g → 0 ≤ F p g) → 0 ≤ tot F f k
  | 0, _ => Int.le_refl 0
  | k + 1, h => by
    have ih := tot_nn (k := k) fun p g hp => h p g (by omega)
    unfold tot
    cases e : f k with
    | none => exact ih
    | some g => have := h k g (by omega) e; show 0 ≤ _ + _; omega
theorem far_move {n a b p r t : Nat} (ha : a < n) (hb : b < n) (hp : p < n) (hr : r < n) (e : far n a r = far n a p + t) (h : far n b p + t < n) : far n b r = far n b p + t := by
  unfold far at *
  repeat' split at e
  all_goals (repeat' split at h)
  all_goals (repeat' split)
  all_goals omega
theorem sq_ex {a b c d : Int} (h : d + b = a + c) : -(a * a) - c * c + b * b + d * d = -2 * ((b - a) * (c - b)) := by
  have : d = a + c - b := by omega
  subst this
  grind
theorem lin_ex {a b c d n x g : Int} (h : d + b = a + c) : -(x * (n - a)) - g * (n - c) + g * (n - b) + x * (n - d) = -((x - g) * (c - b)) := by
  have : d = a + c - b := by omega
  subst this
  grind
section
variable {n : Nat} {h : Int → Nat}
/-- none is carried past an empty seat -/
def LP (n : Nat) (h : Int → Nat) (f : Nat → Option Int) : Prop := ∀ q, q < n → ∀ g, f q = some g → ∀ r, r < n → far n (h g) r < far n (h g) q → f r ≠ none
def One (n : Nat) (f : Nat → Option Int) : Prop := ∀ p q x, p < n → q < n → f p = some x → f q = some x → p = q
/-- an exchange: g at q and x at p, g ahead of x at p -/
theorem exch (hh : ∀ g, h g < n) {f : Nat → Option Int} (L : LP n h f) (O : One n f) {p q : Nat} {x g : Int} (hp : p < n) (hq : q < n) (ex : f p = some x) (eg : f q = some g) (lt : far n (h g) p < far n (h g) q) (A : Ah n h g x p) :
    ∃ f' : Nat → Option Int, LP n h f' ∧ One n f' ∧ (∀ r, f' r = none ↔ f r = none) ∧ (∀ z, Sits n f' z ↔ Sits n f z) ∧ (∀ F : Nat → Int → Int, tot F f' n = tot F f n - F p x - F q g + F p g + F q x) ∧
      far n (h x) q + far n (h g) p = far n (h x) p + far n (h g) q ∧ far n (h x) p ≤ far n (h g) p ∧ (∀ r z, r < n → f' r = some z → (f r = some z) ∨ (r = p ∧ z = g) ∨ (r = q ∧ z = x)) := by
  have hpq : p ≠ q := fun z => by rw [z] at lt; omega
  have le : far n (h x) p ≤ far n (h g) p := by unfold Ah at A; omega
  have gl := far_lt (hh g) hq
  have mv : far n (h x) q = far n (h x) p + (far n (h g) q - far n (h g) p) := far_move (hh g) (hh x) hp hq (by omega) (by omega)
  have at_p : fup (fup f p (some g)) q (some x) p = some g := by rw [fup_ne hpq, fup_same]
  have at_q : fup (fup f p (some g)) q (some x) q = some x := fup_same
  have at_r : ∀ r, r ≠ p → r ≠ q → fup (fup f p (some g)) q (some x) r = f r := fun r h1 h2 => by rw [fup_ne h2, fup_ne h1]
  have nn : ∀ r, fup (fup f p (some g)) q (some x) r = none ↔ f r = none := fun r => by
    by_cases h1 : r = p
    · rw [h1, at_p, ex]; simp
    · by_cases h2 : r = q
      · rw [h2, at_q, eg]; simp
      · rw [at_r r h1 h2]
  have cases3 : ∀ r z, r < n → fup (fup f p (some g)) q (some x) r = some z → (f r = some z) ∨ (r = p ∧ z = g) ∨ (r = q ∧ z = x) := fun r z hr e => by
    by_cases h1 : r = p
    · rw [h1, at_p] at e; cases e; exact .inr (.inl ⟨h1, rfl⟩)
    · by_cases h2 : r = q
      · rw [h2, at_q] at e; cases e; exact .inr (.inr ⟨h2, rfl⟩)
      · rw [at_r r h1 h2] at e; exact .inl e
  refine ⟨fup (fup f p (some g)) q (some x), ?_, ?_, nn, ?_, ?_, by omega, le, cases3⟩
  · intro r hr z ez r' hr' hl
    rw [Ne, nn r']
    by_cases h1 : r = p
    · rw [h1, at_p] at ez; cases ez
      rw [h1] at hl
      exact L q hq g eg r' hr' (by omega)
    · by_cases h2 : r = q
      · rw [h2, at_q] at ez; cases ez
        rw [h2] at hl
        by_cases h3 : far n (h x) r' < far n (h x) p
        · exact L p hp x ex r' hr' h3
        · have := far_move (hh x) (hh g) hp hr' (t := far n (h x) r' - far n (h x) p) (by omega) (by omega)
          exact L q hq g eg r' hr' (by omega)
      · rw [at_r r h1 h2] at ez
        exact L r hr z ez r' hr' hl
  · intro r s z hr hs e1 e2
    have back : ∀ r, r < n → fup (fup f p (some g)) q (some x) r = some z → (z = g ∧ r = p) ∨ (z = x ∧ r = q) ∨ (z ≠ g ∧ z ≠ x ∧ f r = some z) := fun r hr e => by
      by_cases h1 : r = p
      · rw [h1, at_p] at e; cases e; exact .inl ⟨rfl, h1⟩
      · by_cases h2 : r = q
        · rw [h2, at_q] at e; cases e; exact .inr (.inl ⟨rfl, h2⟩)
        · rw [at_r r h1 h2] at e
          exact .inr (.inr ⟨fun w => h2 (O r q g hr hq (w ▸ e) eg), fun w => h1 (O r p x hr hp (w ▸ e) ex), e⟩)
    have gx : g ≠ x := fun w => hpq (O p q x hp hq ex (w ▸ eg))
    rcases back r hr e1 with ⟨a1, b1⟩ | ⟨a1, b1⟩ | ⟨a1, b1, c1⟩ <;> rcases back s hs e2 with ⟨a2, b2⟩ | ⟨a2, b2⟩ | ⟨a2, b2, c2⟩
    · rw [b1, b2]
    · exact absurd (a1.symm.trans a2) gx
    · exact absurd a1 a2
    · exact absurd (a2.symm.trans a1) gx
    · rw [b1, b2]
    · exact absurd a1 b2
    · exact absurd a2 a1
    · exact absurd a2 b1
    · exact O r s z hr hs c1 c2
  · intro z
    constructor
    · rintro ⟨r, hr, e⟩
      rcases cases3 r z hr e with e | ⟨_, rfl⟩ | ⟨_, rfl⟩
      · exact ⟨r, hr, e⟩
      · exact ⟨q, hq, eg⟩
      · exact ⟨p, hp, ex⟩
    · rintro ⟨r, hr, e⟩
      by_cases h1 : r = p
      · rw [h1, ex] at e; cases e; exact ⟨q, hq, at_q⟩
      · by_cases h2 : r = q
        · rw [h2, eg] at e; cases e; exact ⟨p, hp, at_p⟩
        · exact ⟨r, hr, by rw [at_r r h1 h2]; exact e⟩
  · intro F
    rw [tot_fup (x := g) (by rw [fup_ne (fun z => hpq z.symm)]; exact eg) hq, tot_fup ex hp]; omega
abbrev cT (n : Nat) (h : Int → Nat) : Nat → Int → Int := fun p g => (far n (h g) p : Int)
abbrev cS (n : Nat) (h : Int → Nat) : Nat → Int → Int := fun p g => (far n (h g) p : Int) * (far n (h g) p : Int)
abbrev cU (n : Nat) (h : Int → Nat) : Nat → Int → Int := fun p g => g * ((n : Int) - (far n (h g) p : Int))
theorem settle (hh : ∀ g, h g < n) : ∀ (s u : Nat) (f : Nat → Option Int), LP n h f → One n f → (∀ q g, q < n → f q = some g → 0 ≤ g) → (tot (cS n h) f n).toNat = s → (tot (cU n h) f n).toNat = u →
    ∃ v, Path n h v ∧ (∀ r, v r = none ↔ f r = none) ∧ (∀ z, Sits n v z ↔ Sits n f z) ∧ tot (cT n h) v n = tot (cT n h) f n ∧ tot (cS n h) v n ≤ tot (cS n h) f n ∧
      (∀ m, (∀ q g, q < n → f q = some g → far n (h g) q ≤ m) → ∀ q g, q < n → v q = some g → far n (h g) q ≤ m) := by
  intro s
  induction s using Nat.strongRecOn with
  | _ s ihs =>
    intro u
    induction u using Nat.strongRecOn with
    | _ u ihu =>
      intro f L O hg es eu
      by_cases hP : Path n h f
      · exact ⟨f, hP, fun _ => Iff.rfl, fun _ => Iff.rfl, rfl, Int.le_refl _, fun m hm => hm⟩
      obtain ⟨q, g, hq, eg, p, hp, lt, no⟩ : ∃ q g, q < n ∧ f q = some g ∧ ∃ p, p < n ∧ far n (h g) p < far n (h g) q ∧ ¬ ∃ y, f p = some y ∧ Ah n h y g p := by
        apply Classical.byContradiction
        intro no
        exact hP fun q hq g eg p hp lt => Classical.byContradiction fun z => no ⟨q, g, hq, eg, p, hp, lt, z⟩
      obtain ⟨x, ex⟩ : ∃ x, f p = some x := by
        cases e : f p with
        | none => exact absurd e (L q hq g eg p hp lt)
        | some x => exact ⟨x, rfl⟩
      have hpq : p ≠ q := fun z => by rw [z] at lt; omega
      have A : Ah n h g x p := ah_tot (fun z => no ⟨x, ex, z⟩) fun w => hpq (O p q g hp hq (w ▸ ex) eg)
      obtain ⟨f', L', O', nn, st, tt, eq1, le1, c3⟩ := exch hh L O hp hq ex eg lt A
      have hg' : ∀ r z, r < n → f' r = some z → 0 ≤ z := fun r z hr e => by
        rcases c3 r z hr e with e | ⟨_, rfl⟩ | ⟨_, rfl⟩
        · exact hg r z hr e
        · exact hg q z hq eg
        · exact hg p z hp ex
      have nS : ∀ {w : Nat → Option Int}, 0 ≤ tot (cS n h) w n := fun {w} => tot_nn fun p g _ _ => Int.mul_nonneg (by omega) (by omega)
      have nU : ∀ {w : Nat → Option Int}, (∀ q g, q < n → w q = some g → 0 ≤ g) → 0 ≤ tot (cU n h) w n := fun {w} hw => tot_nn fun p g hp e => Int.mul_nonneg (hw p g hp e) (by have := far_lt (hh g) hp; omega)
      have hS : tot (cS n h) f' n = tot (cS n h) f n + -2 * (((far n (h g) p : Int) - far n (h x) p) * ((far n (h g) q : Int) - far n (h g) p)) := by
        rw [tt (cS n h), ← sq_ex (d := (far n (h x) q : Int)) (by omega)]
        show tot (cS n h) f n - (far n (h x) p : Int) * (far n (h x) p : Int) - (far n (h g) q : Int) * (far n (h g) q : Int) + (far n (h g) p : Int) * (far n (h g) p : Int) + (far n (h x) q : Int) * (far n (h x) q : Int) = _; omega
      have hU : tot (cU n h) f' n = tot (cU n h) f n + -((x - g) * ((far n (h g) q : Int) - far n (h g) p)) := by
        rw [tt (cU n h), ← lin_ex (d := (far n (h x) q : Int)) (a := (far n (h x) p : Int)) (n := n) (by omega)]
        show tot (cU n h) f n - x * ((n : Int) - (far n (h x) p : Int)) - g * ((n : Int) - (far n (h g) q : Int)) + g * ((n : Int) - (far n (h g) p : Int)) + x * ((n : Int) - (far n (h x) q : Int)) = _; omega
      have hT : tot (cT n h) f' n = tot (cT n h) f n := by
        rw [tt (cT n h)]; show _ - (far n (h x) p : Int) - (far n (h g) q : Int) + (far n (h g) p : Int) + (far n (h x) q : Int) = _; omega
      have hM : ∀ m, (∀ q g, q < n → f q = some g → far n (h g) q ≤ m) → ∀ q g, q < n → f' q = some g → far n (h g) q ≤ m := fun m hm r z hr e => by
        have m1 := hm q g hq eg
        rcases c3 r z hr e with e | ⟨rfl, rfl⟩ | ⟨rfl, rfl⟩
        · exact hm r z hr e
        · omega
        · omega
      have dpos : 1 ≤ (far n (h g) q : Int) - far n (h g) p := by omega
      have fin : ∀ v, Path n h v → (∀ r, v r = none ↔ f' r = none) → (∀ z, Sits n v z ↔ Sits n f' z) → tot (cT n h) v n = tot (cT n h) f' n → tot (cS n h) v n ≤ tot (cS n h) f' n → tot (cS n h) f' n ≤ tot (cS n h) f n →
          (∀ m, (∀ q g, q < n → f' q = some g → far n (h g) q ≤ m) → ∀ q g, q < n → v q = some g → far n (h g) q ≤ m) →
          ∃ v, Path n h v ∧ (∀ r, v r = none ↔ f r = none) ∧ (∀ z, Sits n v z ↔ Sits n f z) ∧ tot (cT n h) v n = tot (cT n h) f n ∧ tot (cS n h) v n ≤ tot (cS n h) f n ∧
            (∀ m, (∀ q g, q < n → f q = some g → far n (h g) q ≤ m) → ∀ q g, q < n → v q = some g → far n (h g) q ≤ m) := fun v a b c d e e' k =>
        ⟨v, a, fun r => (b r).trans (nn r), fun z => (c z).trans (st z), d.trans hT, Int.le_trans e e', fun m hm => k m (hM m hm)⟩
      by_cases tie : far n (h g) p = far n (h x) p
      · have gx : g < x := by unfold Ah at A; omega
        have e0 : tot (cS n h) f' n = tot (cS n h) f n := by rw [hS, tie, Int.sub_self, Int.zero_mul]; omega
        have pos : 1 * 1 ≤ (x - g) * ((far n (h g) q : Int) - far n (h g) p) := Int.mul_le_mul (by omega) dpos (by decide) (by omega)
        have u0 := nU hg
        have u1 := nU hg'
        obtain ⟨v, h1, h2, h3, h4, h5, h6⟩ := ihu (tot (cU n h) f' n).toNat (by omega) f' L' O' hg' (by rw [e0]; exact es) rfl
        exact fin v h1 h2 h3 h4 h5 (by omega) h6
      · have pos : 1 * 1 ≤ ((far n (h g) p : Int) - far n (h x) p) * ((far n (h g) q : Int) - far n (h g) p) := Int.mul_le_mul (by omega) dpos (by decide) (by omega)
        have s0 := nS (w := f)
        have s1 := nS (w := f')
        obtain ⟨v, h1, h2, h3, h4, h5, h6⟩ := ihs (tot (cS n h) f' n).toNat (by omega) _ f' L' O' hg' rfl rfl
        exact fin v h1 h2 h3 h4 h5 (by omega) h6
/-! each in turn on the first empty seat -/
def FC (n : Nat) (h : Int → Nat) (f : Nat → Option Int) (g : Int) (p : Nat) : Prop := p < n ∧ f p = none ∧ ∀ r, r < n → far n (h g) r < far n (h g) p → f r ≠ none
theorem fc_one (hh : ∀ g, h g < n) {f : Nat → Option Int} {g : Int} {p q : Nat} (a : FC n h f g p) (b : FC n h f g q) : p = q := by
  by_cases e : far n (h g) p = far n (h g) q
  · exact far_inj (hh g) a.1 b.1 e
  by_cases l : far n (h g) p < far n (h g) q
  · exact absurd a.2.1 (b.2.2 p a.1 l)
  · exact absurd b.2.1 (a.2.2 q b.1 (by omega))
theorem fc_put {f : Nat → Option Int} {g : Int} {p : Nat} (L : LP n h f) (O : One n f) (c : FC n h f g p) (ng : ¬ Sits n f g) : LP n h (fup f p (some g)) ∧ One n (fup f p (some g)) := by
  constructor
  · intro q hq x e r hr lt
    by_cases w : r = p
    · rw [w, fup_same]; simp
    rw [fup_ne w]
    by_cases w2 : q = p
    · rw [w2, fup_same] at e; cases e
      rw [w2] at lt; exact c.2.2 r hr lt
    · rw [fup_ne w2] at e; exact L q hq x e r hr lt
  · intro r s x hr hs e1 e2
    by_cases w1 : r = p
    · by_cases w2 : s = p
      · rw [w1, w2]
      · rw [w1, fup_same] at e1; cases e1
        rw [fup_ne w2] at e2; exact absurd ⟨s, hs, e2⟩ ng
    · rw [fup_ne w1] at e1
      by_cases w2 : s = p
      · rw [w2, fup_same] at e2; cases e2
        exact absurd ⟨r, hr, e1⟩ ng
      · rw [fup_ne w2] at e2; exact O r s x hr hs e1 e2
end
end Ring
/-! ### words of our own: a def that stands behind the top, a def that keeps its promise, the call of one -/
namespace RS
open PySem PySem.Spec PyProof.Rows L2

abbrev rAdd : R2 := rI0 fun i j => .int (i + j)
abbrev rSub : R2 := rI0 fun i j => .int (i - j)
abbrev rMod : R2 := rI (fun _ j => 0 < j) fun i j => .int (i % j)
abbrev rFdv : R2 := rI CDiv fun i j => .int (i / j)
abbrev rLt : R2 := rI0 fun i j => .bl (decide (i < j))
abbrev rLe : R2 := rI0 fun i j => .bl (decide (i ≤ j))
abbrev rGt : R2 := rI0 fun i j => .bl (decide (j < i))
abbrev rGe : R2 := rI0 fun i j => .bl (decide (j ≤ i))
abbrev rNeg : V → Hp → VK → Prop := rU fun i => .int (-i)
/-- one factor within 64 bits -/
def CMl (i j : Int) : Prop := (-18446744073709551616 < i ∧ i < 18446744073709551616) ∨ (-18446744073709551616 < j ∧ j < 18446744073709551616)
theorem CMl.ok {i j : Int} (h : CMl i j) : CMul i j := h
abbrev rMul : R2 := rI CMl fun i j => .int (i * j)
theorem op_mulL {X : Cx} : OpR X (binaryOp .Mult) rMul := by
  intro pins s σ H x y u v Q I rx ry h
  obtain ⟨i, j, hx, hy, hc, q⟩ := h
  exact op_mul pins s σ H x y u v Q I rx ry ⟨i, j, hx, hy, hc.ok, q⟩
/-- a power of two written numbers, by its value -/
theorem pe_pow {X : Cx} {a b : Int} {m n N : Nat} {j1 j2 : Nat} {p1 p2 pos : Pos} (ha : a = (m : Int)) (hb : b = (n : Int)) (hN : m ^ n = N) (hn : (n : Int) ≤ 1000000) (hm : m < 18446744073709551616) :
    PE X (.BinOp (.Constant (.int a) j1 p1) .Pow (.Constant (.int b) j2 p2) pos) (tC (.int (N : Int))) := by
  refine ⟨fun pins s σ H Q I h => ?_⟩
  refine (pe_op op_pow pe_int pe_int).run pins s σ H Q I ⟨a, b, rfl, rfl, ⟨by omega, by omega, by subst ha; rw [Int.natAbs_natCast]; exact hm⟩, ?_⟩
  show Q (.int (a ^ b.toNat)) H
  rw [hb, Int.toNat_natCast, ha, ← Int.natCast_pow, hN]
  exact h
def rLenS (K : PySem.W.Frag) : List V → Hp → VK → Prop := fun xs H Q => ∃ p ys, xs = [.ref p] ∧ (SqL K H p ys ∨ SqT K H p ys) ∧ Q (.int ys.length) H
def rLenD : List V → Hp → VK → Prop := fun xs H Q => ∃ a kvs, xs = [V.ref a] ∧ H a = some (.dK kvs) ∧ Q (.int kvs.length) H
def rListS (K : PySem.W.Frag) : List V → Hp → VK → Prop := fun xs H Q => ∃ p ys, xs = [.ref p] ∧ (SqL K H p ys ∨ SqT K H p ys) ∧ ∀ l, H l = none → Q (.ref l) (upd H l (.lst ys))
def rMax2 : List V → Hp → VK → Prop := fun xs H Q => ∃ i j, xs = [.int i, .int j] ∧ Q (.int (if j > i then j else i)) H
def rMin2 : List V → Hp → VK → Prop := fun xs H Q => ∃ i j, xs = [.int i, .int j] ∧ Q (.int (if j < i then j else i)) H
def rInt1 : List V → Hp → VK → Prop := fun xs H Q => (∃ i, xs = [.int i] ∧ Q (.int i) H) ∨ ∃ k, xs = [.bl k] ∧ Q (.int (if k then 1 else 0)) H
def rStr1 : List V → Hp → VK → Prop := fun xs H Q => ∃ i, xs = [.int i] ∧ i.natAbs.log2 < 1920 ∧ Q (.str (toString i)) H

/-- the program's classes, by where they stand -/
structure Cs where
  cRingError : Addr
  cNoGuest : Addr
  cNoSize : Addr
  cTwice : Addr
  cAway : Addr
  cFull : Addr
  cHouse : Addr

/-- a def of the text, by its name -/
structure Def (K : PySem.W.Frag) (mg : Str → Option Value) (x : Str) (st : Stmt) : Prop where
  ex : ∃ f fd, Fun K x x st f fd ∧ mg x = some (.ref f)
theorem def_mk {K : PySem.W.Frag} {h : Heap} {mg : Str → Option Value} {x : Str} {st : Stmt} {f : Addr} (X : K.In h) (G : h.Ns mainGlobals mg)
    {od an : Option Addr} {sl : Array (Option Value)} {oc kV dc pm cd ct : Value}
    (a : PySem.W.nsIn K mainGlobals x = some (some (.ref f))) (l : K.lookup f = some ⟨oc, od, .func (PySem.W.fnOf x x (defArgs st) (defBody st) (defScope st) .none kV dc pm an cd ct), sl⟩)
    (c : PySem.W.codeIn K cd x = true) (k : PySem.W.keepIn K (.ref f) = true) : Def K mg x st :=
  ⟨f, _, fun_mk l c k, PySem.W.mg_of X G a⟩

/-- a def that keeps its promise, by its name -/
structure Cal (P : Program) (w : World) (K : PySem.W.Frag) (mg : Str → Option Value) (base : Heap) (CX : CXT) (k : Nat) (x : Str) (ps : List Str) (sp : Sp) : Prop where
  ex : ∃ f fd, FnOk P w K mg base CX k f fd ps sp ∧ mg x = some (.ref f) ∧ PySem.W.keepIn K (.ref f) = true ∧ Binds K fd ps []
section
variable {X : Cx} {CX : CXT} {k : Nat} {ps : List Str} {sp : Sp} {E : XK} {x : Str} {p pos : Pos} {e : Expr} {es : List Expr} {t : TA}
theorem pe_fn (c : Cal X.prog X.w X.K X.mg X.base CX k x ps sp) (hr : Room k X.A) (hx : Passes CX X E) (ha : PA X (e :: es) t) (hg : Gl X x := by rfl) (hdb : (x == ("__debug__" : Str)) = false := by decide)
    (he : starEach (e :: es) X.env = (false, eval e X.env) :: starEach es X.env := by rfl) (hpl : (backTo pos (starEach es X.env)).any (·.1) = false := by rfl) :
    PE X (.Call (.Name x p) (e :: es) [] pos) (tCall sp [] E t) := by
  obtain ⟨f, fd, G, hm, hk, hb⟩ := c.ex
  exact pe_call G hr hg hm hk hb .nil hx ha hdb he hpl
end
theorem iteB {c : Bool} {A B : Prop} (h1 : c = true → A) (h2 : c = false → B) : if c = true then A else B := by
  cases c with
  | true => rw [if_pos rfl]; exact h1 rfl
  | false => rw [if_neg Bool.false_ne_true]; exact h2 rfl
end RS
/-! ### isinstance of the built-in kinds, by what a value is -/
namespace RS
open PySem PySem.Spec PyProof.Rows L2
inductive Ty where
  | int | bool | none | str | list | tuple | dict
  deriving DecidableEq
def Ty.nm : Ty → String
  | .int => "int" | .bool => "bool" | .none => "NoneType" | .str => "str" | .list => "list" | .tuple => "tuple" | .dict => "dict"
def Ty.isA : Ty → Ty → Bool
  | .int, .int => true | .bool, .bool => true | .bool, .int => true | .none, .none => true | .str, .str => true | .list, .list => true | .tuple, .tuple => true | .dict, .dict => true | _, _ => false
def hoTy : HO → Option Ty
  | .lst _ => some .list | .tup _ => some .tuple | .dK _ => some .dict | .frz _ (.lst _) => some .list | _ => Option.none
def tyOf (H : Hp) : V → Option Ty
  | .int _ => some .int | .bl _ => some .bool | .non => some .none | .str _ => some .str
  | .ref a => (H a).bind hoTy
  | _ => Option.none
theorem tyOf_int {H : Hp} {i : Int} : tyOf H (.int i) = some .int := rfl
theorem tyOf_bl {H : Hp} {i : Bool} : tyOf H (.bl i) = some .bool := rfl
theorem tyOf_non {H : Hp} : tyOf H .non = some .none := rfl
theorem tyOf_str {H : Hp} {i : Str} : tyOf H (.str i) = some .str := rfl
theorem tyX_of {K : PySem.W.Frag} {H : Hp} {x : V} {s : Ty} (h : tyOf H x = some s) : TyX K H x (.type s.nm) := by
  cases x with
  | int i => cases h; exact .base (.int i)
  | bl b => cases h; exact .base (.bl b)
  | non => cases h; exact .base .non
  | str z => cases h; exact .base (.str z)
  | byt b => cases h
  | flt b => cases h
  | ty n => cases h
  | ref a =>
    have h' : (H a).bind hoTy = some s := h
    cases e : H a with
    | none => rw [e] at h'; cases h'
    | some o =>
      rw [e] at h'
      have h2 : hoTy o = some s := h'
      cases o with
      | lst xs => cases h2; exact .base (.lst e)
      | tup xs => cases h2; exact .base (.tup e)
      | dK kvs => cases h2; exact .base (.dK e)
      | frz ob u =>
        cases u with
        | lst xs => cases h2; exact .base (.frz e)
        | _ => cases h2
      | _ => cases h2
theorem kit_is : ∀ s c : Ty, (c = .int ∨ c = .bool ∨ c = .list ∨ c = .tuple) → kitB s.nm c.nm = some (s.isA c) := by
  intro s c hc
  rcases hc with rfl | rfl | rfl | rfl <;> cases s <;> decide +kernel
def isWh : V → Bool
  | .int _ => true
  | _ => false
theorem isWh_int {i : Int} : isWh (.int i) = true := rfl
theorem isWh_bl {i : Bool} : isWh (.bl i) = false := rfl
theorem isWh_non : isWh .non = false := rfl
theorem isWh_ref {i : Addr} : isWh (.ref i) = false := rfl
def rIsA (c : Ty) : List V → Hp → VK → Prop := fun xs H Q => ∃ x s, xs = [x, .ty c.nm] ∧ tyOf H x = some s ∧ Q (.bl (s.isA c)) H
theorem call_isA {X : Cx} {c : Ty} (hc : c = .int ∨ c = .bool ∨ c = .list ∨ c = .tuple := by first | exact .inl rfl | exact .inr (.inl rfl) | exact .inr (.inr (.inl rfl)) | exact .inr (.inr (.inr rfl))) : CallR X (.builtin "isinstance") (rIsA c) := by
  intro pins s σ H xs us Q I r h
  obtain ⟨x, t, rfl, ht, q⟩ := h
  exact call_isi pins s σ H _ us Q I r ⟨x, .ty c.nm, _, _, _, rfl, .ty _, tyX_of ht, kit_ty (kit_is t c hc), q⟩

/-! ### steps -/
section
variable {K : PySem.W.Frag} {ta : TA} {te tl : TE} {g : TG} {tb t u : TS} {c : TT} {D : Ends} {σ : L2.St} {H H' : Hp}
theorem for_rng1 {j : Int} {n : Nat} (hta : ∀ R : List V → Hp → Prop, R [.int j] H' → ta σ H R) (hj : j = (n : Int)) (hn : n < 2 ^ 62) (Pv : Nat → L2.St → Hp → Prop) (h0 : Pv 0 σ H')
    (hs : ∀ (i : Nat) σ H, i < n → Pv i σ H → g (.int (i : Int)) σ H fun σ2 H2 => tb { D with nx := Pv (i + 1), ct := Pv (i + 1), bk := D.nx } σ2 H2) (hd : ∀ σ H, Pv n σ H → D.nx σ H) : tFor (iRng1 ta) g tb D σ H := by
  subst hj
  refine hta _ ⟨(n : Int), rfl, ?_, ?_, ?_⟩
  · have : (0 : Int) ≤ n := Int.natCast_nonneg n
    omega
  · omega
  · rw [Int.toNat_natCast]
    exact for_range (lo := 0) Pv h0 (fun i σ H hi p => by rw [Int.zero_add]; exact hs i σ H hi p) hd
theorem for_lst {a : Addr} {xs : List V} (htl : ∀ R : VK, R (.ref a) H' → tl σ H R) (hx : SqL K H' a xs) (Pv : Nat → L2.St → Hp → Prop) (h0 : Pv 0 σ H') (hl : ∀ i σ H, i ≤ xs.length → Pv i σ H → SqL K H a xs)
    (hs : ∀ i x σ H, xs[i]? = some x → Pv i σ H → g x σ H fun σ2 H2 => tb { D with nx := Pv (i + 1), ct := Pv (i + 1), bk := D.nx } σ2 H2) (hd : ∀ σ H, Pv xs.length σ H → D.nx σ H) : tFor (iList K tl) g tb D σ H :=
  htl _ ⟨a, rfl, ⟨xs, hx⟩, for_list Pv h0 hl hs hd⟩
theorem if_step {b : Bool} (hc : ∀ R : Bool → Hp → Prop, R b H' → c σ H R) (h1 : b = true → t D σ H') (h2 : b = false → u D σ H') : tIfS c t u D σ H := hc _ (iteB h1 h2)
theorem asg_step {v : V} {i : Nat} (he : ∀ R : VK, R v H' → te σ H R) (h : D.nx (σ.set i (some v)) H') : tAsg te (gName i) D σ H := he _ h
end
end RS
namespace RS
open PySem PySem.Spec PyProof.Rows L2
section
variable {K : PySem.W.Frag} {ta : TA} {te tl : TE} {g : TG} {tb t u : TS} {c : TT} {D : Ends} {σ : L2.St} {H H' : Hp}
theorem asg_ext {v : V} {i : Nat} (he : ∀ R : VK, (∀ H', Same H H' → R v H') → te σ H R) (h : ∀ H', Same H H' → D.nx (σ.set i (some v)) H') : tAsg te (gName i) D σ H := he _ h
theorem if_ext {b : Bool} (hc : ∀ R : Bool → Hp → Prop, (∀ H', Same H H' → R b H') → c σ H R) (h1 : b = true → ∀ H', Same H H' → t D σ H') (h2 : b = false → ∀ H', Same H H' → u D σ H') : tIfS c t u D σ H :=
  hc _ fun H' s => iteB (fun e => h1 e H' s) (fun e => h2 e H' s)
theorem same_new {p : Addr} {o : HO} (h : H p = none) : Same H (upd H p o) := fun b x e => by
  rw [upd_ne (ne_of_none e h)]
  exact e
theorem sizes {n : Nat} (h : n ≤ 100000) : n ≤ sizeLine := Nat.le_trans h (by decide)
theorem sizel {n : Nat} (h : n < 100000) : n < sizeLine := Nat.lt_of_lt_of_le h (by decide)
end
end RS
namespace RS
open PySem PySem.Spec PyProof.Rows L2
/-- an if behind which the ways meet: D is a letter in both -/
theorem if_join {c : TT} {t u : TS} {D : Ends} {σ : L2.St} {H : Hp} {b : Bool} (P : L2.St → Hp → Prop) (hc : ∀ R : Bool → Hp → Prop, (∀ H', Same H H' → R b H') → c σ H R)
    (h1 : b = true → ∀ H', Same H H' → ∀ D' : Ends, D'.rt = D.rt → D'.bk = D.bk → D'.ct = D.ct → (∀ σ' H', P σ' H' → D'.nx σ' H') → t D' σ H')
    (h2 : b = false → ∀ H', Same H H' → ∀ D' : Ends, D'.rt = D.rt → D'.bk = D.bk → D'.ct = D.ct → (∀ σ' H', P σ' H' → D'.nx σ' H') → u D' σ H')
    (rest : ∀ σ' H', P σ' H' → D.nx σ' H') : tIfS c t u D σ H :=
  hc _ fun H' s => iteB (fun e => h1 e H' s D rfl rfl rfl rest) (fun e => h2 e H' s D rfl rfl rfl rest)
end RS
namespace RS
open PySem PySem.Spec PyProof.Rows L2
section
variable {K : PySem.W.Frag} {ta : TA} {te tl : TE} {g : TG} {tb t u : TS} {c : TT} {D : Ends} {σ : L2.St} {H H' : Hp}
/-- what is known of the value and the heap behind it: P -/
theorem asg_any {i : Nat} (P : V → Hp → Prop) (he : ∀ R : VK, (∀ v H', P v H' → R v H') → te σ H R) (h : ∀ v H', P v H' → D.nx (σ.set i (some v)) H') : tAsg te (gName i) D σ H := he _ h
theorem ret_any (P : V → Hp → Prop) (he : ∀ R : VK, (∀ v H', P v H' → R v H') → te σ H R) (h : ∀ v H', P v H' → D.rt v H') : tRet te D σ H := he _ h
theorem drop_any (P : V → Hp → Prop) (he : ∀ R : VK, (∀ v H', P v H' → R v H') → te σ H R) (h : ∀ v H', P v H' → D.nx σ H') : tDrop te D σ H := he _ h
theorem if_any {b : Bool} (P : Hp → Prop) (hc : ∀ R : Bool → Hp → Prop, (∀ H', P H' → R b H') → c σ H R) (h1 : b = true → ∀ H', P H' → t D σ H') (h2 : b = false → ∀ H', P H' → u D σ H') : tIfS c t u D σ H :=
  hc _ fun H' s => iteB (fun e => h1 e H' s) (fun e => h2 e H' s)
theorem for_rng3 {a b c : Int} {n : Nat} (hta : ∀ R : List V → Hp → Prop, R [.int a, .int b, .int c] H' → ta σ H R) (hn : RgC a b c n) (Pv : Nat → L2.St → Hp → Prop) (h0 : Pv 0 σ H')
    (hs : ∀ (i : Nat) σ H, i < n → Pv i σ H → g (.int (a + (i : Int) * c)) σ H fun σ2 H2 => tb { D with nx := Pv (i + 1), ct := Pv (i + 1), bk := D.nx } σ2 H2) (hd : ∀ σ H, Pv n σ H → D.nx σ H) : tFor (iRng3 ta) g tb D σ H :=
  hta _ ⟨a, b, c, n, rfl, hn, for_rangeC Pv h0 hs hd⟩
end
theorem rgc_2 {N : Int} (h1 : 0 < N) (h2 : N ≤ 100000) : RgC 0 N 2 ((N - 1) / 2 + 1).toNat := by
  have e : Builtin.Range.rangeSize 0 N 2 = (N - 1) / 2 + 1 := by
    unfold Builtin.Range.rangeSize
    rw [if_pos (by decide), if_pos h1, Int.sub_zero]
  refine ⟨by decide, by decide, ?_, by rw [e]; omega⟩
  unfold Builtin.Range.small
  rw [e]
  simp only [Builtin.Range.rangeFitsLong, Bool.and_eq_true, Bool.or_eq_true, decide_eq_true_eq, beq_iff_eq, show ((2 : Int) > 0) by decide, if_true]
  omega
theorem rgc_4 {N : Int} (h1 : 0 < N) (h2 : N ≤ 100000) : RgC 0 N 4 ((N - 1) / 4 + 1).toNat := by
  have e : Builtin.Range.rangeSize 0 N 4 = (N - 1) / 4 + 1 := by
    unfold Builtin.Range.rangeSize
    rw [if_pos (by decide), if_pos h1, Int.sub_zero]
  refine ⟨by decide, by decide, ?_, by rw [e]; omega⟩
  unfold Builtin.Range.small
  rw [e]
  simp only [Builtin.Range.rangeFitsLong, Bool.and_eq_true, Bool.or_eq_true, decide_eq_true_eq, beq_iff_eq, show ((4 : Int) > 0) by decide, if_true]
  omega
theorem tyOf_same {H H' : Hp} {x : V} {s : Ty} (h : tyOf H x = some s) (e : Same H H') : tyOf H' x = some s := by
  cases x with
  | ref a =>
    have h' : (H a).bind hoTy = some s := h
    show (H' a).bind hoTy = some s
    cases q : H a with
    | none => rw [q] at h'; cases h'
    | some o => rw [e a o q]; rw [q] at h'; exact h'
  | _ => exact h
theorem tyOf_at {H : Hp} {a : Addr} {o : HO} {s : Ty} (h : H a = some o) (e : hoTy o = some s) : tyOf H (.ref a) = some s := by
  show (H a).bind hoTy = some s
  rw [h]; exact e
end RS
namespace RS
open PySem PySem.Spec PyProof.Rows L2
section
variable {K : PySem.W.Frag} {tl : TE} {g : TG} {tb : TS} {D : Ends} {σ : L2.St} {H H' : Hp}
/-- a for over a list that is made there: what is known of it and the heap is P -/
theorem for_any (P : Addr → List V → Hp → Prop) (htl : ∀ R : VK, (∀ a xs H', P a xs H' → R (.ref a) H') → tl σ H R)
    (hb : ∀ a xs H', P a xs H' → SqL K H' a xs ∧ ∃ Pv : Nat → L2.St → Hp → Prop, Pv 0 σ H' ∧ (∀ i σ H, i ≤ xs.length → Pv i σ H → SqL K H a xs) ∧
      (∀ i x σ H, xs[i]? = some x → Pv i σ H → g x σ H fun σ2 H2 => tb { D with nx := Pv (i + 1), ct := Pv (i + 1), bk := D.nx } σ2 H2) ∧ ∀ σ H, Pv xs.length σ H → D.nx σ H) : tFor (iList K tl) g tb D σ H :=
  htl _ fun a xs H' p => by
    obtain ⟨hx, Pv, h0, hl, hs, hd⟩ := hb a xs H' p
    exact ⟨a, rfl, ⟨xs, hx⟩, for_list Pv h0 hl hs hd⟩
end
end RS
namespace RS
open PySem PySem.Spec PyProof.Rows L2
/-- a while whose test leaves the heap -/
theorem while_step {c : TT} {tb : TS} {D : Ends} {σ : L2.St} {H : Hp} (W : Nat → L2.St → Hp → Prop) (h0 : ∃ m, W m σ H)
    (hs : ∀ m σ H, W m σ H → ∃ b : Bool, (∀ R : Bool → Hp → Prop, R b H → c σ H R) ∧
      (b = true → tb { D with nx := fun σ' H' => ∃ m', m' < m ∧ W m' σ' H', ct := fun σ' H' => ∃ m', m' < m ∧ W m' σ' H', bk := D.nx } σ H) ∧ (b = false → D.nx σ H)) : tWhile c tb D σ H := by
  refine ⟨W, h0, fun m σ H w => ?_⟩
  obtain ⟨b, hc, h1, h2⟩ := hs m σ H w
  exact hc _ (iteB (fun e => ⟨_, fun _ _ z => z, h1 e⟩) h2)
end RS
namespace RS
open PySem PySem.Spec PyProof.Rows L2
/-- for i, x in enumerate(xs): the pair is laid anew -/
theorem for_enum {K : PySem.W.Frag} {ta : TA} {g : TG} {tb : TS} {D : Ends} {σ : L2.St} {H H' : Hp} {a : Addr} {xs : List V} (hta : ∀ R : List V → Hp → Prop, R [.ref a] H' → ta σ H R) (hx : SqL K H' a xs) (Pv : Nat → L2.St → Hp → Prop) (h0 : Pv 0 σ H')
    (hl : ∀ i σ H, Pv i σ H → SqL K H a xs)
    (hs : ∀ i x σ H, xs[i]? = some x → Pv i σ H → ∀ T, H T = none → g (.ref T) σ (upd H T (.tup [.int (i : Nat), x])) fun σ2 H2 => tb { D with nx := Pv (i + 1), ct := Pv (i + 1), bk := D.nx } σ2 H2) (hd : ∀ σ H, Pv xs.length σ H → D.nx σ H) : tFor (iEnum K ta) g tb D σ H := by
  refine hta _ ⟨a, xs, rfl, hx, fun i m σ H => m = xs.length - i ∧ i ≤ xs.length ∧ Pv i σ H, ⟨xs.length, by simp, Nat.zero_le _, h0⟩, ?_⟩
  rintro i m σ H ⟨rfl, hi, p⟩
  have q := hl i σ H p
  by_cases hlt : i < xs.length
  · refine .inr ⟨⟨xs, xs[i], q, by simp [hlt]⟩, Pv (i + 1), fun σ' H' p' => ⟨xs.length - (i + 1), by omega, rfl, hlt, p'⟩, fun v H1 y => ?_⟩
    obtain ⟨T, x, rfl, hT, rfl, hx⟩ := y
    exact hs i x σ H (hx xs q) p T hT
  · have e : i = xs.length := by omega
    subst e
    exact .inl ⟨⟨xs, q, Nat.le_refl _⟩, hd σ H p⟩
end RS
namespace RS
open PySem PySem.Spec PyProof.Rows L2
/-- xs[i] = v -/
theorem set_step {te to ti : TE} {D : Ends} {σ : L2.St} {H H' : Hp} {v : V} {a : Addr} {xs : List V} {z : Int} {j : Nat} (he : ∀ R : VK, R v H' → te σ H R) (ho : ∀ R : VK, R (.ref a) H' → to σ H' R) (hi : ∀ R : VK, R (.int z) H' → ti σ H' R)
    (hx : H' a = some (.lst xs)) (hj : ixN xs.length z = some j) (h : D.nx σ (upd H' a (.lst (xs.set j v)))) : tAsg te (gSub to ti rSetL) D σ H :=
  he _ (ho _ (hi _ ⟨a, xs, z, j, rfl, rfl, hx, hj, h⟩))
theorem var_is {σ : L2.St} {i : Nat} {v : V} (h : σ[i]? = some (some v)) {R : VK} {H : Hp} (r : R v H) : tVar i σ H R := ⟨v, h, r⟩
end RS
namespace RS
open PySem PySem.Spec PyProof.Rows L2
/-- d[k] = v -/
theorem dput_step {td ty tv : TE} {D : Ends} {σ : L2.St} {H H' : Hp} {v : V} {d : Addr} {kvs : List (Key × V)} {k : Key} (hv : ∀ R : VK, R v H' → tv σ H R) (hd : ∀ R : VK, R (.ref d) H' → td σ H' R) (hk : ∀ R : VK, R (kV k) H' → ty σ H' R)
    (hx : H' d = some (.dK kvs)) (hl : kvs.length < sizeLine) (h : D.nx σ (upd H' d (.dK (putK kvs k v)))) : sDPut td ty tv D σ H :=
  hv _ (hd _ (hk _ ⟨d, _, rfl, DPut.k hx hl, h⟩))
end RS
namespace RS
open PySem PySem.Spec PyProof.Rows L2
section
variable {K : PySem.W.Frag} {ta : TA} {te tl : TE} {tt : TT} {vs : List Nat} {σ : L2.St} {H H' : Hp} {Q : VK} {k : Nat}
/-- a comprehension over range(n) that leaves the heap: P by the turn and what is made so far -/
theorem lc_rng1 {j : Int} {n : Nat} (hta : ∀ R : List V → Hp → Prop, R [.int j] H' → ta σ H R) (hj : j = (n : Int)) (hn : n ≤ 100000) (hw : ∀ x, wipe ((wipe σ vs).set k (some x)) vs = wipe σ vs) (P : Nat → List V → Prop) (h0 : P 0 [])
    (hs : ∀ (i : Nat) acc H2, i < n → Same H' H2 → P i acc → ∃ b : Bool, (∀ R : Bool → Hp → Prop, R b H2 → tt ((wipe σ vs).set k (some (.int (i : Int)))) H2 R) ∧
      (b = true → ∃ v, (∀ R : VK, R v H2 → te ((wipe σ vs).set k (some (.int (i : Int)))) H2 R) ∧ P (i + 1) (acc ++ [v])) ∧ (b = false → P (i + 1) acc))
    (hd : ∀ D H3 acc, H' D = none → Same H' H3 → H3 D = some (.lst acc) → P n acc → acc.length ≤ n → Q (.ref D) H3) : tLc (iRng1 ta) (gName k) tt te vs σ H Q := by
  subst hj
  refine hta _ ⟨(n : Int), rfl, ?_, ?_, ?_⟩
  · have : (0 : Int) ≤ n := Int.natCast_nonneg n
    omega
  · omega
  rw [Int.toNat_natCast]
  intro D hD
  refine lc_range (lo := 0) (fun i H2 => Same H' H2 ∧ ∃ acc, H2 D = some (.lst acc) ∧ P i acc ∧ acc.length ≤ i) ⟨same_new hD, [], upd_same, h0, Nat.le_refl _⟩ ?_ ?_
  · rintro i H2 hi ⟨sm, acc, ha, p, hl⟩
    rw [Int.zero_add]
    obtain ⟨b, h1, h2, h3⟩ := hs i acc H2 hi sm p
    refine ⟨hw _, h1 _ ?_⟩
    cases b with
    | true =>
      obtain ⟨v, h4, h5⟩ := h2 rfl
      rw [if_pos rfl]
      refine h4 _ ⟨acc, ha, sizel (by omega), fun b o hb => ?_, _, upd_same, h5, by rw [List.length_append]; simp; omega⟩
      rw [upd_ne (fun z => by rw [z, hD] at hb; cases hb)]; exact sm _ _ hb
    | false =>
      rw [if_neg (by decide)]
      exact ⟨sm, acc, ha, h3 rfl, by omega⟩
  · rintro H2 ⟨sm, acc, ha, p, hl⟩
    exact hd D H2 acc hD sm ha p hl
theorem lc_lst {a : Addr} {xs : List V} (htl : ∀ R : VK, R (.ref a) H' → tl σ H R) (hx : SqL K H' a xs) (hn : xs.length ≤ 90000) (hw : ∀ x, wipe ((wipe σ vs).set k (some x)) vs = wipe σ vs) (P : Nat → List V → Prop) (h0 : P 0 [])
    (hs : ∀ (i : Nat) x acc H2, xs[i]? = some x → Same H' H2 → P i acc → ∃ b : Bool, (∀ R : Bool → Hp → Prop, R b H2 → tt ((wipe σ vs).set k (some x)) H2 R) ∧
      (b = true → ∃ v, (∀ R : VK, R v H2 → te ((wipe σ vs).set k (some x)) H2 R) ∧ P (i + 1) (acc ++ [v])) ∧ (b = false → P (i + 1) acc))
    (hd : ∀ D H3 acc, H' D = none → Same H' H3 → H3 D = some (.lst acc) → P xs.length acc → acc.length ≤ xs.length → Q (.ref D) H3) : tLc (iList K tl) (gName k) tt te vs σ H Q := by
  refine htl _ ⟨a, rfl, ⟨xs, hx⟩, ?_⟩
  intro D hD
  refine lc_list (xs := xs) (fun i H2 => Same H' H2 ∧ ∃ acc, H2 D = some (.lst acc) ∧ P i acc ∧ acc.length ≤ i) ⟨same_new hD, [], upd_same, h0, Nat.le_refl _⟩ (fun i H2 _ p => p.1.seq hx) ?_ ?_
  · rintro i x H2 hi ⟨sm, acc, ha, p, hl⟩
    have hlt := (List.getElem?_eq_some_iff.mp hi).1
    obtain ⟨b, h1, h2, h3⟩ := hs i x acc H2 hi sm p
    refine ⟨hw _, h1 _ ?_⟩
    cases b with
    | true =>
      obtain ⟨v, h4, h5⟩ := h2 rfl
      rw [if_pos rfl]
      refine h4 _ ⟨acc, ha, sizel (by omega), fun b o hb => ?_, _, upd_same, h5, by rw [List.length_append]; simp; omega⟩
      rw [upd_ne (fun z => by rw [z, hD] at hb; cases hb)]; exact sm _ _ hb
    | false =>
      rw [if_neg (by decide)]
      exact ⟨sm, acc, ha, h3 rfl, by omega⟩
  · rintro H2 ⟨sm, acc, ha, p, hl⟩
    exact hd D H2 acc hD sm ha p hl
end
end RS
namespace RS
open PySem PySem.Spec PyProof.Rows L2
theorem for_tp {K : PySem.W.Frag} {tl : TE} {g : TG} {tb : TS} {D : Ends} {σ : L2.St} {H H' : Hp} {a : Addr} {xs : List V} (htl : ∀ R : VK, R (.ref a) H' → tl σ H R) (hx : SqT K H' a xs) (Pv : Nat → L2.St → Hp → Prop) (h0 : Pv 0 σ H') (hl : ∀ i σ H, i ≤ xs.length → Pv i σ H → SqT K H a xs)
    (hs : ∀ i x σ H, xs[i]? = some x → Pv i σ H → g x σ H fun σ2 H2 => tb { D with nx := Pv (i + 1), ct := Pv (i + 1), bk := D.nx } σ2 H2) (hd : ∀ σ H, Pv xs.length σ H → D.nx σ H) : tFor (iTup K tl) g tb D σ H :=
  htl _ ⟨a, rfl, ⟨xs, hx⟩, for_tup Pv h0 hl hs hd⟩
end RS
namespace RS
open PySem PySem.Spec PyProof.Rows L2
theorem seqT_of {K : PySem.W.Frag} {H H' : Hp} {a : Addr} {xs : List V} (e : Same H H') (h : SqT K H a xs) : SqT K H' a xs := by
  rcases h with (h | ⟨o, h⟩) | h
  · exact .inl (.inl (e _ _ h))
  · exact .inl (.inr ⟨o, e _ _ h⟩)
  · exact .inr h
end RS
namespace RS
open PySem PySem.Spec PyProof.Rows L2
theorem gtup2 {K : PySem.W.Frag} {i j : Nat} {p : Addr} {x y : V} {σ : L2.St} {H : Hp} {Q : L2.St → Hp → Prop} (h : H p = some (.tup [x, y])) (q : Q ((σ.set i (some x)).set j (some y)) H) : gTup K 2 (gCons (gName i) (gCons (gName j) gNil)) (.ref p) σ H Q :=
  ⟨p, _, rfl, .inl (.inl h), rfl, ⟨_, _, rfl, ⟨_, _, rfl, rfl, q⟩⟩⟩
end RS
namespace RS
open PySem PySem.Spec PyProof.Rows L2
theorem nxt_seq {a b : TS} {D0 : Ends} {σ : L2.St} {H : Hp} {r : VK} {bk ct : L2.St → Hp → Prop} (h : a { D0 with nx := b D0 } σ H) : tNext { nx := tSeq a b D0, rt := r, bk := bk, ct := ct } σ H := h
end RS
namespace RS
open PySem PySem.Spec PyProof.Rows L2
theorem nx_at {F : L2.St → Hp → Prop} {σ : L2.St} {H : Hp} {r : VK} {bk ct : L2.St → Hp → Prop} (h : F σ H) : Ends.nx { nx := F, rt := r, bk := bk, ct := ct } σ H := h
end RS
namespace RS
open PySem PySem.Spec PyProof.Rows L2
theorem ty_list {K : PySem.W.Frag} {H : Hp} {a : Addr} {xs : List V} (h : SqL K H a xs) : tyV K "list" (.ref a) H := .inl ⟨rfl, xs, h⟩
end RS
namespace RS
open PySem PySem.Spec PyProof.Rows L2
theorem asg_tup2 {K : PySem.W.Frag} {te : TE} {D : Ends} {σ : L2.St} {H : Hp} {i j : Nat} (P : V → V → Hp → Prop) (he : ∀ R : VK, (∀ t u w H', H' t = some (.tup [u, w]) → P u w H' → R (.ref t) H') → te σ H R) (h : ∀ u w H', P u w H' → D.nx ((σ.set i (some u)).set j (some w)) H') :
    tAsg te (gTup K 2 (gCons (gName i) (gCons (gName j) gNil))) D σ H := he _ fun _ _ _ H' e p => gtup2 e (h _ _ H' p)
end RS
namespace RS
open PySem PySem.Spec PyProof.Rows L2
/-- an if behind which the ways meet, its test leaving the heap -/
theorem if_joinE {c : TT} {t u : TS} {D : Ends} {σ : L2.St} {H H' : Hp} {b : Bool} (P : L2.St → Hp → Prop) (hc : ∀ R : Bool → Hp → Prop, R b H' → c σ H R)
    (h1 : b = true → ∀ D' : Ends, D'.rt = D.rt → D'.bk = D.bk → D'.ct = D.ct → (∀ σ' H', P σ' H' → D'.nx σ' H') → t D' σ H')
    (h2 : b = false → ∀ D' : Ends, D'.rt = D.rt → D'.bk = D.bk → D'.ct = D.ct → (∀ σ' H', P σ' H' → D'.nx σ' H') → u D' σ H')
    (rest : ∀ σ' H', P σ' H' → D.nx σ' H') : tIfS c t u D σ H :=
  hc _ (iteB (fun e => h1 e D rfl rfl rfl rest) (fun e => h2 e D rfl rfl rfl rest))
end RS
namespace RS
open PySem PySem.Spec PyProof.Rows L2
/-- for x, y in zip(xs, ys), lists of one length -/
theorem for_zip2 {K : PySem.W.Frag} {ta : TA} {tb : TS} {D : Ends} {σ : L2.St} {H H' : Hp} {i j : Nat} {a b : Addr} {xs ys : List V} (hta : ∀ R : List V → Hp → Prop, R [.ref a, .ref b] H' → ta σ H R) (hx : SqL K H' a xs) (hy : SqL K H' b ys) (hl : xs.length = ys.length) (Pv : Nat → L2.St → Hp → Prop) (h0 : Pv 0 σ H')
    (hq : ∀ i σ H, Pv i σ H → SqL K H a xs ∧ SqL K H b ys) (hs : ∀ k x y σ H, xs[k]? = some x → ys[k]? = some y → Pv k σ H → ∀ H2, Same H H2 → tb { D with nx := Pv (k + 1), ct := Pv (k + 1), bk := D.nx } ((σ.set i (some x)).set j (some y)) H2) (hd : ∀ σ H, Pv xs.length σ H → D.nx σ H) :
    tFor (iZip K ta) (gTup K 2 (gCons (gName i) (gCons (gName j) gNil))) tb D σ H :=
  hta _ ⟨a, b, xs, ys, rfl, hx, hy, RZ.for_zipL hl Pv h0 hq (fun k x y T σ H ex ey p hT => gtup2 upd_same (hs k x y σ H ex ey p _ (same_new hT))) hd⟩
end RS
namespace RS
open PySem PySem.Spec PyProof.Rows L2
theorem asg_lst3 {K : PySem.W.Frag} {te : TE} {D : Ends} {σ : L2.St} {H : Hp} {i j k : Nat} (P : V → V → V → Hp → Prop) (he : ∀ R : VK, (∀ t u w z H', H' t = some (.lst [u, w, z]) → P u w z H' → R (.ref t) H') → te σ H R) (h : ∀ u w z H', P u w z H' → D.nx (((σ.set i (some u)).set j (some w)).set k (some z)) H') :
    tAsg te (gLst K 3 (gCons (gName i) (gCons (gName j) (gCons (gName k) gNil)))) D σ H := he _ fun t _ _ _ H' e p => ⟨t, _, rfl, .inl (.inl e), rfl, ⟨_, _, rfl, ⟨_, _, rfl, ⟨_, _, rfl, rfl, h _ _ _ H' p⟩⟩⟩⟩
end RS
/-! ### a ring of seats as a list -/
namespace RS
open PySem PySem.Spec PyProof.Rows L2
def ov : Option Int → V
  | .none => .non
  | .some g => .int g
theorem ov_non : ov none = .non := rfl
theorem ov_some {g : Int} : ov (some g) = .int g := rfl
theorem ov_inj {a b : Option Int} (h : ov a = ov b) : a = b := by
  cases a <;> cases b <;> simp [ov] at h ⊢
  exact h
def row (n : Nat) (f : Nat → Option Int) : List V := (List.range n).map fun p => ov (f p)
theorem row_len {n : Nat} {f : Nat → Option Int} : (row n f).length = n := by unfold row; rw [List.length_map, List.length_range]
theorem row_get {n : Nat} {f : Nat → Option Int} {p : Nat} (hp : p < n) : (row n f)[p]? = some (ov (f p)) := by
  unfold row; rw [List.getElem?_map, List.getElem?_range hp]; rfl
theorem row_some {n : Nat} {f : Nat → Option Int} {p : Nat} {v : V} (h : (row n f)[p]? = some v) : p < n ∧ v = ov (f p) := by
  have hp : p < n := by
    have := (List.getElem?_eq_some_iff.mp h).1
    rw [row_len] at this; exact this
  rw [row_get hp] at h
  exact ⟨hp, (Option.some.inj h).symm⟩
theorem row_ext {n : Nat} {f f' : Nat → Option Int} (h : ∀ p, p < n → f p = f' p) : row n f = row n f' := by
  unfold row
  exact List.map_congr_left fun p hp => by rw [h p (List.mem_range.mp hp)]
theorem row_inj {n : Nat} {f f' : Nat → Option Int} (h : row n f = row n f') (p : Nat) (hp : p < n) : f p = f' p := by
  have := row_get (f := f) hp
  rw [h, row_get hp] at this
  exact (ov_inj (Option.some.inj this)).symm
theorem row_set {n : Nat} {f : Nat → Option Int} {p : Nat} {v : Option Int} : (row n f).set p (ov v) = row n (Ring.fup f p v) := by
  refine List.ext_getElem? fun q => ?_
  by_cases hq : q < n
  · rw [row_get hq, List.getElem?_set]
    by_cases w : p = q
    · subst w; rw [if_pos rfl, if_pos (by rw [row_len]; exact hq), Ring.fup_same]
    · rw [if_neg w, row_get hq, Ring.fup_ne (fun e => w e.symm)]
  · rw [List.getElem?_eq_none (by rw [List.length_set, row_len]; omega), List.getElem?_eq_none (by rw [row_len]; omega)]
theorem row_none {n : Nat} : (List.replicate n [V.non]).flatten = row n fun _ => none := by
  refine List.ext_getElem? fun q => ?_
  have e : (List.replicate n [V.non]).flatten = List.replicate n V.non := by
    induction n with
    | zero => rfl
    | succ n ih => rw [List.replicate_succ, List.flatten_cons, ih]; rfl
  rw [e]
  by_cases hq : q < n
  · rw [row_get hq, List.getElem?_replicate, if_pos hq]; rfl
  · rw [List.getElem?_eq_none (by rw [List.length_replicate]; omega), List.getElem?_eq_none (by rw [row_len]; omega)]
theorem row_at {n : Nat} {f : Nat → Option Int} {p : Nat} (hp : p < n) : atI (row n f) (p : Int) = some (ov (f p)) := at_of (j := p) rfl (row_get hp)
theorem row_ix {n : Nat} {f : Nat → Option Int} {p : Nat} (hp : p < n) : ixN (row n f).length (p : Int) = some p := by
  rw [row_len]; unfold ixN; rw [if_pos (by omega), if_pos (by omega), Int.toNat_natCast]
/-- a heap but for one list -/
def Off (a : Addr) (H H' : Hp) : Prop := ∀ b o, b ≠ a → H b = some o → H' b = some o
theorem Off.refl {a : Addr} {H : Hp} : Off a H H := fun _ _ _ h => h
theorem Off.trans {a : Addr} {H H1 H2 : Hp} (x : Off a H H1) (y : Off a H1 H2) : Off a H H2 := fun b o hb h => y b o hb (x b o hb h)
theorem Off.same {a : Addr} {H H' : Hp} (x : Same H H') : Off a H H' := fun b o _ h => x b o h
theorem Off.upd {a : Addr} {H : Hp} {o : HO} : Off a H (upd H a o) := fun b o hb h => by rw [upd_ne hb]; exact h
end RS
namespace RS
open PySem PySem.Spec PyProof.Rows L2
theorem upd_id {H : Hp} {a : Addr} {o : HO} (h : H a = some o) : upd H a o = H := by
  funext b
  by_cases e : b = a
  · subst e; rw [upd_same, h]
  · rw [upd_ne e]
theorem row_put {n : Nat} {f : Nat → Option Int} {p : Nat} {g : Int} : (row n f).set p (.int g) = row n (Ring.fup f p (some g)) := row_set (v := some g)
theorem row_open {n : Nat} {f : Nat → Option Int} {p : Nat} : (row n f).set p .non = row n (Ring.fup f p none) := row_set (v := none)
end RS
namespace RS
open PySem PySem.Spec PyProof.Rows L2
theorem in_none {n : Nat} {f : Nat → Option Int} : inV .non (row n f) = true ↔ ∃ e, e < n ∧ f e = none := by
  unfold inV row
  rw [List.any_eq_true]
  constructor
  · rintro ⟨x, hx, e⟩
    obtain ⟨p, hp, rfl⟩ := List.mem_map.mp hx
    refine ⟨p, List.mem_range.mp hp, ?_⟩
    cases h : f p with
    | none => rfl
    | some g => rw [h] at e; cases e
  · rintro ⟨p, hp, e⟩
    exact ⟨_, List.mem_map.mpr ⟨p, List.mem_range.mpr hp, rfl⟩, by rw [e]; rfl⟩
theorem row_flat {n : Nat} {f : Nat → Option Int} : (row n f).all flatV = true := by
  unfold row
  rw [List.all_eq_true]
  intro x hx
  obtain ⟨p, hp, rfl⟩ := List.mem_map.mp hx
  cases f p <;> rfl
theorem some_ints {ns : List Int} {ys : List V} (h : ∀ y ∈ ys, y ∈ ns.map V.int) : ∃ cs : List Int, ys = cs.map V.int := by
  induction ys with
  | nil => exact ⟨[], rfl⟩
  | cons y ys ih =>
    obtain ⟨cs, rfl⟩ := ih fun z hz => h z (List.mem_cons_of_mem _ hz)
    obtain ⟨c, _, rfl⟩ := List.mem_map.mp (h y List.mem_cons_self)
    exact ⟨c :: cs, rfl⟩
theorem in_some {n : Nat} {f : Nat → Option Int} {g : Int} : inV (.int g) (row n f) = true ↔ Ring.Sits n f g := by
  unfold inV row Ring.Sits
  rw [List.any_eq_true]
  constructor
  · rintro ⟨x, hx, e⟩
    obtain ⟨p, hp, rfl⟩ := List.mem_map.mp hx
    refine ⟨p, List.mem_range.mp hp, ?_⟩
    cases h : f p with
    | none => rw [h] at e; cases e
    | some y => rw [h] at e; rw [show y = g from of_decide_eq_true e]
  · rintro ⟨p, hp, e⟩
    exact ⟨_, List.mem_map.mpr ⟨p, List.mem_range.mpr hp, rfl⟩, by rw [e]; exact decide_eq_true rfl⟩
/-- where the look ends -/
theorem loc_ex {n : Nat} {f : Nat → Option Int} {g : Int} (hn : 0 < n) (he : ∃ e, e < n ∧ f e = none) : ∃ p, p < n ∧ Ring.Loc n (hm n) f g p := by
  obtain ⟨e, he, h0⟩ := he
  have hh := hm_lt hn
  have key : ∀ (m p : Nat), p < n → Ring.Car n (hm n) f g p → Ring.far n p e = m → ∃ p, p < n ∧ Ring.Loc n (hm n) f g p := by
    intro m
    induction m with
    | zero =>
      intro p hp c hm0
      have : e = p := Ring.far_zero hp hm0
      subst this
      exact ⟨e, hp, c, fun y hy => by rw [h0] at hy; cases hy⟩
    | succ m ih =>
      intro p hp c hmm
      rcases Ring.loc_or n (hm n) f g p with (h | ⟨y, h, a⟩) | ⟨y, h, a⟩
      · exact ⟨p, hp, c, fun y hy => by rw [h] at hy; cases hy⟩
      · exact ⟨p, hp, c, fun y' hy => by rw [h] at hy; cases hy; exact a⟩
      · have hpe : p ≠ e := fun z => by rw [z, h0] at h; cases h
        exact ih _ (Ring.nx_lt hp) (Ring.car_nx hh hp c h a) (by have := Ring.far_to hp he hpe; omega)
  exact key _ _ (hh g) Ring.car_home rfl
end RS
/-! ### == of lists and tuples of flat things -/
namespace RS
open PySem PySem.Spec PyProof.Rows L2
def datV : V → PyData
  | .bl b => .bool b | .int i => .int i | _ => .none
/-- none, truths, whole numbers -/
def flD : V → Bool
  | .non => true | .bl _ => true | .int _ => true | _ => false
theorem dp_flat {K : PySem.W.Frag} {H : Hp} : ∀ v : V, flD v = true → Dp K H v (datV v) := by
  intro v h
  cases v with
  | non => exact .non
  | bl b => exact .bl b
  | int i => exact .int i
  | _ => cases h
theorem dp_all {K : PySem.W.Frag} {H : Hp} : ∀ xs : List V, xs.all flD = true → DpAll K H xs (xs.map datV)
  | [], _ => .nil
  | x :: xs, h => by
    rw [List.all_cons, Bool.and_eq_true] at h
    exact .cons (dp_flat x h.1) (dp_all xs h.2)
theorem row_flD {n : Nat} {f : Nat → Option Int} : (row n f).all flD = true := by
  unfold row
  rw [List.all_eq_true]
  intro x hx
  obtain ⟨p, hp, rfl⟩ := List.mem_map.mp hx
  cases f p <;> rfl
theorem lay_all : ∀ xs : List V, PyData.canLayAll0 (xs.map datV) = true ∧ PyData.depthAll (xs.map datV) = 0
  | [] => ⟨rfl, rfl⟩
  | x :: xs => by
    obtain ⟨h1, h2⟩ := lay_all xs
    rw [List.map_cons, PyData.canLayAll0, PyData.depthAll, h1, h2]
    cases x <;> exact ⟨by simp [datV, PyData.canLay0], by simp [datV, PyData.depth]⟩
theorem shp_lst (xs : List V) : SeqAt.shaped (.list (xs.map datV)) = true := by
  obtain ⟨h1, h2⟩ := lay_all xs
  unfold SeqAt.shaped
  rw [PyData.canLay0, PyData.depth, h1, h2]; rfl
theorem shp_tup (xs : List V) : SeqAt.shaped (.tuple (xs.map datV)) = true := by
  obtain ⟨h1, h2⟩ := lay_all xs
  unfold SeqAt.shaped
  rw [PyData.canLay0, PyData.depth, h1, h2]; rfl
section
variable {K : PySem.W.Frag} {H : Hp} {a b : Addr} {xs : List V} {R : VK}
theorem eqD_lst (hx : SqL K H a xs) (hy : SqL K H b xs) (hf : xs.all flD = true) (r : R (.bl true) H) : rEqD K (.ref a) (.ref b) H R := by
  refine ⟨_, _, .lst hx (dp_all xs hf), .lst hy (dp_all xs hf), shp_lst xs, shp_lst xs, ?_⟩
  rw [SeqAt.eqv_refl _ (SeqAt.canLay_of_shaped (shp_lst xs))]; exact r
theorem neD_lst (hx : SqL K H a xs) (hy : SqL K H b xs) (hf : xs.all flD = true) (r : R (.bl false) H) : rNeD K (.ref a) (.ref b) H R := by
  refine ⟨_, _, .lst hx (dp_all xs hf), .lst hy (dp_all xs hf), shp_lst xs, shp_lst xs, ?_⟩
  rw [SeqAt.eqv_refl _ (SeqAt.canLay_of_shaped (shp_lst xs))]; exact r
theorem eqD_tup (hx : SqT K H a xs) (hy : SqT K H b xs) (hf : xs.all flD = true) (r : R (.bl true) H) : rEqD K (.ref a) (.ref b) H R := by
  refine ⟨_, _, .tup hx (dp_all xs hf), .tup hy (dp_all xs hf), shp_tup xs, shp_tup xs, ?_⟩
  rw [SeqAt.eqv_refl _ (SeqAt.canLay_of_shaped (shp_tup xs))]; exact r
theorem neD_tup (hx : SqT K H a xs) (hy : SqT K H b xs) (hf : xs.all flD = true) (r : R (.bl false) H) : rNeD K (.ref a) (.ref b) H R := by
  refine ⟨_, _, .tup hx (dp_all xs hf), .tup hy (dp_all xs hf), shp_tup xs, shp_tup xs, ?_⟩
  rw [SeqAt.eqv_refl _ (SeqAt.canLay_of_shaped (shp_tup xs))]; exact r
theorem eqD_nil {x : V} (hx : SqL K H a (x :: xs)) (hy : SqL K H b []) (hf : (x :: xs).all flD = true) (r : R (.bl false) H) : rEqD K (.ref a) (.ref b) H R := by
  refine ⟨_, _, .lst hx (dp_all _ hf), .lst hy .nil, shp_lst _, shp_lst [], ?_⟩
  rw [show PyData.eqv (.list ((x :: xs).map datV)) (.list []) = false by simp [PyData.eqv, PyData.eqvAll]]; exact r
end
end RS
/-! ### xs[lo:hi:k]: a new list of some of its items -/
namespace RS
open PySem PySem.Spec PyProof.Rows L2
theorem vals_pick {xs : List V} {its : List Value} (r : Vals xs its) : ∀ idx : List Nat, Vals (idx.filterMap (xs[·]?)) (idx.filterMap (its[·]?))
  | [] => .nil
  | i :: idx => by
    cases e : xs[i]? with
    | none =>
      have e2 : its[i]? = none := by
        rw [List.getElem?_eq_none_iff] at e ⊢
        rw [← r.length]; exact e
      rw [List.filterMap_cons_none e, List.filterMap_cons_none e2]
      exact vals_pick r idx
    | some x =>
      obtain ⟨u, e2, rx⟩ := r.get e
      rw [List.filterMap_cons_some e, List.filterMap_cons_some e2]
      exact .cons rx (vals_pick r idx)
def tStepL (K : PySem.W.Frag) (te : TE) (tl th ts : TO) : TE := fun σ H Q => te σ H fun x H1 => tl σ H1 fun _ H2 => th σ H2 fun _ H3 => ts σ H3 fun k H4 => ∃ a xs, x = .ref a ∧ SqL K H4 a xs ∧ k ≠ some 0 ∧
  ∀ p, H4 p = none → ∀ ys : List V, (∀ y ∈ ys, y ∈ xs) → ys.length ≤ xs.length → Q (.ref p) (upd H4 p (.lst ys))
section
variable {X : Cx} {e : Expr} {te : TE} {lo hi : Option Expr} {st : Expr} {tl th ts : TO} {pos p2 : Pos}
theorem pe_stepL (he : PE X e te) (hl : PO X lo tl) (hu : PO X hi th) (hk : PO X (some st) ts) : PE X (.Subscript e (.Slice lo hi (some st) p2) pos) (tStepL X.K te tl th ts) := by
  refine ⟨fun pins s σ H Q I h => ?_⟩
  refine Subscript_ (thn (he.run pins s σ H _ I h) fun v s1 ⟨x, H1, I1, r1, q1⟩ => ?_)
  refine wpAny_Slice (thn (hl.run pins s1 σ H1 _ I1 q1) fun vl s2 ⟨l, H2, I2, pl, q2⟩ => thn (hu.run pins s2 σ H2 _ I2 q2) fun vu s3 ⟨u, H3, I3, pu, q3⟩ => thn (hk.run pins s3 σ H3 _ I3 q3) fun vk s4 ⟨k, H4, I4, pk, q4⟩ => ?_)
  obtain ⟨a, xs, rfl, hx, hk0, q⟩ := q4
  cases r1
  have I5 : Inv X pins σ H4 { s4 with heap := s4.heap.push { cls := .type "slice", data := .fields #[vl, vu, vk] } } := I4.kept (t' := s4.toks) fun b ob q => Heap.get?_push_of_some _ q
  obtain ⟨its, r, ht, hz⟩ := I5.list hx
  show wpAny (model X.prog X.w) X.A (subscriptTail e (.Slice lo hi (some st) p2) (.ref a) (.ref s4.heap.objs.size)) (EP X pins σ Q) X.xe { s4 with heap := s4.heap.push { cls := .type "slice", data := .fields #[vl, vu, vk] } }
  refine tail_any (ops := [.ref a, .ref s4.heap.objs.size]) ht.isList.typeIs slot_list_getitem.lookup ?_ (by with_unfolding_all rfl)
  refine wpAny_getItem_list_slice ht.isList (Heap.IsSliceOf.new ..) pl pu pk hk0 ?_ (by rw [List.size_toArray, ← r.length]; exact hz)
  have hv := vals_pick r (sliceRange (sliceBounds l u k its.toArray.size).1 (sliceBounds l u k its.toArray.size).2.1 (sliceBounds l u k its.toArray.size).2.2)
  have hsl := slicePick_size_le its.toArray l u k
  have he : (slicePick its.toArray l u k).toList = (sliceRange (sliceBounds l u k its.toArray.size).1 (sliceBounds l u k its.toArray.size).2.1 (sliceBounds l u k its.toArray.size).2.2).filterMap (its[·]?) := by
    unfold slicePick
    simp
  rw [← he] at hv
  have hlen := hv.length
  rw [← Array.length_toList, List.size_toArray, ← r.length] at hsl
  refine ⟨.ref _, _, I5.laid (t' := s4.toks) (o := .lst _) (fun b ob q => Heap.get?_push_of_some _ q) (Nat.le_refl _) ⟨by rw [hlen]; exact Nat.le_trans hsl hz, _, 0, hv, Heap.get?_push_size _ rfl⟩, rfl, q _ (I5.hok.fresh (Nat.le_refl _)) _ (fun y hy => ?_) (by rw [hlen]; exact hsl)⟩
  obtain ⟨i, _, e⟩ := List.mem_filterMap.mp hy
  exact List.mem_of_getElem? e
end
/-! ### list.count, flat items -/
def rCount (K : PySem.W.Frag) : V → List V → Hp → VK → Prop := fun x xs H Q => ∃ (a : Addr) (ys : List V) (y : V), x = V.ref a ∧ xs = [y] ∧ SqL K H a ys ∧ flatV y = true ∧ ys.all flatV = true ∧ Q (.int ((ys.countP fun z => eqV z y : Nat) : Int)) H
theorem count_rel {y : V} : ∀ {ys : List V} {its : List Value}, Vals ys its → ys.all flatV = true → its.countP (eqU y) = ys.countP fun z => eqV z y
  | [], _, r, _ => by cases r; rfl
  | z :: ys, _, r, f => by
    cases r with
    | cons r1 r2 =>
      rw [List.all_cons, Bool.and_eq_true] at f
      rw [List.countP_cons, List.countP_cons, count_rel r2 f.2, eqU_of r1 f.1]
theorem mt_countL {X : Cx} : MtR X "list.count" (rCount X.K) := by
  intro pins s σ H x xs v us Q I rx rxs h
  obtain ⟨a, ys, y, rfl, rfl, hs, fy, fys, q⟩ := h
  cases rx
  cases rxs with
  | cons ry rt =>
    rename_i uy ut
    cases rt
    obtain ⟨its, rv, ⟨⟨cls, dd, data, sl⟩, n, ho, hc, hdn, hd⟩, hlen⟩ := I.list hs
    simp only at hc hd
    subst hc hd
    refine call_meets PySem.F.slot_list_count ⟨_, ho, rfl⟩ PySem.F.entry_list_count (PySem.F.args_list_count_2 _ _)
      (SeqAt.list_countAt a its.toArray n dd sl uy (eqU y)) ⟨ho, fun u' hu' => mem_eqAt ry fy rv fys u' (by simpa using hu'), ?_⟩
    refine ⟨.int ((ys.countP fun z => eqV z y : Nat) : Int), H, I.tok _, ⟨s.toks, ?_⟩, q⟩
    rw [← count_rel rv fys]
end RS
/-! ### xs != ys, lists of the very same things -/
namespace RS
open PySem PySem.Spec PyProof.Rows L2
def okV : V → Bool
  | .ref _ => true
  | v => flatB v
def rNeS (K : PySem.W.Frag) : R2 := fun x y H Q => ∃ a b xs, x = .ref a ∧ y = .ref b ∧ SqL K H a xs ∧ SqL K H b xs ∧ xs.all okV = true ∧ Q (.bl false) H
theorem okV_same {A : Around} {s : Shared} : ∀ {xs : List V} {us ws : List Value}, Vals xs us → Vals xs ws → xs.all okV = true → ∀ j (h1 : j < us.length) (h2 : j < ws.length), SeqAt.EqAt A s us[j] ws[j] true
  | [], _, _, r1, r2, _ => by
    intro j h1
    cases r1
    exact absurd h1 (Nat.not_lt_zero j)
  | x :: xs, _, _, r1, r2, f => by
    rw [List.all_cons, Bool.and_eq_true] at f
    cases r1 with
    | cons a1 b1 =>
      cases r2 with
      | cons a2 b2 =>
        intro j h1 h2
        cases j with
        | zero =>
          show SeqAt.EqAt A s _ _ true
          cases x with
          | ref p =>
            cases a1; cases a2
            exact SeqAt.EqAt.same _
          | _ => exact eqAt_same a1 a2 f.1
        | succ j => exact okV_same b1 b2 f.2 j (Nat.lt_of_succ_lt_succ h1) (Nat.lt_of_succ_lt_succ h2)
theorem op_neS {X : Cx} (hu : X.A.units + 64 < cLine) : OpR X (compareOp .NotEq) (rNeS X.K) := by
  intro pins s σ H x y v u Q I rx ry h
  obtain ⟨a, b, xs, rfl, rfl, ha, hb, f, q⟩ := h
  cases (show v = Value.ref a from rx)
  cases (show u = Value.ref b from ry)
  obtain ⟨us, r1, p1, _⟩ := I.list ha
  obtain ⟨ws, r2, p2, _⟩ := I.list hb
  have hsz : us.toArray.size = ws.toArray.size := by
    rw [List.size_toArray, List.size_toArray, ← r1.length, ← r2.length]
  have key := SeqAt.RcNeAt.lists (A := X.A) (e := fun _ => true) p1.isList p2.isList hsz (by omega) (fun j h1 h2 => by
    have := okV_same (A := X.A.in1) (s := s) r1 r2 f j (by simpa using h1) (by simpa using h2)
    simpa using this)
  rw [show ((List.range us.toArray.size).all fun _ => true) = true from List.all_eq_true.mpr fun _ _ => rfl] at key
  exact key _ _ _ _ ⟨.bl false, H, I, rfl, q⟩
/-! ### len(set(xs)), ints -/
def dist (ns : List Int) : List Int := PyProof.Rows.firstMet (fun i => ns.getD i 0) ns.length
theorem dist_nodup {ns : List Int} (h : ns.Nodup) : dist ns = ns := by
  unfold dist
  rw [RZ.firstMet_nodup h ns.length (Nat.le_refl _), List.take_length]
theorem firstMet_has {val : Nat → Int} : ∀ {i j : Nat}, j < i → val j ∈ PyProof.Rows.firstMet val i
  | 0, _, h => absurd h (Nat.not_lt_zero _)
  | i + 1, j, h => by
    rw [PyProof.Rows.firstMet_succ]
    unfold PyProof.Rows.step_dedup
    by_cases e : j = i
    · subst e
      split
      · rename_i hb
        obtain ⟨y, hy, ey⟩ := List.any_eq_true.mp hb
        rw [← show y = val j from eq_of_beq ey]; exact hy
      · simp
    · have := firstMet_has (val := val) (i := i) (j := j) (by omega)
      split
      · exact this
      · exact List.mem_append_left _ this
theorem dist_short {ns : List Int} (h : ¬ ns.Nodup) : (dist ns).length < ns.length := by
  have : ∃ i j, j < i ∧ i < ns.length ∧ ns.getD j 0 = ns.getD i 0 := by
    apply Classical.byContradiction
    intro no
    apply h
    refine List.pairwise_iff_getElem.mpr fun j i hj hi hji e => no ⟨i, j, hji, hi, ?_⟩
    rw [List.getD_eq_getElem?_getD, List.getElem?_eq_getElem hj, List.getD_eq_getElem?_getD, List.getElem?_eq_getElem hi]
    exact e
  obtain ⟨i, j, hji, hi, e⟩ := this
  have step : (PyProof.Rows.firstMet (fun k => ns.getD k 0) (i + 1)).length ≤ i := by
    rw [PyProof.Rows.firstMet_succ]
    unfold PyProof.Rows.step_dedup
    rw [if_pos (List.any_eq_true.mpr ⟨ns.getD j 0, firstMet_has (val := fun k => ns.getD k 0) hji, by rw [e]; exact beq_self_eq_true _⟩)]
    exact PyProof.Rows.firstMet_length_le _ _
  have grow : ∀ k, (PyProof.Rows.firstMet (fun k => ns.getD k 0) (i + 1 + k)).length ≤ i + k := by
    intro k
    induction k with
    | zero => exact step
    | succ k ih =>
      rw [show i + 1 + (k + 1) = (i + 1 + k) + 1 by omega, PyProof.Rows.firstMet_succ]
      unfold PyProof.Rows.step_dedup
      split
      · omega
      · rw [List.length_append, List.length_singleton]; omega
  have := grow (ns.length - (i + 1))
  unfold dist
  rw [show i + 1 + (ns.length - (i + 1)) = ns.length by omega] at this
  omega
def tLenSet (K : PySem.W.Frag) (ta : TE) : TE := fun σ H Q => ta σ H fun x H1 => ∃ (l : Addr) (ns : List Int), x = .ref l ∧ SqL K H1 l (ns.map V.int) ∧ ns.length ≤ 4000 ∧ Q (.int ((dist ns).length : Nat)) H1
theorem pe_lenSet {X : Cx} {a : Expr} {ta : TE} {p p2 q pos : Pos} (hm : X.mg "len" = none) (hm2 : X.mg "set" = none) (ha : PE X a ta) (hg : Gl X "len" := by rfl) (hg2 : Gl X "set" := by rfl) (hc : X.calm = true := by rfl)
    (na : starEach [a] X.env = (false, eval a X.env) :: starEach [] X.env := by rfl) : PE X (.Call (.Name "len" p) [.Call (.Name "set" p2) [a] [] q] [] pos) (tLenSet X.K ta) := by
  refine ⟨fun pins s σ H Q I h => ?_⟩
  refine Call_ (ld_blt I hg hm boot_len ?_)
  refine PyProof.Rows.callWith_builtin1 (PyProof.Rows.args_cons ?_ rfl) rfl rfl
  refine Call_ (ld_blt I hg2 hm2 boot_set ?_)
  refine PyProof.Rows.callWith_type1 (PyProof.Rows.args_cons (thn (ha.run pins s σ H _ I h) fun v s1 ⟨x, H1, I1, r1, q1⟩ => PyProof.Rows.args_nil ?_) na) na rfl
  obtain ⟨l, ns, rfl, hq, hl, q1⟩ := q1
  cases r1
  obtain ⟨its, r, pl, hz⟩ := I1.list hq
  have hlen : its.toArray.size = ns.length := by rw [List.size_toArray, ← r.length, List.length_map]
  refine call_set_list (I1.ok.hd hc) pl.isList (by simpa using RZ.intsAre_vals r) (by rw [hlen]; unfold scanBound; omega) fun h' tk hS hk => ?_
  refine PyProof.Rows.args_nil ?_
  rw [hlen] at hS
  obtain ⟨o, es, ep, t, ho, hex, hd, _, _, _, hf, hn⟩ := hS
  have I2 : Inv X pins σ H1 { s1 with heap := h', toks := tk } := I1.kept fun b o e => hk b o (Heap.lt_size e) e
  have hle := PyProof.Rows.firstMet_length_le (fun i => ns.getD i 0) ns.length
  exact call_len_set ho hex hd hf (by rw [hn] <;> omega) ⟨.int (dist ns).length, H1, I2.tok _, ⟨_, by rw [hn]; rfl⟩, q1⟩
end RS
namespace RS
open PySem PySem.Spec PyProof.Rows L2
abbrev rInsert : V → List V → Hp → VK → Prop := fun x vs H Q => ∃ (l : Addr) (xs : List V) (i : Int) (y : V), x = .ref l ∧ vs = [.int i, y] ∧ H l = some (.lst xs) ∧ xs.length < sizeLine ∧ 0 ≤ i ∧ i < 2 ^ 63 ∧
  Q .non (upd H l (.lst (xs.take i.toNat ++ [y] ++ xs.drop i.toNat)))
theorem map_erase : ∀ (r : List Int) (i : Nat), (r.map V.int).eraseIdx i = (r.eraseIdx i).map V.int
  | [], _ => rfl
  | _ :: _, 0 => rfl
  | x :: r, i + 1 => by
    show V.int x :: (r.map V.int).eraseIdx i = _
    rw [map_erase r i]; rfl
theorem erase_perm : ∀ (r : List Int) (i : Nat) (h : i < r.length), (r[i] :: r.eraseIdx i).Perm r
  | [], _, h => absurd h (Nat.not_lt_zero _)
  | _ :: _, 0, _ => List.Perm.refl _
  | x :: r, i + 1, h => (List.Perm.swap x _ _).trans ((erase_perm r i (Nat.lt_of_succ_lt_succ h)).cons x)
end RS
/-! ### sorted(d.values()), ints; for k, v in d.items() -/
namespace RS
open PySem PySem.Spec PyProof.Rows L2
abbrev rSortedDI : List V → Hp → VK → Prop := fun xs H Q => ∃ (a : Addr) (kvs : List (Key × V)) (ks : List Int), xs = [.ref a] ∧ Rd H a (.dK kvs) ∧ kvs.map (·.1) = ks.map Sum.inl ∧ ks.length < 64 ∧
  ∀ (ys : List Int) (p : Addr), ys.Perm ks → ys.Pairwise (· ≤ ·) → H p = none → Q (.ref p) (upd H p (.lst (ys.map V.int)))
def tSortedVals (td : TE) : TE := fun σ H Q => td σ H fun x H1 => ∃ a kvs is, x = V.ref a ∧ H1 a = some (.dK kvs) ∧ kvs.map (·.2) = is.map V.int ∧ is.length < 64 ∧ ∀ (ys : List Int) (p : Addr), ys.Perm is → ys.Pairwise (· ≤ ·) → H1 p = none → Q (.ref p) (upd H1 p (.lst (ys.map V.int)))
section
variable {X : Cx} {o : Expr} {p pos apos mpos : Pos} {td : TE}
theorem pe_sortedVals (hm : X.mg "sorted" = none) (hd : PE X o td) (hc : X.calm = true := by rfl) (hg : Gl X "sorted" := by rfl) (hbase : attributeBase o "values" X.env (eval o X.env) = eval o X.env := by rfl) (hline : (apos.endLine == mpos.line) = true := by rfl)
    (hse : starEach [Expr.Call (.Attribute o "values" apos) [] [] mpos] X.env = [(false, eval (Expr.Call (.Attribute o "values" apos) [] [] mpos) X.env)] := by rfl) :
    PE X (.Call (.Name "sorted" p) [.Call (.Attribute o "values" apos) [] [] mpos] [] pos) (tSortedVals td) := by
  refine ⟨fun pins s σ H Q I h => ?_⟩
  refine wpAny_Call_Name_kw (ld_blt I hg hm (u := .builtin "sorted") (by first | rfl | decide +kernel) ?_ (by first | decide +kernel | decide) (by first | decide +kernel | decide))
  rw [hse]
  refine PySem.callWith_builtin1 (wpAny_Call_method0_late hbase hline (thn (hd.run pins s σ H _ I h) fun v s1 ⟨x, H1, I1, r1, a, kvs, is, ex, ha, hv, h64, q⟩ => ?_))
  subst ex
  obtain rfl : v = Value.ref a := r1
  obtain ⟨_, hsys, vs, rel, dof⟩ := dk_of I1.hok ha
  obtain ⟨ep, dat⟩ := dof.dictAt
  have dat' := dat
  obtain ⟨ob, es, ho, ex, hdat, hko, hpr, hnd⟩ := dat'
  refine ⟨"dict", "dict.values", F.plainAttrs_dict, F.slot_dict_values, F.type_dict_values, ⟨ob, ho, ex.1⟩, fun b e => ?_, Calls.callWith_builtin rfl (PySem.evalArgs_none ?_)⟩
  · cases e
    exact ⟨ob, ho, ex.2.1⟩
  refine call_meetsIn F.slot_dict_values ⟨ob, ho, ex.1⟩ F.entry_dict_values (F.args_dict_values_1 _) (meets_dict_values (mixKind X.prog X.w) a hsys) ⟨⟨vs, dof⟩, ?_⟩
  have k1 : ∀ b u, s1.heap.get? b = some u → (s1.heap.push { cls := .type "dict_values", data := .fields #[.ref a] }).get? b = some u := fun b u e => Heap.get?_push_of_some _ e
  have dat1 : (s1.heap.push { cls := .type "dict_values", data := .fields #[.ref a] }).DictAt (mixKind X.prog X.w) a vs ep := dat.keep k1
  have hlv : vs.length = is.length := by
    have e1 := congrArg List.length hv
    rw [List.length_map, List.length_map] at e1
    rw [← e1]
    exact (KV.length rel).symm
  have h16 : vs.length ≤ sizeLine := by rw [hlv, sizeLine_eq]; omega
  refine Calls.call_function_entry PyProof.Rows.kind_sorted PyProof.Rows.plain_sorted PyProof.Rows.entry_sorted (PyProof.Rows.args_sorted1 _) ?_
  unfold Builtin.«sorted»
  refine wpAny_bind (m := checkCount "sorted" 1 1 _) (wpAny_pure ?_)
  refine wpAny_bind (PySem.W.kdu_collect (A := X.A.in1) (PySem.W.kdl_values (knd := mixKind X.prog X.w) (r := s1.heap.objs.size) (d := a) (kvs := vs) (ep := ep)) (I.ok.hd hc) ⟨⟨_, Heap.get?_push_size _ rfl, rfl, rfl⟩, dat1⟩ h16 fun h' tk acc hk hacc => ?_)
  have hal : acc.toList.length = is.length := by rw [Array.length_toList, hacc.1, hlv]
  have hS : IntsAre acc.toList is := ints_each hal fun j v e => by
    obtain ⟨k, e1⟩ := hacc.2 j v (by rw [← Array.getElem?_toList]; exact e)
    obtain ⟨x, h1, h2⟩ := KV.at' rel e1
    have e2 : (kvs.map (·.2))[j]? = some x := by rw [List.getElem?_map, h1] <;> rfl
    rw [hv, List.getElem?_map] at e2
    obtain ⟨y, hy, e3⟩ := Option.map_eq_some_iff.mp e2
    subst e3
    obtain ⟨t, e4⟩ := h2
    exact ⟨y, t, hy, e4⟩
  have I2 : Inv X pins σ H1 { s1 with heap := h', toks := tk } := I1.kept fun b u e => hk b u (k1 b u e)
  refine wpAny_bind (wpAny_newList ?_ (by rw [hal, sizeLine_eq]; omega))
  have hoL : (h'.push (seqObj "list" acc.toList.toArray 0)).get? h'.objs.size = some (seqObj "list" acc.toList.toArray 0) := Heap.get?_push_size _ rfl
  show wpAny _ _ _ _ _ { s1 with heap := h'.push (seqObj "list" acc.toList.toArray 0), toks := tk }
  refine wpAny_bind (wpAny_holding (wpAny_call_entry PyProof.Rows.slot_list_sort ⟨_, hoL, rfl⟩ PyProof.Rows.entry_list_sort
    (PyProof.Rows.list_sort_tree (s := { s1 with heap := h'.push (seqObj "list" acc.toList.toArray 0), toks := tk }) hoL hS (by rw [hal]; exact h64) fun out ys g1 g2 g3 => ⟨_, rfl, ?_⟩) (PyProof.Rows.args_list_sort _)))
  obtain ⟨e', he'⟩ := PyProof.Rows.sortedHeap_at (vs := acc.toList) (out := out) hoL
  have hlen : (ys.map V.int).length ≤ sizeLine := by
    rw [List.length_map, g2.length_eq]
    exact Nat.le_trans (Nat.le_of_lt h64) (by decide)
  refine wpAny_pure ⟨_, rfl, .ref h'.objs.size, upd H1 h'.objs.size (.lst (ys.map V.int)), I2.laid (t' := tk) (fun b u e => ?_) (Nat.le_refl _)
    (show ObjOk X.prog X.w _ _ _ (.lst (ys.map V.int)) from ⟨hlen, out.toList, e', vals_of_ints g1, by rw [Array.toArray_toList]; exact he'⟩), rfl, q ys _ g2 g3 (I2.hok.fresh (Nat.le_refl _))⟩
  have hb : b < h'.objs.size := Heap.lt_size e
  rw [PyProof.Rows.sortedHeap_old (Nat.ne_of_lt hb) (by rw [size_push']; exact Nat.lt_succ_of_lt hb)]
  exact Heap.get?_push_of_some _ e
end
/-- for k, v in d.items(), a body that leaves what stands -/
theorem for_items {td : TE} {tb : TS} {D : Ends} {σ : L2.St} {H : Hp} {d : Addr} {kvs : List (Key × V)} {K : PySem.W.Frag} {i j : Nat} (hd : H d = some (.dK kvs)) (htd : ∀ (H' : Hp) (R : VK), R (.ref d) H' → td σ H' R) (Pv : Nat → L2.St → Prop) (h0 : Pv 0 σ)
    (hs : ∀ k key v σ' H', kvs[k]? = some (key, v) → Pv k σ' → ∀ D' : Ends, (∀ σ2 H2, Same H' H2 → Pv (k + 1) σ2 → D'.nx σ2 H2) → tb D' ((σ'.set i (some (kV key))).set j (some v)) H')
    (hend : ∀ σ' H', Pv kvs.length σ' → Same H H' → D.nx σ' H') : tLock (tFor (iItems td) (gTup K 2 (gCons (gName i) (gCons (gName j) gNil))) tb) D σ H := by
  refine ⟨d, _, hd, trivial, fun od => ?_⟩
  have back : ∀ H', Same (upd H d (.frz od (.dK kvs))) H' → H' d = some (.frz od (.dK kvs)) ∧ Same H (upd H' d (.dK kvs)) := fun H' sm => by
    refine ⟨sm _ _ upd_same, fun b o hb => ?_⟩
    by_cases e : b = d
    · subst e; rw [hd] at hb; cases hb; exact upd_same
    · rw [upd_ne e]; exact sm _ _ (by rw [upd_ne e]; exact hb)
  refine htd _ _ ⟨d, od, kvs, rfl, upd_same, fun i' m σ' H' => m = kvs.length - i' ∧ i' ≤ kvs.length ∧ Pv i' σ' ∧ Same (upd H d (.frz od (.dK kvs))) H', ⟨kvs.length, by simp, Nat.zero_le _, h0, Same.refl _⟩, ?_⟩
  rintro i' m σ' H' ⟨rfl, hi, pv, sm⟩
  by_cases hlt : i' < kvs.length
  · refine .inr ⟨⟨(back H' sm).1, hlt⟩, fun σ2 H2 => Pv (i' + 1) σ2 ∧ Same (upd H d (.frz od (.dK kvs))) H2, fun σ2 H2 p' => ⟨kvs.length - (i' + 1), by omega, rfl, hlt, p'.1, p'.2⟩, fun v H1 y => ?_⟩
    obtain ⟨T, k, x, hk, rfl, hT, rfl⟩ := y
    exact gtup2 upd_same (hs i' k x σ' _ hk pv _ fun σ2 H2 s2 p2 => ⟨p2, sm.trans ((same_new hT).trans s2)⟩)
  · have e : i' = kvs.length := by omega
    subst e
    obtain ⟨b1, b2⟩ := back H' sm
    exact .inl ⟨⟨b1, Nat.le_refl _⟩, b1, hend σ' _ pv b2⟩
end RS
/-! ### the program's refusals: five classes over RingError -/
namespace RS
open PySem PySem.Spec PyProof.Rows L2
inductive Ek where
  | noGuest | noSize | twice | away | full
  deriving DecidableEq
def Cs.of (C : Cs) : Ek → Addr
  | .noGuest => C.cNoGuest | .noSize => C.cNoSize | .twice => C.cTwice | .away => C.cAway | .full => C.cFull
abbrev bmV : List Value := [.type "ValueError", .type "Exception", .type "BaseException", .type "object"]
/-- what the kit asks of a class of refusals -/
structure ExF (K : PySem.W.Frag) (c : Addr) : Prop where
  q : PySem.W.excIn K c bmV "ValueError.__new__" = true
  k : PySem.W.keepIn K (.ref c) = true
  b : PySem.W.subIn K (.ref c) (.type "BaseException") = some true
  t : PySem.W.typeIn K (.ref c) = some (.type "type")
  e : ExcC K c
structure Facts (K : PySem.W.Frag) (C : Cs) : Prop where
  ex : ∀ x, ExF K (C.of x)
  exm : ∀ x, PySem.W.exmOne K (.ref (C.of x)) (.ref C.cRingError) = some true
  kit : ∀ x y, PySem.W.kitOne K (.ref (C.of x)) (.ref (C.of y)) = some (decide (x = y))
  val : ∀ x, PySem.W.kitOne K (.ref (C.of x)) (.type "ValueError") = some true
structure Top (K : PySem.W.Frag) (mg : Str → Option Value) (C : Cs) : Prop where
  f : Facts K C
  gRingError : mg "RingError" = some (.ref C.cRingError)
  gNoGuest : mg "NoGuest" = some (.ref C.cNoGuest)
  gNoSize : mg "NoSize" = some (.ref C.cNoSize)
  gTwice : mg "Twice" = some (.ref C.cTwice)
  gAway : mg "Away" = some (.ref C.cAway)
  gFull : mg "Full" = some (.ref C.cFull)
/-- isinstance(e, one of the five), e the refusal that the suite holds -/
def tIsE (C : Cs) (cls : Value) (d : Option Addr) (a : Addr) (te : TE) (y : Ek) : TE := fun σ H Q => te σ H fun v H1 => v = .ref a ∧ ∃ x : Ek, cls = .ref (C.of x) ∧ d = none ∧ Q (.bl (decide (x = y))) H1
def tIsVal (C : Cs) (cls : Value) (d : Option Addr) (a : Addr) (te : TE) : TE := fun σ H Q => te σ H fun v H1 => v = .ref a ∧ ∃ x : Ek, cls = .ref (C.of x) ∧ d = none ∧ Q (.bl true) H1
def rIsX (C : Cs) (cls : Value) (d : Option Addr) (a : Addr) : List V → Hp → VK → Prop := fun xs H Q => ∃ x : Ek, cls = .ref (C.of x) ∧ d = none ∧
  ((∃ y : Ek, xs = [.ref a, .ref (C.of y)] ∧ Q (.bl (decide (x = y))) H) ∨ (xs = [.ref a, .ty "ValueError"] ∧ Q (.bl true) H))
theorem call_isX {X : Cx} {C : Cs} {a : Addr} {cls : Value} {d : Option Addr} {oe : Obj} {pn : List (Addr × Obj)} (F : Facts X.K C) (hz : Zc cls d oe) (hf : ∃ vs, oe.data = .fields vs) : CallR (X.suite a ((a, oe) :: pn)) (.builtin "isinstance") (rIsX C cls d a) := by
  intro pins s σ H xs us Q I r h
  obtain ⟨x, rfl, rfl, h⟩ := h
  rcases h with ⟨y, rfl, q⟩ | ⟨rfl, q⟩
  · exact call_isE (F.ex x).e hz hf pins s σ H _ us Q I r ⟨.ref (C.of y), .ref (C.of y), _, rfl, fun u h => h, F.kit x y, q⟩
  · exact call_isE (F.ex x).e hz hf pins s σ H _ us Q I r ⟨.ty "ValueError", .type "ValueError", _, rfl, fun u h => h, F.val x, q⟩
/-- try: .. except RingError as e: .. -/
def tTryAs (K : PySem.W.Frag) (C : Cs) (i : Nat) (tb : WX → TS) (ts : Addr → Value → Option Addr → TS) (W : WX) : TS := fun D σ H => tb (wAs K (.ref C.cRingError) i ts W D) D σ H
abbrev W0 : WX := fun _ _ _ _ => False
section
variable {X : Cx} {CX : CXT} {k : Nat} {ps : List Str} {sp : Sp} {E : L2.St → XK} {x : Str} {p pos : Pos} {e : Expr} {es : List Expr} {t : TA}
theorem pe_fnS (c : Cal X.prog X.w X.K X.mg X.base CX k x ps sp) (hr : Room k X.A) (hx : ∀ σ, PassesAt CX X σ (E σ)) (ha : PA X (e :: es) t) (hg : Gl X x := by rfl) (hdb : (x == ("__debug__" : Str)) = false := by decide)
    (he : starEach (e :: es) X.env = (false, eval e X.env) :: starEach es X.env := by rfl) (hpl : (backTo pos (starEach es X.env)).any (·.1) = false := by rfl) :
    PE X (.Call (.Name x p) (e :: es) [] pos) (tCallS sp E t) := by
  obtain ⟨f, fd, G, hm, hk, hb⟩ := c.ex
  exact pe_callS G hr hg hm hk hb hx ha hdb he hpl
end
end RS
namespace RS
open PySem PySem.Spec PyProof.Rows L2
/-- what is looked up of a class of refusals, at a; r is RingError -/
structure ClsF (K : PySem.W.Frag) (a r : Addr) : Prop where
  q : PySem.W.excIn K a bmV "ValueError.__new__" = true
  k : PySem.W.keepIn K (.ref a) = true
  b : PySem.W.subIn K (.ref a) (.type "BaseException") = some true
  t : PySem.W.typeIn K (.ref a) = some (.type "type")
  g : PySem.W.findIn K (.ref a) "__getattribute__" = some (some (.builtin "BaseException.__getattribute__"))
  n : PySem.W.findIn K (.ref a) "__getattr__" = some none
  d : PySem.W.hasDictIn K a = true
  c : PySem.W.findIn K (.ref a) "__class__" = some (some (.builtin "object.__class__"))
  m : PySem.W.mroIn K a (.type "object") = some true
  v : PySem.W.subIn K (.ref a) (.type "ValueError") = some true
  r : PySem.W.subIn K (.ref a) (.ref r) = some true
  s : PySem.W.subIn K (.ref a) (.ref a) = some true
theorem kit_val {K : PySem.W.Frag} {a r : Addr} (F : ClsF K a r) : PySem.W.kitOne K (.ref a) (.type "ValueError") = some true := by
  unfold PySem.W.kitOne
  rw [if_neg (by simp)]
  show (if PySem.W.kitMeta "ValueError" = true then _ else none) = _
  rw [if_pos (by decide)]
  exact F.v
theorem kit_ref {K : PySem.W.Frag} {a b r : Addr} (F : ClsF K a r) (G : ClsF K b r) {v : Bool} (h : PySem.W.subIn K (.ref a) (.ref b) = some v) : PySem.W.kitOne K (.ref a) (.ref b) = some v := by
  unfold PySem.W.kitOne
  by_cases e : a = b
  · subst e
    rw [F.s] at h; cases h
    rw [if_pos (by simp)]
  · rw [if_neg (by simpa using e)]
    show (if ((PySem.W.clsIn K b).isSome && PySem.W.typeIn K (.ref b) == some (.type "type")) = true then PySem.W.subIn K (.ref a) (.ref b) else none) = some v
    obtain ⟨cd, hc, _⟩ := PySem.W.any_some G.d
    rw [if_pos (by rw [hc, G.t]; rfl)]
    exact h
theorem top_mk {K : PySem.W.Frag} {h : Heap} {mg : Str → Option Value} {aR a1 a2 a3 a4 a5 aH : Addr} (X : K.In h) (G : h.Ns mainGlobals mg)
    (nR : PySem.W.nsIn K mainGlobals "RingError" = some (some (.ref aR))) (n1 : PySem.W.nsIn K mainGlobals "NoGuest" = some (some (.ref a1))) (n2 : PySem.W.nsIn K mainGlobals "NoSize" = some (some (.ref a2)))
    (n3 : PySem.W.nsIn K mainGlobals "Twice" = some (some (.ref a3))) (n4 : PySem.W.nsIn K mainGlobals "Away" = some (some (.ref a4))) (n5 : PySem.W.nsIn K mainGlobals "Full" = some (some (.ref a5)))
    (F1 : ClsF K a1 aR) (F2 : ClsF K a2 aR) (F3 : ClsF K a3 aR) (F4 : ClsF K a4 aR) (F5 : ClsF K a5 aR)
    (Rb : PySem.W.subIn K (.ref aR) (.type "BaseException") = some true) (Rd : PySem.W.hasDictIn K aR = true) (Rt : PySem.W.typeIn K (.ref aR) = some (.type "type"))
    (hn : PySem.W.specialIn K (.builtin "object.__class__") "__get__" = some (some (.builtin "getset_descriptor.__get__"))) (ht : PySem.W.takesIn K (.builtin "object.__class__") = some true)
    (s12 : PySem.W.subIn K (.ref a1) (.ref a2) = some false) (s13 : PySem.W.subIn K (.ref a1) (.ref a3) = some false) (s14 : PySem.W.subIn K (.ref a1) (.ref a4) = some false) (s15 : PySem.W.subIn K (.ref a1) (.ref a5) = some false)
    (s21 : PySem.W.subIn K (.ref a2) (.ref a1) = some false) (s23 : PySem.W.subIn K (.ref a2) (.ref a3) = some false) (s24 : PySem.W.subIn K (.ref a2) (.ref a4) = some false) (s25 : PySem.W.subIn K (.ref a2) (.ref a5) = some false)
    (s31 : PySem.W.subIn K (.ref a3) (.ref a1) = some false) (s32 : PySem.W.subIn K (.ref a3) (.ref a2) = some false) (s34 : PySem.W.subIn K (.ref a3) (.ref a4) = some false) (s35 : PySem.W.subIn K (.ref a3) (.ref a5) = some false)
    (s41 : PySem.W.subIn K (.ref a4) (.ref a1) = some false) (s42 : PySem.W.subIn K (.ref a4) (.ref a2) = some false) (s43 : PySem.W.subIn K (.ref a4) (.ref a3) = some false) (s45 : PySem.W.subIn K (.ref a4) (.ref a5) = some false)
    (s51 : PySem.W.subIn K (.ref a5) (.ref a1) = some false) (s52 : PySem.W.subIn K (.ref a5) (.ref a2) = some false) (s53 : PySem.W.subIn K (.ref a5) (.ref a3) = some false) (s54 : PySem.W.subIn K (.ref a5) (.ref a4) = some false) :
    Top K mg ⟨aR, a1, a2, a3, a4, a5, aH⟩ := by
  have ex : ∀ a, ClsF K a aR → ExF K a := fun a F => ⟨F.q, F.k, F.b, F.t, ⟨F.g, F.n, F.b, F.d, F.c, hn, ht, F.m⟩⟩
  have em : ∀ a, ClsF K a aR → PySem.W.exmOne K (.ref a) (.ref aR) = some true := fun a F => PySem.W.exm_ref Rb Rd Rt F.r
  refine ⟨⟨?_, ?_, ?_, ?_⟩, PySem.W.mg_of X G nR, PySem.W.mg_of X G n1, PySem.W.mg_of X G n2, PySem.W.mg_of X G n3, PySem.W.mg_of X G n4, PySem.W.mg_of X G n5⟩
  · intro x; cases x
    · exact ex _ F1
    · exact ex _ F2
    · exact ex _ F3
    · exact ex _ F4
    · exact ex _ F5
  · intro x; cases x
    · exact em _ F1
    · exact em _ F2
    · exact em _ F3
    · exact em _ F4
    · exact em _ F5
  · intro x y
    cases x <;> cases y
    · exact kit_ref F1 F1 F1.s
    · exact kit_ref F1 F2 s12
    · exact kit_ref F1 F3 s13
    · exact kit_ref F1 F4 s14
    · exact kit_ref F1 F5 s15
    · exact kit_ref F2 F1 s21
    · exact kit_ref F2 F2 F2.s
    · exact kit_ref F2 F3 s23
    · exact kit_ref F2 F4 s24
    · exact kit_ref F2 F5 s25
    · exact kit_ref F3 F1 s31
    · exact kit_ref F3 F2 s32
    · exact kit_ref F3 F3 F3.s
    · exact kit_ref F3 F4 s34
    · exact kit_ref F3 F5 s35
    · exact kit_ref F4 F1 s41
    · exact kit_ref F4 F2 s42
    · exact kit_ref F4 F3 s43
    · exact kit_ref F4 F4 F4.s
    · exact kit_ref F4 F5 s45
    · exact kit_ref F5 F1 s51
    · exact kit_ref F5 F2 s52
    · exact kit_ref F5 F3 s53
    · exact kit_ref F5 F4 s54
    · exact kit_ref F5 F5 F5.s
  · intro x; cases x
    · exact kit_val F1
    · exact kit_val F2
    · exact kit_val F3
    · exact kit_val F4
    · exact kit_val F5
end RS
/-! ### who is a guest; a seating and the list of who sits -/
namespace RS
open PySem PySem.Spec PyProof.Rows L2
def isG : V → Bool
  | .int i => decide (0 ≤ i) && decide (i < 1000000000000000000000000000000000000000000000000000000000000)
  | _ => false
theorem isG_yes {i : Int} (h0 : 0 ≤ i) (h1 : i < 1000000000000000000000000000000000000000000000000000000000000) : isG (.int i) = true := by
  show (decide _ && decide _) = true
  rw [decide_eq_true h0, decide_eq_true h1]; rfl
theorem isG_neg {i : Int} (h0 : i < 0) : isG (.int i) = false := by
  show (decide _ && decide _) = false
  rw [decide_eq_false (p := 0 ≤ i) (by omega)]; rfl
theorem isG_big {i : Int} (h0 : 1000000000000000000000000000000000000000000000000000000000000 ≤ i) : isG (.int i) = false := by
  show (decide _ && decide _) = false
  rw [decide_eq_false (p := i < 1000000000000000000000000000000000000000000000000000000000000) (by omega), Bool.and_false]
theorem isG_is {i : Int} (h : isG (.int i) = true) : 0 ≤ i ∧ i < 1000000000000000000000000000000000000000000000000000000000000 := by
  have h' : (decide (0 ≤ i) && decide (i < 1000000000000000000000000000000000000000000000000000000000000)) = true := h
  rw [Bool.and_eq_true, decide_eq_true_eq, decide_eq_true_eq] at h'
  exact h'
theorem isG_int {x : V} (h : isG x = true) : ∃ g, x = .int g := by
  cases x with
  | int g => exact ⟨g, rfl⟩
  | _ => cases h
theorem cut_ints {ns : List Int} {lo hi : Option Int} : ∃ cs : List Int, cutV (ns.map V.int) lo hi = cs.map V.int ∧ cs.length ≤ ns.length := by
  unfold cutV
  refine ⟨(ns.drop _).take _, by rw [List.map_take, List.map_drop], ?_⟩
  rw [List.length_take, List.length_drop]; omega
/-- a seating and the list of who sits -/
structure Seat (n : Nat) (f : Nat → Option Int) (gs : List Int) : Prop where
  P : Ring.Path n (hm n) f
  nd : gs.Nodup
  st : ∀ x, Ring.Sits n f x ↔ x ∈ gs
  lt : gs.length + 1 ≤ n
  g : ∀ x ∈ gs, isG (.int x) = true
theorem Seat.em {n : Nat} {f : Nat → Option Int} {gs : List Int} (S : Seat n f gs) (hn : 0 < n) : Ring.em n f + gs.length = n := Ring.em_of (hm_lt hn) S.P S.nd S.st
theorem Seat.e {n : Nat} {f : Nat → Option Int} {gs : List Int} (S : Seat n f gs) (hn : 0 < n) : ∃ e, e < n ∧ f e = none := Ring.em_pos.mp (by have := S.em hn; have := S.lt; omega)
theorem seat_none {n : Nat} (hn : 1 ≤ n) : Seat n (fun _ => none) [] := ⟨Ring.path_none, List.nodup_nil, fun x => ⟨fun h => absurd h Ring.sits_none, fun h => nomatch h⟩, hn, fun x h => nomatch h⟩
theorem Seat.add {n : Nat} {f f' : Nat → Option Int} {gs : List Int} {g : Int} (S : Seat n f gs) (h : g ∉ gs) (hG : isG (.int g) = true) (hl : gs.length + 2 ≤ n) (P : Ring.Path n (hm n) f') (st : ∀ x, Ring.Sits n f' x ↔ Ring.Sits n f x ∨ x = g) : Seat n f' (gs ++ [g]) := by
  refine ⟨P, List.nodup_append.mpr ⟨S.nd, by simp, fun x hx y hy => by simp at hy; subst hy; intro z; exact h (z ▸ hx)⟩, fun x => ?_, by rw [List.length_append]; simp; omega, fun x hx => ?_⟩
  · rw [st x, S.st x, List.mem_append, List.mem_singleton]
  · rcases List.mem_append.mp hx with h | h
    · exact S.g x h
    · rw [List.mem_singleton.mp h]; exact hG
theorem Seat.perm {n : Nat} {f : Nat → Option Int} {gs : List Int} (S : Seat n f gs) (hn : 0 < n) : (Ring.gl n f).Perm gs := Ring.gl_perm (hm_lt hn) S.P S.nd S.st
theorem Seat.del {n : Nat} {f f' : Nat → Option Int} {gs hs : List Int} {g : Int} (S : Seat n f gs) (P : Ring.Path n (hm n) f') (st : ∀ x, Ring.Sits n f' x ↔ Ring.Sits n f x ∧ x ≠ g) (nd : hs.Nodup) (e : ∀ x, x ∈ hs ↔ x ∈ gs ∧ x ≠ g) : Seat n f' hs := by
  have hl : hs.length ≤ gs.length := List.Nodup.length_le_of_subset nd fun x hx => ((e x).mp hx).1
  refine ⟨P, nd, fun x => ?_, by have := S.lt; omega, fun x hx => S.g x ((e x).mp hx).1⟩
  rw [st x, S.st x, e x]
/-- of the same guests just one seating -/
theorem Seat.one {n : Nat} {f f' : Nat → Option Int} {gs hs : List Int} (hn : 0 < n) (S : Seat n f gs) (T : Seat n f' hs) (e : ∀ x, x ∈ gs ↔ x ∈ hs) : row n f = row n f' :=
  row_ext (Ring.alike (hm_lt hn) S.P T.P (fun g => by rw [T.st, S.st, e]) (T.e hn) (S.e hn))
theorem ints_flat {gs : List Int} : (gs.map V.int).all flatV = true := by
  rw [List.all_map, List.all_eq_true]; intro x _; rfl
theorem ints_flD {gs : List Int} : (gs.map V.int).all flD = true := by
  rw [List.all_map, List.all_eq_true]; intro x _; rfl
theorem in_ints {gs : List Int} {g : Int} : inV (.int g) (gs.map V.int) = decide (g ∈ gs) := by
  unfold inV
  rw [List.any_map, Bool.eq_iff_iff, List.any_eq_true, decide_eq_true_eq]
  constructor
  · rintro ⟨x, hx, e⟩
    rw [← show x = g from of_decide_eq_true e]; exact hx
  · intro h; exact ⟨g, h, decide_eq_true rfl⟩
theorem sorted_one {a b c d : List Int} (h1 : a.Perm c) (h2 : b.Perm d) (h3 : a.Pairwise (· ≤ ·)) (h4 : b.Pairwise (· ≤ ·)) (h : c.Perm d) : a = b :=
  List.Perm.eq_of_pairwise (fun _ _ _ _ h1 h2 => Int.le_antisymm h1 h2) h3 h4 (h1.trans (h.trans h2.symm))
theorem gl_next {i : Nat} {f : Nat → Option Int} : Ring.gl (i + 1) f = Ring.gl i f ++ (match f i with | none => [] | some g => [g]) := by
  unfold Ring.gl
  rw [List.range_succ, List.filterMap_append]
  cases e : f i <;> simp [e]
theorem at_before {n : Nat} {f : Nat → Option Int} {k : Nat} (hk : k < n) : atI (row n f) ((k : Int) - 1) = some (ov (f (Ring.pv n k))) := by
  unfold atI Ring.pv
  rw [row_len]
  split
  · rename_i e
    subst e
    rw [show ixN n (((0 : Nat) : Int) - 1) = some (n - 1) by unfold ixN; rw [if_neg (by omega), if_pos (by omega)]; congr 1; omega]
    exact row_get (by omega)
  · rw [show ixN n ((k : Int) - 1) = some (k - 1) by unfold ixN; rw [if_pos (by omega), if_pos (by omega)]; congr 1; omega]
    exact row_get (by omega)
theorem cut_take {gs : List Int} {k : Nat} : cutV (gs.map V.int) none (some (k : Int)) = (gs.take k).map V.int := by
  unfold cutV
  rw [HT.sIx_nat, List.map_take]
  show List.take (min k _ - 0) (List.drop 0 _) = _
  rw [List.drop_zero, Nat.sub_zero, List.length_map]
  by_cases h : k ≤ gs.length
  · rw [Nat.min_eq_left h]
  · rw [Nat.min_eq_right (by omega), List.take_of_length_le (by simp), List.take_of_length_le (by simp; omega)]
theorem take_next {gs : List Int} {j : Nat} (h : j < gs.length) : gs.take (j + 1) = gs.take j ++ [gs[j]] := by
  rw [List.take_succ, List.getElem?_eq_getElem h]; rfl
theorem take_new {gs : List Int} (nd : gs.Nodup) {j : Nat} (h : j < gs.length) : gs[j] ∉ gs.take j := by
  intro z
  obtain ⟨i, hi, e⟩ := List.mem_take_iff_getElem.mp z
  have := (List.getElem_inj nd).mp e
  omega
def sT (n : Nat) (f : Nat → Option Int) : Nat → Int
  | 0 => 0
  | k + 1 => match f k with
    | none => sT n f k
    | some g => sT n f k + farI g k n
def sM (n : Nat) (f : Nat → Option Int) : Nat → Int
  | 0 => 0
  | k + 1 => match f k with
    | none => sM n f k
    | some g => if farI g k n > sM n f k then farI g k n else sM n f k
def sS (n : Nat) (f : Nat → Option Int) : Nat → Int
  | 0 => 0
  | k + 1 => match f k with
    | none => sS n f k
    | some g => sS n f k + farI g k n * farI g k n
end RS
/-! ### each in turn on the first empty seat -/
namespace RS
open PySem PySem.Spec PyProof.Rows L2
/-- F k: the seats behind the first k guests -/
structure Trn (n : Nat) (gs : List Int) (F : Nat → Nat → Option Int) (k : Nat) : Prop where
  z : F 0 = fun _ => none
  s : ∀ j, j < k → ∃ g p, gs[j]? = some g ∧ Ring.FC n (hm n) (F j) g p ∧ F (j + 1) = Ring.fup (F j) p (some g)
theorem Trn.next {n : Nat} {gs : List Int} {F : Nat → Nat → Option Int} {k : Nat} (T : Trn n gs F k) {g : Int} {p : Nat} (hg : gs[k]? = some g) (c : Ring.FC n (hm n) (F k) g p) :
    Trn n gs (fun i => if i ≤ k then F i else Ring.fup (F k) p (some g)) (k + 1) := by
  refine ⟨by simp only [Nat.zero_le, if_true]; exact T.z, fun j hj => ?_⟩
  by_cases e : j = k
  · subst e
    refine ⟨g, p, hg, ?_, ?_⟩
    · simp only [Nat.le_refl, if_true]; exact c
    · simp only [Nat.le_refl, if_true]; rw [if_neg (by omega)]
  · obtain ⟨g', p', h1, h2, h3⟩ := T.s j (by omega)
    refine ⟨g', p', h1, ?_, ?_⟩
    · simp only [show j ≤ k by omega, if_true]; exact h2
    · simp only [show j ≤ k by omega, show j + 1 ≤ k by omega, if_true]; exact h3
structure Tok (n : Nat) (gs : List Int) (f : Nat → Option Int) (k : Nat) : Prop where
  L : Ring.LP n (hm n) f
  O : Ring.One n f
  st : ∀ x, Ring.Sits n f x ↔ x ∈ gs.take k
theorem Trn.ok {n : Nat} {gs : List Int} {F : Nat → Nat → Option Int} {k : Nat} (T : Trn n gs F k) (nd : gs.Nodup) (hk : k ≤ gs.length) : ∀ j, j ≤ k → Tok n gs (F j) j := by
  intro j
  induction j with
  | zero =>
    intro _
    rw [T.z]
    exact ⟨(fun _ _ _ e => nomatch e), (fun _ _ _ _ _ e => nomatch e), fun x => ⟨(fun ⟨_, _, e⟩ => nomatch e), fun h => by simp at h⟩⟩
  | succ j ih =>
    intro hj
    obtain ⟨g, p, h1, c, h3⟩ := T.s j (by omega)
    have O := ih (by omega)
    have hlt : j < gs.length := by omega
    have eg : gs[j] = g := by rw [List.getElem?_eq_getElem hlt] at h1; exact Option.some.inj h1
    have ng : ¬ Ring.Sits n (F j) g := fun z => by
      have := (O.st g).mp z
      rw [← eg] at this; exact take_new nd hlt this
    obtain ⟨a, b⟩ := Ring.fc_put O.L O.O c ng
    rw [h3]
    refine ⟨a, b, fun x => ?_⟩
    rw [Ring.sits_put c.1 c.2.1 x, O.st x, take_next hlt, eg, List.mem_append, List.mem_singleton]
theorem Tok.em {n : Nat} {gs : List Int} {f : Nat → Option Int} {k : Nat} (O : Tok n gs f k) (hk : k ≤ gs.length) (nd : gs.Nodup) : Ring.em n f + k = n := by
  have gn : (Ring.gl n f).Nodup := Ring.fm_nodup _ List.nodup_range f fun p q x hp hq e1 e2 => O.O p q x (List.mem_range.mp hp) (List.mem_range.mp hq) e1 e2
  have pm : (Ring.gl n f).Perm (gs.take k) := Ring.perm_of gn (nd.sublist (List.take_sublist _ _)) fun x => by rw [Ring.mem_gl]; exact O.st x
  have h1 := Ring.gl_em n f
  have h2 := pm.length_eq
  rw [List.length_take] at h2
  omega
theorem Trn.keep {n : Nat} {gs : List Int} {F : Nat → Nat → Option Int} {k : Nat} (T : Trn n gs F k) {i : Nat} {p : Nat} {x : Int} (e : F i p = some x) : ∀ j, i ≤ j → j ≤ k → F j p = some x := by
  intro j
  induction j with
  | zero => intro h _; rw [show i = 0 by omega] at e; exact e
  | succ j ih =>
    intro h hk
    by_cases w : i = j + 1
    · rw [← w]; exact e
    · have := ih (by omega) (by omega)
      obtain ⟨g, p', _, c, h3⟩ := T.s j (by omega)
      rw [h3]
      by_cases w2 : p = p'
      · rw [w2, c.2.1] at this; cases this
      · rw [Ring.fup_ne w2]; exact this
/-- on the way to the first empty seat -/
def Way (n : Nat) (f : Nat → Option Int) (g : Int) (p : Nat) : Prop := ∀ r, r < n → Ring.far n (hm n g) r < Ring.far n (hm n g) p → f r ≠ none
theorem way_home {n : Nat} {f : Nat → Option Int} {g : Int} : Way n f g (hm n g) := fun r _ h => by rw [Ring.far_self] at h; omega
theorem way_next {n : Nat} {f : Nat → Option Int} {g : Int} {p e : Nat} (hn : 0 < n) (hp : p < n) (he : e < n) (h0 : f e = none) (w : Way n f g p) (hf : f p ≠ none) : Way n f g (Ring.nx n p) := by
  have hh := hm_lt hn
  have nw : Ring.nx n p ≠ hm n g := fun z => by
    have hl := Ring.far_last (hh g) hp z
    have hpe : e ≠ p := fun z => hf (z ▸ h0)
    have h3 := Ring.far_lt (hh g) he
    have : Ring.far n (hm n g) e ≠ Ring.far n (hm n g) p := fun x => hpe (Ring.far_inj (hh g) he hp x)
    exact w e he (by omega) h0
  intro r hr hl
  rcases (Ring.far_le (hh g) hp hr nw).mp hl with h1 | rfl
  · exact w r hr h1
  · exact hf
/-! the places as a dict -/
def plp (f : Nat → Option Int) : Nat → List (Int × Nat)
  | 0 => []
  | k + 1 => match f k with
    | none => plp f k
    | some g => plp f k ++ [(g, k)]
def plK (l : List (Int × Nat)) : List (Key × V) := l.map fun x => (.inl x.1, .int x.2)
theorem plp_mem {f : Nat → Option Int} {g : Int} {p : Nat} : ∀ {k : Nat}, (g, p) ∈ plp f k ↔ p < k ∧ f p = some g
  | 0 => by simp [plp]
  | k + 1 => by
    unfold plp
    cases e : f k with
    | none =>
      show (g, p) ∈ plp f k ↔ _
      rw [plp_mem (k := k)]
      constructor
      · rintro ⟨a, b⟩; exact ⟨by omega, b⟩
      · rintro ⟨a, b⟩
        have : p ≠ k := fun z => by rw [z, e] at b; cases b
        exact ⟨by omega, b⟩
    | some y =>
      show (g, p) ∈ plp f k ++ [(y, k)] ↔ _
      rw [List.mem_append, plp_mem (k := k), List.mem_singleton]
      constructor
      · rintro (⟨a, b⟩ | h)
        · exact ⟨by omega, b⟩
        · cases h; exact ⟨by omega, e⟩
      · rintro ⟨a, b⟩
        by_cases w : p = k
        · subst w; rw [e] at b; cases b; exact .inr rfl
        · exact .inl ⟨by omega, b⟩
theorem plp_next {f : Nat → Option Int} {k : Nat} : plp f (k + 1) = plp f k ++ (match f k with | none => [] | some g => [(g, k)]) := by
  conv => lhs; unfold plp
  cases f k with
  | none => exact (List.append_nil _).symm
  | some g => rfl
theorem plp_gl {f : Nat → Option Int} : ∀ {k : Nat}, (plp f k).map (·.1) = Ring.gl k f
  | 0 => rfl
  | k + 1 => by
    rw [gl_next, ← plp_gl (k := k), plp_next, List.map_append]
    cases f k <;> rfl
theorem plK_val {l : List (Int × Nat)} {g : Int} : (valV (plK l) (.inl g)).isSome = decide (g ∈ l.map (·.1)) := by
  rw [← valV_any]
  unfold plK
  rw [List.any_map, Bool.eq_iff_iff, List.any_eq_true, decide_eq_true_eq, List.mem_map]
  constructor
  · rintro ⟨x, hx, e⟩
    have : (Sum.inl x.1 : Key) = .inl g := of_decide_eq_true e
    exact ⟨x, hx, Sum.inl.inj this⟩
  · rintro ⟨x, hx, rfl⟩; exact ⟨x, hx, decide_eq_true rfl⟩
theorem plK_put {l : List (Int × Nat)} {g : Int} {k : Nat} (h : g ∉ l.map (·.1)) : putK (plK l) (.inl g) (.int k) = plK (l ++ [(g, k)]) := by
  unfold putK
  rw [valV_any, plK_val, decide_eq_false h, if_neg (by decide)]
  unfold plK; rw [List.map_append]; rfl
/-- what is found of a guest -/
theorem plK_find : ∀ {l : List (Int × Nat)} {g : Int} {p : Nat}, (l.map (·.1)).Nodup → (g, p) ∈ l → valV (plK l) (.inl g) = some (.int p)
  | [], _, _, _, h => nomatch h
  | (y, r) :: l, g, p, nd, h => by
    rw [List.map_cons] at nd
    obtain ⟨h1, h2⟩ := List.nodup_cons.mp nd
    have e : plK ((y, r) :: l) = (.inl y, .int r) :: plK l := rfl
    rw [e]
    by_cases w : y = g
    · subst w
      rcases List.mem_cons.mp h with h | h
      · cases h
        unfold valV; simp
      · exact absurd (List.mem_map.mpr ⟨_, h, rfl⟩) h1
    · rcases List.mem_cons.mp h with h | h
      · cases h; exact absurd rfl w
      · have := plK_find h2 h
        unfold valV at this ⊢
        simp [w]
        simpa using this
/-- the seats taken, as a dict -/
def dT (ps : List Nat) : List (Key × V) := ps.map fun p : Nat => (.inl (p : Int), .bl true)
theorem dT_val {ps : List Nat} {p : Nat} : (valV (dT ps) (.inl (p : Int))).isSome = decide (p ∈ ps) := by
  rw [← valV_any]
  unfold dT
  rw [List.any_map, Bool.eq_iff_iff, List.any_eq_true, decide_eq_true_eq]
  constructor
  · rintro ⟨x, hx, e⟩
    have : (Sum.inl (x : Int) : Key) = .inl (p : Int) := of_decide_eq_true e
    have := Sum.inl.inj this
    rw [← show x = p by omega]; exact hx
  · intro h; exact ⟨p, h, decide_eq_true rfl⟩
theorem dT_put {ps : List Nat} {p : Nat} (h : p ∉ ps) : putK (dT ps) (.inl (p : Int)) (.bl true) = dT (ps ++ [p]) := by
  unfold putK
  rw [valV_any, dT_val, decide_eq_false h, if_neg (by decide)]
  unfold dT; rw [List.map_append]; rfl
/-! sums over the places -/
def sumT (n : Nat) (l : List (Int × Nat)) : Int := l.foldl (fun t x => t + farI x.1 x.2 n) 0
def sumM (n : Nat) (l : List (Int × Nat)) : Int := l.foldl (fun m x => if farI x.1 x.2 n > m then farI x.1 x.2 n else m) 0
def sumS (n : Nat) (l : List (Int × Nat)) : Int := l.foldl (fun t x => t + farI x.1 x.2 n * farI x.1 x.2 n) 0
theorem sum_snoc {n : Nat} {l : List (Int × Nat)} {g : Int} {p : Nat} : sumT n (l ++ [(g, p)]) = sumT n l + farI g p n ∧ sumM n (l ++ [(g, p)]) = (if farI g p n > sumM n l then farI g p n else sumM n l) ∧ sumS n (l ++ [(g, p)]) = sumS n l + farI g p n * farI g p n := by
  unfold sumT sumM sumS
  rw [List.foldl_append, List.foldl_append, List.foldl_append]
  exact ⟨rfl, rfl, rfl⟩
theorem sums_are {n : Nat} {f : Nat → Option Int} : ∀ k, sumT n (plp f k) = sT n f k ∧ sumM n (plp f k) = sM n f k ∧ sumS n (plp f k) = sS n f k
  | 0 => ⟨rfl, rfl, rfl⟩
  | k + 1 => by
    obtain ⟨h1, h2, h3⟩ := sums_are (n := n) (f := f) k
    rw [plp_next]
    unfold sT sM sS
    cases f k with
    | none =>
      rw [List.append_nil]; exact ⟨h1, h2, h3⟩
    | some g =>
      obtain ⟨e1, e2, e3⟩ := sum_snoc (n := n) (l := plp f k) (g := g) (p := k)
      show sumT n (plp f k ++ [(g, k)]) = sT n f k + _ ∧ sumM n (plp f k ++ [(g, k)]) = (if _ > sM n f k then _ else sM n f k) ∧ sumS n (plp f k ++ [(g, k)]) = sS n f k + _
      rw [e1, e2, e3, h1, h2, h3]; exact ⟨rfl, rfl, rfl⟩
end RS
/-! ### for x, y in zip(t, xs), a tuple and a list -/
namespace RS
open PySem PySem.Spec PyProof.Rows L2
def ItzM (K : PySem.W.Frag) (a b : Addr) : It :=
  ⟨fun i H => ∃ (xs ys : List V) (x y : V), SqT K H a xs ∧ SqL K H b ys ∧ xs[i]? = some x ∧ ys[i]? = some y,
    fun i H v H' => ∃ T x y, v = .ref T ∧ H T = none ∧ H' = upd H T (.tup [x, y]) ∧ (∀ xs, SqT K H a xs → xs[i]? = some x) ∧ ∀ ys, SqL K H b ys → ys[i]? = some y,
    fun i H => ∃ xs ys : List V, SqT K H a xs ∧ SqL K H b ys ∧ i = min xs.length ys.length⟩
def iZipM (K : PySem.W.Frag) (ta : TA) : TI := fun σ H R => ta σ H fun vs H1 => ∃ a b xs ys, vs = [.ref a, .ref b] ∧ SqT K H1 a xs ∧ SqL K H1 b ys ∧ R (ItzM K a b) H1
theorem for_zipM {K : PySem.W.Frag} {ta : TA} {tb : TS} {D : Ends} {σ : L2.St} {H H' : Hp} {i j : Nat} {a b : Addr} {xs ys : List V} (hta : ∀ R : List V → Hp → Prop, R [.ref a, .ref b] H' → ta σ H R) (hx : SqT K H' a xs) (hy : SqL K H' b ys) (hl : xs.length = ys.length) (Pv : Nat → L2.St → Hp → Prop) (h0 : Pv 0 σ H')
    (hq : ∀ i σ H, Pv i σ H → SqT K H a xs ∧ SqL K H b ys) (hs : ∀ k x y σ H, xs[k]? = some x → ys[k]? = some y → Pv k σ H → ∀ H2, Same H H2 → tb { D with nx := Pv (k + 1), ct := Pv (k + 1), bk := D.nx } ((σ.set i (some x)).set j (some y)) H2) (hd : ∀ σ H, Pv xs.length σ H → D.nx σ H) :
    tFor (iZipM K ta) (gTup K 2 (gCons (gName i) (gCons (gName j) gNil))) tb D σ H := by
  refine hta _ ⟨a, b, xs, ys, rfl, hx, hy, fun i' m σ H => m = xs.length - i' ∧ i' ≤ xs.length ∧ Pv i' σ H, ⟨xs.length, by simp, Nat.zero_le _, h0⟩, ?_⟩
  rintro i' m σ H ⟨rfl, hi, p⟩
  obtain ⟨qx, qy⟩ := hq i' σ H p
  by_cases hlt : i' < xs.length
  · have hlt2 : i' < ys.length := by omega
    refine .inr ⟨⟨xs, ys, xs[i'], ys[i'], qx, qy, List.getElem?_eq_getElem hlt, List.getElem?_eq_getElem hlt2⟩, Pv (i' + 1), fun σ' H' p' => ⟨xs.length - (i' + 1), by omega, rfl, hlt, p'⟩, fun v H1 y => ?_⟩
    obtain ⟨T, x, y, rfl, hT, rfl, ex, ey⟩ := y
    exact gtup2 upd_same (hs i' x y σ H (ex xs qx) (ey ys qy) p _ (same_new hT))
  · have e : i' = xs.length := by omega
    subst e
    exact .inl ⟨⟨xs, ys, qx, qy, by omega⟩, hd σ H p⟩
end RS
namespace RS
open PySem PySem.Spec PyProof.Rows L2
/-- the turns' own cells -/
def MixSt (z TI TO i1 i2 a b : Addr) (i : Nat) (h : Heap) : Prop := IsZip h z TI TO .none ∧ IsTupOf2 h TI (.ref i1) (.ref i2) ∧ (∃ x y, IsTupOf2 h TO x y) ∧ h.IsTupleIter i1 a i ∧ h.IsListIter i2 b i
theorem MixSt.cells {z TI TO i1 i2 a b : Addr} {i : Nat} {h : Heap} (st : MixSt z TI TO i1 i2 a b i h) : ∀ c ∈ [z, TI, TO, i1, i2], ∃ o, h.get? c = some o ∧ ∀ v, o.data ≠ .cell v := by
  obtain ⟨e1, e2, ⟨x, y, e3⟩, ⟨o4, e4, _, d4⟩, ⟨o5, e5, _, d5⟩⟩ := st
  intro c hc
  rcases List.mem_cons.mp hc with rfl | hc
  · exact ⟨_, e1, fun v q => nomatch q⟩
  rcases List.mem_cons.mp hc with rfl | hc
  · exact ⟨_, e2, fun v q => nomatch q⟩
  rcases List.mem_cons.mp hc with rfl | hc
  · exact ⟨_, e3, fun v q => nomatch q⟩
  rcases List.mem_cons.mp hc with rfl | hc
  · exact ⟨o4, e4, fun v q => by rw [d4] at q; cases q⟩
  rw [List.mem_singleton.mp hc]
  exact ⟨o5, e5, fun v q => by rw [d5] at q; cases q⟩
theorem turn_mix {P : Program} {w : World} {K : PySem.W.Frag} {elts : List Expr} {kk : Nat} {tpos : Pos} {N a b : Addr} (ha : a < N) (hb : b < N) :
    Turn P w K (.Tuple elts kk tpos) (ItzM K a b) [N + 4, N + 2, N + 3, N, N + 1] (N + 4) (MixSt (N + 4) (N + 2) (N + 3) N (N + 1) a b) where
  mem := List.mem_cons_self
  obj := fun _ _ st => st.cells
  keep := fun i h h' st k => by
    obtain ⟨e1, e2, ⟨x, y, e3⟩, e4, e5⟩ := st
    exact ⟨k _ (by simp) _ e1, k _ (by simp) _ e2, ⟨x, y, k _ (by simp) _ e3⟩, e4.at fun o q => k _ (by simp) o q, e5.at fun o q => k _ (by simp) o q⟩
  item := by
    intro X hP hw hK hc i pins s σ H E I hf st go
    subst hP hw hK
    have cl := st.cells
    obtain ⟨xs, ys, x, y, qx, qy, ex, ey⟩ := go
    obtain ⟨us, r1, p1, _⟩ := I.tuple qx
    obtain ⟨ws, r2, p2, _⟩ := I.list qy
    obtain ⟨u, eu, ru⟩ := r1.get ex
    obtain ⟨u', eu', ru'⟩ := r2.get ey
    obtain ⟨e1, e2, e3, e4, e5⟩ := st
    have W := GoesN.zip2 (prog := X.prog) (w := X.w) (A := X.A) (elts := elts) (x1 := kk) (pos := tpos) (zip_sep2 (N := N) (fp1 := [a]) (fp2 := [b]) (by simpa using ha) (by simpa using hb))
      (Draws.tuple (A := X.A.in1) (I.ok.hd hc) N a (Nat.ne_of_lt ha) us.toArray) (Draws.list (A := X.A.in1) (I.ok.hd hc) (N + 1) b (Nat.ne_of_lt (Nat.lt_succ_of_lt hb)) ws.toArray)
    have h1 : i < us.length := (List.getElem?_eq_some_iff.mp eu).1
    have h2 : i < ws.length := (List.getElem?_eq_some_iff.mp eu').1
    refine W.goes i s _ E (by simp; omega) ⟨e1, e2, e3, ⟨e4, p1⟩, ⟨e5, p2.isList⟩⟩ fun v h' tk hY hS hk _ => ?_
    obtain ⟨T, m, m', rfl, hT, hm, hm', hI⟩ := hY
    obtain rfl : m = u := by
      have : us[i]? = some m := by simpa using hm
      rw [eu] at this; exact (Option.some.inj this).symm
    obtain rfl : m' = u' := by
      have : ws[i]? = some m' := by simpa using hm'
      rw [eu'] at this; exact (Option.some.inj this).symm
    have new : ObjOk X.prog X.w (upd H T (.tup [x, y])) h' T (.tup [x, y]) := ⟨by show 2 ≤ sizeLine; decide, [m, m'], .cons ru (.cons ru' .nil), hI⟩
    obtain ⟨f1, f2, f3, f4, f5⟩ := hS
    refine ⟨.ref T, _, I.turnedNew (t' := tk) (ch := [N + 4, N + 3, N, N + 1]) hk (fun c hc => hf c ?_) hT new, rfl, ⟨T, x, y, rfl, I.hok.fresh hT, rfl, fun l hl => by rw [I.tuple_inj hl qx]; exact ex, fun l hl => by rw [I.list_inj hl qy]; exact ey⟩, ⟨f1, f2, f3, f4.1, f5.1⟩, fun c hc => ?_⟩
    · simp only [List.mem_cons, List.not_mem_nil, or_false] at hc ⊢
      rcases hc with h | h | h | h <;> simp [h]
    · obtain ⟨o, eo, _⟩ := cl c hc
      rw [upd_ne (Nat.ne_of_lt (Nat.lt_of_lt_of_le (Heap.lt_size eo) hT))]
      exact (hf c hc).1
  done := by
    intro X hP hw hK hc i pins s σ H E I hf st stop
    subst hP hw hK
    obtain ⟨xs, ys, qx, qy, hi⟩ := stop
    obtain ⟨us, r1, p1, _⟩ := I.tuple qx
    obtain ⟨ws, r2, p2, _⟩ := I.list qy
    obtain ⟨e1, e2, e3, e4, e5⟩ := st
    have W := GoesN.zip2 (prog := X.prog) (w := X.w) (A := X.A) (elts := elts) (x1 := kk) (pos := tpos) (zip_sep2 (N := N) (fp1 := [a]) (fp2 := [b]) (by simpa using ha) (by simpa using hb))
      (Draws.tuple (A := X.A.in1) (I.ok.hd hc) N a (Nat.ne_of_lt ha) us.toArray) (Draws.list (A := X.A.in1) (I.ok.hd hc) (N + 1) b (Nat.ne_of_lt (Nat.lt_succ_of_lt hb)) ws.toArray)
    have hn : i = min us.toArray.size ws.toArray.size := by rw [List.size_toArray, List.size_toArray, ← r1.length, ← r2.length]; exact hi
    rw [hn] at e4 e5
    refine W.stops s _ E ⟨e1, e2, e3, ⟨e4, p1⟩, ⟨e5, p2.isList⟩⟩ fun h' tk hk _ => I.turnedL (t' := tk) (ch := [N + 4, N + 3, N, N + 1]) hk fun c hc => hf c ?_
    simp only [List.mem_cons, List.not_mem_nil, or_false] at hc ⊢
    rcases hc with h | h | h | h <;> simp [h]
  self := fun A i s Q E st h => wpAny_pyIter_zip st.1 h
theorem pi_zipM {X : Cx} {e e2 : Expr} {ta : TA} {p pos tpos : Pos} {elts : List Expr} {kk : Nat} (hg : Gl X "zip") (hm : X.mg "zip" = none) (ha : PA X [e, e2] ta)
    (hs : starEach [e, e2] X.env = (false, eval e X.env) :: starEach [e2] X.env := by rfl) (hpl : (backTo pos (starEach [e2] X.env)).any (·.1) = false := by rfl) :
    PI X (.Tuple elts kk tpos) (.Call (.Name "zip" p) [e, e2] [] pos) (iZipM X.K ta) := by
  refine ⟨fun pins s σ H R I h => Call_ (ld_blt I hg hm PyProof.Rows.boot_zip (PyProof.Rows.callWith_type1 (thn (ha.run pos pins s σ H _ I h) fun us s1 ⟨vs, H1, I1, r1, q1⟩ => ?_) hs hpl))⟩
  obtain ⟨a, b, xs, ys, rfl, qx, qy, q⟩ := q1
  obtain ⟨va, vb, rfl, ra, rb⟩ : ∃ va vb, us = [va, vb] ∧ RelV (.ref a) va ∧ RelV (.ref b) vb := by
    cases r1 with
    | cons ra t1 =>
      cases t1 with
      | cons rb t2 => cases t2; exact ⟨_, _, rfl, ra, rb⟩
  obtain rfl : va = Value.ref a := ra
  obtain rfl : vb = Value.ref b := rb
  obtain ⟨us, t1, p1, _⟩ := I1.tuple qx
  obtain ⟨ws, t2, p2, _⟩ := I1.list qy
  have la : a < s1.heap.objs.size := by obtain ⟨o, ho, _⟩ := id p1; exact Heap.lt_size ho
  refine zip_begins2 (begins_tuple a us.toArray) (begins_list b ws.toArray) p1 p2.isList fun h' hz hTI hTO g1 g2 hsz hk => wpAny_pyIter_zip hz ?_
  refine ⟨_, [s1.heap.objs.size + 4, s1.heap.objs.size + 2, s1.heap.objs.size + 3, s1.heap.objs.size, s1.heap.objs.size + 1], _, _, H1, rfl, I1.kept (t' := s1.toks) hk, turn_mix la p2.lt, ⟨hz, hTI, ⟨_, _, hTO⟩, ⟨_, g1, rfl, rfl⟩, ⟨_, g2, rfl, rfl⟩⟩, fun c hc => ?_, q⟩
  have hle : s1.heap.objs.size ≤ c := by
    simp only [List.mem_cons, List.not_mem_nil, or_false] at hc
    rcases hc with h | h | h | h | h <;> rw [h] <;> first | exact Nat.le_add_right _ _ | exact Nat.le_refl _
  exact I1.fpOk hle (I1.hok.fresh hle)
end RS
/-! "run": a reading is worked off by rewriting, from the left -/
local macro_rules | `(tactic| walk_at "run") => `(tactic| simp only [L2.tSeq, L2.tAsg, L2.gName, L2.tVar, L2.tC, L2.tOp, L2.tUn, L2.tTest, L2.tB, L2.tIfS, L2.tNext, L2.tRet, L2.tRetN, L2.tDrop, L2.tCall, L2.tCons, L2.tNil, L2.tCB, L2.tAnd, L2.tOr, L2.tNot, L2.tAndV, L2.tOrV, L2.tNotV, L2.tIf, L2.tIsN, L2.tNotN, L2.tBreak, L2.tCont, L2.tTup, L2.tLst, L2.gTup, L2.gCons, L2.gNil, L2.gSub, L2.tChain, L2.tDGet, L2.tDIn, L2.tDNotIn, L2.sDPut, L2.tDNewK,
  L2.rI, L2.rI0, L2.rU, L2.rEq, L2.rNe, L2.rIxL, L2.rIxT, L2.rIn, L2.rIsi, L2.rSetL, L2.rCat, L2.rRep, L2.rSlL, L2.tSl, RS.tStepL, L2.tPart, L2.tNoPart, L2.tYes, RS.ov_non, RS.ov_some, L2.rIsB, L2.rNotB, RS.rIsA, RS.isWh_int, RS.isWh_bl, RS.isWh_non, RS.isWh_ref, RS.Ty.nm, RS.Ty.isA, RS.tyOf_int, RS.tyOf_bl, RS.tyOf_non, RS.tyOf_str, RS.rLenS, RS.rLenD, L2.rListD, L2.tBM0, RS.rListS, RS.rMax2, RS.rMin2, RS.rInt1, RS.rStr1, RS.CMl, L2.CDiv, L2.scal,
  List.getElem?_cons_zero, List.getElem?_cons_succ, List.set_cons_zero, List.set_cons_succ, List.append_nil, List.nil_append, List.cons_append,
  Option.some.injEq, L2.V.int.injEq, L2.V.bl.injEq, L2.V.ref.injEq, L2.V.str.injEq, List.cons.injEq, List.nil_eq, reduceCtorEq,
  exists_eq, exists_eq', exists_eq_left, exists_eq_left', exists_eq_right, exists_eq_right', exists_and_left, exists_and_right, exists_const, and_assoc, Int.reduceLT, Int.reduceLE, Int.reduceNeg, Nat.reduceLT, Nat.reduceLeDiff, List.length_cons, List.length_nil, Nat.reduceAdd, Int.reduceMul, Int.reduceSub, true_or, or_true, true_and, and_true, and_self, false_and, and_false, or_false, false_or, decide_eq_true_eq, Bool.not_eq_true', Bool.not_eq_true, decide_eq_false_iff_not, Bool.not_not, Bool.true_eq_false, Bool.false_eq_true, if_true, if_false, Bool.not_true, Bool.not_false, decide_true, decide_false, eq_self, not_true_eq_false, not_false_eq_true, ite_true, ite_false])
local macro_rules | `(tactic| walk_at "nxt") => `(tactic| dsimp only [L2.tSeq, L2.tNext, List.set_cons_zero, List.set_cons_succ])
namespace RS
open PySem PySem.Spec PyProof.Rows L2
def sp_is_guest (K : PySem.W.Frag) (C : Cs) : Sp := fun vs H Q _ => ∃ (x : V) (s : Ty), vs = [x] ∧ tyOf H x = some s ∧ Q (.bl (isG x)) H
def sp_home (K : PySem.W.Frag) (C : Cs) : Sp := fun vs H Q _ => ∃ g n : Int, vs = [.int g, .int n] ∧ 0 < n ∧ Q (.int (homeI g n)) H
def sp_carried (K : PySem.W.Frag) (C : Cs) : Sp := fun vs H Q _ => ∃ g p n : Int, vs = [.int g, .int p, .int n] ∧ 0 < n ∧ Q (.int (farI g p n)) H
def sp_ahead (K : PySem.W.Frag) (C : Cs) : Sp := fun vs H Q _ => ∃ a b p n : Int, vs = [.int a, .int b, .int p, .int n] ∧ 0 < n ∧ Q (.bl (aheadI a b p n)) H
def sp_strain (K : PySem.W.Frag) (C : Cs) : Sp := fun vs H Q _ => ∃ (a : Addr) (n : Nat) (f : Nat → Option Int), vs = [.ref a] ∧ SqL K H a (row n f) ∧ n ≤ 1024 ∧
  ∀ H' t, Same H H' → H' t = some (.tup [.int (sT n f n), .int (sM n f n), .int (sS n f n)]) → Q (.ref t) H'
def sp_look_for (K : PySem.W.Frag) (C : Cs) : Sp := fun vs H Q E => ∃ (a : Addr) (n : Nat) (f : Nat → Option Int) (x : V) (s : Ty), vs = [.ref a, x] ∧ SqL K H a (row n f) ∧ 1 ≤ n ∧ n ≤ 1024 ∧ (∃ e, e < n ∧ f e = none) ∧ tyOf H x = some s ∧
  (isG x = false → E (.ref C.cNoGuest) none H) ∧ ∀ g, x = .int g → isG x = true → ∀ (H' : Hp) (t : Addr) (p : Nat), Same H H' → p < n → Ring.Loc n (hm n) f g p → H' t = some (.tup [.int p, .int ((Ring.far n (hm n g) p + 1 : Nat) : Int)]) → Q (.ref t) H'
def sp_take_seat (K : PySem.W.Frag) (C : Cs) : Sp := fun vs H Q _ => ∃ (a : Addr) (n : Nat) (f : Nat → Option Int) (g : Int), vs = [.ref a, .int g] ∧ H a = some (.lst (row n f)) ∧ 2 ≤ n ∧ n ≤ 1024 ∧ Ring.Path n (hm n) f ∧ (∃ e, e < n ∧ f e = none) ∧ ¬ Ring.Sits n f g ∧ isG (.int g) = true ∧
  ∀ (H' : Hp) (f' : Nat → Option Int) (p : Nat), Off a H H' → H' a = some (.lst (row n f')) → Ring.Path n (hm n) f' → (∀ x, Ring.Sits n f' x ↔ Ring.Sits n f x ∨ x = g) → p < n → f' p = some g → Q (.int p) H'
theorem all_ints {xs : List V} (h : ∀ x ∈ xs, isG x = true) : ∃ gs : List Int, xs = gs.map V.int ∧ ∀ g ∈ gs, isG (.int g) = true := by
  induction xs with
  | nil => exact ⟨[], rfl, fun _ h => nomatch h⟩
  | cons x xs ih =>
    obtain ⟨gs, rfl, hg⟩ := ih fun y hy => h y (List.mem_cons_of_mem _ hy)
    obtain ⟨g, rfl⟩ := isG_int (h x List.mem_cons_self)
    refine ⟨g :: gs, rfl, fun y hy => ?_⟩
    rcases List.mem_cons.mp hy with rfl | hy
    · exact h _ List.mem_cons_self
    · exact hg y hy
def sp_looked_through (K : PySem.W.Frag) (C : Cs) : Sp := fun vs H Q E => ∃ (a : Addr) (xs : List V) (n : Nat), vs = [.ref a, .int n] ∧ SqL K H a xs ∧ xs.length ≤ 1000 ∧ (∀ x ∈ xs, ∃ s, tyOf H x = some s) ∧
  ((∃ x ∈ xs, isG x = false) → E (.ref C.cNoGuest) none H) ∧ ∀ gs : List Int, xs = gs.map V.int → (∀ g ∈ gs, isG (.int g) = true) → (¬ gs.Nodup → E (.ref C.cTwice) none H) ∧ (gs.Nodup → n ≤ gs.length → E (.ref C.cFull) none H) ∧ (gs.Nodup → gs.length < n → Q .non H)
def sp_seated (K : PySem.W.Frag) (C : Cs) : Sp := fun vs H Q E => ∃ (a : Addr) (xs : List V) (n : Nat), vs = [.ref a, .int n] ∧ SqL K H a xs ∧ xs.length ≤ 1000 ∧ 2 ≤ n ∧ n ≤ 1024 ∧ (∀ x ∈ xs, ∃ s, tyOf H x = some s) ∧
  ((∃ x ∈ xs, isG x = false) → E (.ref C.cNoGuest) none H) ∧ ∀ gs : List Int, xs = gs.map V.int → (∀ g ∈ gs, isG (.int g) = true) → (¬ gs.Nodup → E (.ref C.cTwice) none H) ∧ (gs.Nodup → n ≤ gs.length → E (.ref C.cFull) none H) ∧
    (gs.Nodup → gs.length < n → ∀ (H' : Hp) (s : Addr) (f : Nat → Option Int), Same H H' → H' s = some (.lst (row n f)) → H s = none → Seat n f gs → Q (.ref s) H')
def sp_first_come (K : PySem.W.Frag) (C : Cs) : Sp := fun vs H Q E => ∃ (a : Addr) (xs : List V) (n : Nat), vs = [.ref a, .int n] ∧ SqL K H a xs ∧ xs.length ≤ 1000 ∧ 2 ≤ n ∧ n ≤ 1024 ∧ (∀ x ∈ xs, ∃ s, tyOf H x = some s) ∧
  ((∃ x ∈ xs, isG x = false) → E (.ref C.cNoGuest) none H) ∧ ∀ gs : List Int, xs = gs.map V.int → (∀ g ∈ gs, isG (.int g) = true) → (¬ gs.Nodup → E (.ref C.cTwice) none H) ∧ (gs.Nodup → n ≤ gs.length → E (.ref C.cFull) none H) ∧
    (gs.Nodup → gs.length < n → ∀ (H' : Hp) (s : Addr) (F : Nat → Nat → Option Int), Same H H' → H' s = some (.lst (row n (F gs.length))) → H s = none → Trn n gs F gs.length → Q (.ref s) H')
def cellI (ns : List Int) (k : Int) : Int := if k < ns.length then ns.getD k.toNat 0 else 0
def sp_law_cell_at (K : PySem.W.Frag) (C : Cs) : Sp := fun vs H Q _ => ∃ (a : Addr) (ns : List Int) (k : Int), vs = [.ref a, .int k] ∧ SqL K H a (ns.map V.int) ∧ 0 ≤ k ∧ Q (.int (cellI ns k)) H
def sp_law_whole (K : PySem.W.Frag) (C : Cs) : Sp := fun vs H Q _ => ∃ (x : V) (s : Ty), vs = [x] ∧ tyOf H x = some s ∧ Q (.bl (isWh x)) H
def sp_law_home (K : PySem.W.Frag) (C : Cs) : Sp := fun vs H Q _ => ∃ g n : Int, vs = [.int g, .int n] ∧ 0 < n ∧ Q (.int (homeI g n)) H
def baseI (c : Int) : Int := if c % 2 = 0 then c / 2 % 10000000000000000000000000000000000000000000000000000000000 else c / 2 % 70001
theorem baseI_ok (c : Int) : 0 ≤ baseI c ∧ baseI c < 10000000000000000000000000000000000000000000000000000000000 := by
  unfold baseI; split <;> omega
def sp_law_base (K : PySem.W.Frag) (C : Cs) : Sp := fun vs H Q _ => ∃ c : Int, vs = [.int c] ∧ Q (.int (baseI c)) H
def gstI (c b : Int) : Int := if c % 5 = 0 then c / 5 % 1000000000000000000000000000000000000000000000000000000000000 else if c % 5 = 1 then c / 5 % 400 else if c % 5 = 2 then b + 4294967296 * (c / 5 % 10000000000000000000000000000000000000000) else if c % 5 = 3 then b + 65536 * (c / 5 % 12) else b + 65536 * (c / 5 % 3) + 4294967296 * (c / 5 / 3 % 7)
theorem gstI_ok (c b : Int) (h0 : 0 ≤ b) (h1 : b < 10000000000000000000000000000000000000000000000000000000000) : 0 ≤ gstI c b ∧ gstI c b < 1000000000000000000000000000000000000000000000000000000000000 := by
  unfold gstI; repeat' split
  all_goals omega
theorem gstI_g (c b : Int) (h : 0 ≤ b ∧ b < 10000000000000000000000000000000000000000000000000000000000) : isG (.int (gstI c b)) = true := by
  obtain ⟨h0, h1⟩ := gstI_ok c b h.1 h.2
  exact isG_yes h0 h1
def sp_law_guest (K : PySem.W.Frag) (C : Cs) : Sp := fun vs H Q _ => ∃ c b : Int, vs = [.int c, .int b] ∧ Q (.int (gstI c b)) H
/-- the guests known so far, as the dict's entries -/
def dG (gs : List Int) : List (Key × V) := gs.map fun g => (.inl g, .bl true)
theorem dG_len {gs : List Int} : (dG gs).length = gs.length := List.length_map _
theorem dG_val {gs : List Int} {g : Int} : (valV (dG gs) (.inl g)).isSome = decide (g ∈ gs) := by
  rw [← valV_any]
  unfold dG
  rw [List.any_map, Bool.eq_iff_iff, List.any_eq_true, decide_eq_true_eq]
  constructor
  · rintro ⟨x, hx, e⟩
    have : (Sum.inl x : Key) = .inl g := of_decide_eq_true e
    cases this; exact hx
  · intro h; exact ⟨g, h, decide_eq_true rfl⟩
theorem dG_put {gs : List Int} {g : Int} (h : g ∉ gs) : putK (dG gs) (.inl g) (.bl true) = dG (gs ++ [g]) := by
  unfold putK
  rw [valV_any, dG_val, decide_eq_false h, if_neg (by decide)]
  unfold dG; rw [List.map_append]; rfl
theorem dG_again {gs : List Int} {g : Int} (h : g ∈ gs) : putK (dG gs) (.inl g) (.bl true) = dG gs := by
  unfold putK
  rw [valV_any, dG_val, decide_eq_true h, if_pos rfl]
  unfold dG
  rw [List.map_map]
  refine List.map_congr_left fun x _ => ?_
  show (if _ then _ else _) = _
  split
  · rename_i e
    have : (Sum.inl x : Key) = .inl g := e
    cases this; rfl
  · rfl
def addG (gs : List Int) (g : Int) : List Int := if g ∈ gs then gs else gs ++ [g]
theorem dG_add {gs : List Int} {g : Int} : putK (dG gs) (.inl g) (.bl true) = dG (addG gs g) := by
  unfold addG; split
  · exact dG_again ‹_›
  · exact dG_put ‹_›
theorem addG_nd {gs : List Int} {g : Int} (h : gs.Nodup) : (addG gs g).Nodup := by
  unfold addG; split
  · exact h
  · rename_i hg
    exact List.nodup_append.mpr ⟨h, by simp, fun x hx y hy => by simp at hy; subst hy; intro z; exact hg (z ▸ hx)⟩
theorem addG_len {gs : List Int} {g : Int} : (addG gs g).length ≤ gs.length + 1 := by
  unfold addG; split
  · omega
  · rw [List.length_append]; simp
theorem addG_mem {gs : List Int} {g x : Int} (h : x ∈ addG gs g) : x ∈ gs ∨ x = g := by
  unfold addG at h; split at h
  · exact .inl h
  · rcases List.mem_append.mp h with h | h
    · exact .inl h
    · exact .inr (List.mem_singleton.mp h)
theorem dG_keys {gs : List Int} : ((dG gs).map fun kv => kV kv.1) = gs.map V.int := by
  unfold dG; rw [List.map_map]; rfl
def sp_law_drawn (K : PySem.W.Frag) (C : Cs) : Sp := fun vs H Q _ => ∃ (a : Addr) (cs : List Int) (b : Int), vs = [.ref a, .int b] ∧ SqL K H a (cs.map V.int) ∧ cs.length ≤ 63 ∧
  ∀ (H' : Hp) (d : Addr) (gs : List Int), Same H H' → H' d = some (.lst (gs.map V.int)) → gs.Nodup → gs.length ≤ cs.length → (∀ x ∈ gs, ∃ c, x = gstI c b) → Q (.ref d) H'
def sp_law_places (K : PySem.W.Frag) (C : Cs) : Sp := fun vs H Q _ => ∃ (a : Addr) (n : Nat) (f : Nat → Option Int), vs = [.ref a, .int n] ∧ H a = some (.lst (row n f)) ∧ n ≤ 1024 ∧ Ring.One n f ∧
  ∀ (H' : Hp) (d : Addr), Same H H' → H' d = some (.dK (plK (plp f n))) → H d = none → Q (.ref d) H'
def sp_law_in_turn (K : PySem.W.Frag) (C : Cs) : Sp := fun vs H Q _ => ∃ (a d : Addr) (n : Nat) (gs : List Int) (F : Nat → Nat → Option Int), vs = [.ref a, .ref d, .int n] ∧ SqL K H a (gs.map V.int) ∧ H d = some (.dK (plK (plp (F gs.length) n))) ∧ gs.Nodup ∧ gs.length < n ∧ n ≤ 1024 ∧ Trn n gs F gs.length ∧
  ∀ H', Same H H' → Q (.bl true) H'
def sp_law_sums (K : PySem.W.Frag) (C : Cs) : Sp := fun vs H Q _ => ∃ (d : Addr) (n : Nat) (f : Nat → Option Int), vs = [.ref d, .int n] ∧ H d = some (.dK (plK (plp f n))) ∧ 1 ≤ n ∧ n ≤ 1024 ∧
  ∀ (H' : Hp) (l : Addr), Same H H' → H' l = some (.lst [.int (sT n f n), .int (sM n f n), .int (sS n f n)]) → Q (.ref l) H'
def sp_law_told (K : PySem.W.Frag) (C : Cs) : Sp := fun vs H Q _ => ∃ (t l : Addr) (A B D : Int), vs = [.ref t, .ref l] ∧ H t = some (.tup [.int A, .int B, .int D]) ∧ SqL K H l [.int A, .int B, .int D] ∧ ∀ H', Same H H' → Q (.bl true) H'
def sp_law_odd (K : PySem.W.Frag) (C : Cs) : Sp := fun vs H Q _ => ∃ c : Int, vs = [.int c] ∧ ∀ (H' : Hp) (x : V) (s : Ty), Same H H' → tyOf H' x = some s → isG x = false → Q x H'
def rfK (k : Ek) : List V := [.bl (decide (k = .noGuest)), .bl (decide (k = .twice)), .bl (decide (k = .full)), .bl true]
/-- why a list is refused -/
def Why (xs : List V) (n : Nat) (k : Ek) : Prop := (k = .noGuest ∧ ∃ x ∈ xs, isG x = false) ∨ ∃ gs : List Int, xs = gs.map V.int ∧ (∀ g ∈ gs, isG (.int g) = true) ∧ ((k = .twice ∧ ¬ gs.Nodup) ∨ (k = .full ∧ gs.Nodup ∧ n ≤ gs.length))
def sp_law_refused (K : PySem.W.Frag) (C : Cs) : Sp := fun vs H Q _ => ∃ (a : Addr) (xs : List V) (n : Nat) (k : Ek), vs = [.ref a, .int n] ∧ SqL K H a xs ∧ xs.length ≤ 1000 ∧ 2 ≤ n ∧ n ≤ 1024 ∧ (∀ x ∈ xs, ∃ s, tyOf H x = some s) ∧ Why xs n k ∧
  ∀ (H' : Hp) (d : Addr), Same H H' → H' d = some (.lst (rfK k)) → Q (.ref d) H'
theorem ints_inj : ∀ {as bs : List Int}, as.map V.int = bs.map V.int → as = bs
  | [], [], _ => rfl
  | [], _ :: _, h => nomatch h
  | _ :: _, [], h => nomatch h
  | a :: as, b :: bs, h => by
    rw [List.map_cons, List.map_cons] at h
    injection h with h1 h2
    cases h1
    rw [ints_inj h2]
def dueV (d1 d2 d3 : Bool) : List V := [.bl d1, .bl d2, .bl d3]
def sp_law_spoiled (K : PySem.W.Frag) (C : Cs) : Sp := fun vs H Q _ => ∃ (a b : Addr) (ns gs : List Int), vs = [.ref a, .ref b] ∧ SqL K H a (ns.map V.int) ∧ SqL K H b (gs.map V.int) ∧ gs.length ≤ 63 ∧ gs.Nodup ∧ (∀ g ∈ gs, isG (.int g) = true) ∧
  ∀ (H' : Hp) (t pS pD : Addr) (n : Nat) (xs : List V) (d1 d2 d3 : Bool), Same H H' → H' t = some (.lst [.ref pS, .int n, .ref pD]) → H' pS = some (.lst xs) → H' pD = some (.lst (dueV d1 d2 d3)) → xs.length ≤ 100 → 2 ≤ n → n ≤ 1024 → xs.all okV = true → (∀ x ∈ xs, ∃ s, tyOf H' x = some s) →
    ((d1 = false ∧ d2 = false ∧ d3 = false) ∨ ∃ k, Why xs n k ∧ dueV d1 d2 d3 = [.bl (decide (k = .noGuest)), .bl (decide (k = .twice)), .bl (decide (k = .full))]) → Q (.ref t) H'
theorem ins_not {gs : List Int} {g : Int} (h : g ∈ gs) (i : Nat) : ¬ (gs.take i ++ [g] ++ gs.drop i).Nodup := fun nd => by
  rw [List.append_assoc] at nd
  have hg := h
  rw [← List.take_append_drop i gs] at hg
  obtain ⟨n1, n2, n3⟩ := List.nodup_append.mp nd
  rcases List.mem_append.mp hg with z | z
  · exact n3 g z g (by simp) rfl
  · exact (List.nodup_cons.mp n2).1 z
theorem max_is {i j : Int} : ∃ m, m = (if j > i then j else i) ∧ i ≤ m ∧ j ≤ m ∧ (m = i ∨ m = j) := ⟨_, rfl, by split <;> omega, by split <;> omega, by split <;> omega⟩
def sp_law0 (K : PySem.W.Frag) : Sp := fun vs H Q _ => ∃ (a : Addr) (ns : List Int), vs = [.ref a] ∧ SqL K H a (ns.map V.int) ∧ ns.length ≤ 63 ∧ ∀ H', Q (.bl true) H'
def sp_law (K : PySem.W.Frag) (C : Cs) : Sp := sp_law0 K
theorem rfK_flD (k : Ek) : (rfK k).all flD = true := rfl
theorem ints_ty {H : Hp} {gs : List Int} : ∀ x ∈ gs.map V.int, ∃ s, tyOf H x = some s := fun x hx => by
  obtain ⟨g, _, rfl⟩ := List.mem_map.mp hx; exact ⟨_, rfl⟩
theorem ints_bad {gs : List Int} (hg : ∀ g ∈ gs, isG (.int g) = true) : ¬ ∃ x ∈ gs.map V.int, isG x = false := fun ⟨x, hx, e⟩ => by
  obtain ⟨g, hm, rfl⟩ := List.mem_map.mp hx
  rw [hg g hm] at e; cases e
theorem sT_tot {n : Nat} {f : Nat → Option Int} : ∀ k, k ≤ n → sT n f k = Ring.tot (Ring.cT n (hm n)) f k ∧ sS n f k = Ring.tot (Ring.cS n (hm n)) f k
  | 0, _ => ⟨rfl, rfl⟩
  | k + 1, h => by
    obtain ⟨h1, h2⟩ := sT_tot (n := n) (f := f) k (by omega)
    unfold sT sS Ring.tot
    cases f k with
    | none => exact ⟨h1, h2⟩
    | some g =>
      show sT n f k + farI g k n = _ + (Ring.far n (hm n g) k : Int) ∧ sS n f k + farI g k n * farI g k n = _ + (Ring.far n (hm n g) k : Int) * (Ring.far n (hm n g) k : Int)
      rw [far_is (by omega), h1, h2]; exact ⟨rfl, rfl⟩
theorem sM_lo {n : Nat} {f : Nat → Option Int} : ∀ k, 0 ≤ sM n f k
  | 0 => Int.le_refl 0
  | k + 1 => by
    have ih := sM_lo (n := n) (f := f) k
    unfold sM
    cases f k with
    | none => exact ih
    | some g => show 0 ≤ if farI g k n > sM n f k then farI g k n else sM n f k; split <;> omega
theorem sM_ge {n : Nat} {f : Nat → Option Int} : ∀ k, k ≤ n → ∀ p g, p < k → f p = some g → (Ring.far n (hm n g) p : Int) ≤ sM n f k
  | 0, _, p, g, hp, _ => absurd hp (Nat.not_lt_zero _)
  | k + 1, h, p, g, hp, e => by
    have ih := sM_ge (n := n) (f := f) k (by omega) p g
    unfold sM
    by_cases w : p = k
    · subst w; rw [e]
      show _ ≤ if farI g p n > sM n f p then farI g p n else sM n f p
      rw [far_is (by omega)]; split <;> omega
    · have := ih (by omega) e
      cases f k with
      | none => exact this
      | some y => show _ ≤ if farI y k n > sM n f k then farI y k n else sM n f k; split <;> omega
theorem sM_le {n : Nat} {f : Nat → Option Int} {m : Int} (h0 : 0 ≤ m) : ∀ k, k ≤ n → (∀ p g, p < k → f p = some g → (Ring.far n (hm n g) p : Int) ≤ m) → sM n f k ≤ m
  | 0, _, _ => h0
  | k + 1, h, hall => by
    have ih := sM_le (n := n) (f := f) h0 k (by omega) fun p g hp => hall p g (by omega)
    unfold sM
    cases e : f k with
    | none => exact ih
    | some g =>
      have := hall k g (by omega) e
      show (if farI g k n > sM n f k then farI g k n else sM n f k) ≤ m
      rw [far_is (by omega)]; split <;> omega
theorem s_ext {n : Nat} {f v : Nat → Option Int} (h : ∀ p, p < n → f p = v p) : ∀ k, k ≤ n → sT n f k = sT n v k ∧ sM n f k = sM n v k ∧ sS n f k = sS n v k
  | 0, _ => ⟨rfl, rfl, rfl⟩
  | k + 1, hk => by
    obtain ⟨h1, h2, h3⟩ := s_ext h k (by omega)
    unfold sT sM sS
    rw [h k (by omega), h1, h2, h3]
    cases v k <;> exact ⟨rfl, rfl, rfl⟩
/-- point 12: the settled seating against the first come -/
theorem fair {n : Nat} {gs : List Int} {u s : Nat → Option Int} (hn : 0 < n) (O : Tok n gs u gs.length) (S : Seat n s gs) (hg : ∀ g ∈ gs, isG (.int g) = true) :
    sT n s n = sT n u n ∧ sM n s n ≤ sM n u n ∧ sS n s n ≤ sS n u n ∧ ∀ p, p < n → (s p = none ↔ u p = none) := by
  have hh := hm_lt hn
  have ost : ∀ x, Ring.Sits n u x ↔ x ∈ gs := fun x => by rw [O.st x, List.take_length]
  obtain ⟨v, P, nn, st, tT, tS, tM⟩ := Ring.settle hh _ _ u O.L O.O (fun q g hq e => (isG_is (hg g ((ost g).mp ⟨q, hq, e⟩))).1) rfl rfl
  have em := S.em hn
  have hv : ∀ p, p < n → s p = v p := by
    have V : Seat n v gs := ⟨P, S.nd, fun x => (st x).trans (ost x), S.lt, S.g⟩
    exact fun p hp => row_inj (Seat.one hn S V fun _ => Iff.rfl) p hp
  obtain ⟨e1, e2, e3⟩ := s_ext hv n (Nat.le_refl _)
  obtain ⟨f1, f2⟩ := sT_tot (n := n) (f := v) n (Nat.le_refl _)
  obtain ⟨g1, g2⟩ := sT_tot (n := n) (f := u) n (Nat.le_refl _)
  refine ⟨by rw [e1, f1, g1, tT], ?_, by rw [e3, f2, g2]; exact tS, fun p hp => by rw [hv p hp]; exact nn p⟩
  rw [e2]
  refine sM_le (sM_lo n) n (Nat.le_refl _) fun p g hp e => ?_
  have := tM (sM n u n).toNat (fun q g hq e => by have := sM_ge (n := n) (f := u) n (Nat.le_refl _) q g hq e; omega) p g hp e
  have := sM_lo (n := n) (f := u) n
  omega
/-- the seats filled, in order -/
theorem plp_seats {f : Nat → Option Int} : ∀ {k : Nat}, (plp f k).map (·.2) = (List.range k).filter (fun p => (f p).isSome)
  | 0 => rfl
  | k + 1 => by
    rw [plp_next, List.map_append, plp_seats (k := k), List.range_succ, List.filter_append]
    cases e : f k <;> simp [e]
theorem plK_keys {l : List (Int × Nat)} : (plK l).map (·.1) = (l.map (·.1)).map Sum.inl := by
  unfold plK; rw [List.map_map, List.map_map]; rfl
theorem plK_vals {l : List (Int × Nat)} : (plK l).map (·.2) = ((l.map (·.2)).map fun p : Nat => (p : Int)).map V.int := by
  unfold plK; rw [List.map_map, List.map_map, List.map_map]; rfl
end RS
namespace RS
open PySem PySem.Spec PyProof.Rows L2
def t_is_guest (K : PySem.W.Frag) (C : Cs) (E : XK) : TS :=
  (tSeq (tIfS (tOr (tNot (tB (tCB (rIsA .int) (tCons (tVar 0) (tCons (tC (.ty "int")) tNil))))) (tB (tCB (rIsA .bool) (tCons (tVar 0) (tCons (tC (.ty "bool")) tNil))))) (tRet (tC (.bl false))) tNext)
    (tRet (tAndV (tOp rLe (tC (.int 0)) (tVar 0)) (tOp rLt (tVar 0) (tC (.int 1000000000000000000000000000000000000000000000000000000000000))))))
def t_home (K : PySem.W.Frag) (C : Cs) (E : XK) : TS :=
  (tRet (tOp rMod (tOp rMod (tOp rAdd (tOp rMul (tVar 0) (tC (.int 40503))) (tOp rFdv (tVar 0) (tC (.int 65536)))) (tC (.int 65536))) (tVar 1)))
def t_carried (K : PySem.W.Frag) (C : Cs) (E : XK) : TS :=
  (tRet (tOp rMod (tOp rSub (tVar 1) (tCall (sp_home K C) [] E0 (tCons (tVar 0) (tCons (tVar 2) tNil)))) (tVar 2)))
def t_ahead (K : PySem.W.Frag) (C : Cs) (E : XK) : TS :=
  (tSeq (tAsg (tCall (sp_carried K C) [] E0 (tCons (tVar 0) (tCons (tVar 2) (tCons (tVar 3) tNil)))) (gName 4))
    (tSeq (tAsg (tCall (sp_carried K C) [] E0 (tCons (tVar 1) (tCons (tVar 2) (tCons (tVar 3) tNil)))) (gName 5))
    (tSeq (tIfS (tTest (tOp rNe (tVar 4) (tVar 5))) (tRet (tOp rGt (tVar 4) (tVar 5))) tNext)
    (tRet (tOp rLt (tVar 0) (tVar 1))))))
def t_strain_b1 (K : PySem.W.Frag) (C : Cs) (E : XK) : TS :=
  (tIfS (tB (tNotN (tVar 5))) (tSeq (tAsg (tCall (sp_carried K C) [] E0 (tCons (tVar 5) (tCons (tVar 4) (tCons (tCB (rLenS K) (tCons (tVar 0) tNil)) tNil)))) (gName 6))
    (tSeq (tAsg (tOp rAdd (tVar 1) (tVar 6)) (gName 1))
    (tSeq (tAsg (tCB rMax2 (tCons (tVar 2) (tCons (tVar 6) tNil))) (gName 2))
    (tAsg (tOp rAdd (tVar 3) (tOp rMul (tVar 6) (tVar 6))) (gName 3))))) tNext)
def t_strain (K : PySem.W.Frag) (C : Cs) (E : XK) : TS :=
  (tSeq (tAsg (tC (.int 0)) (gName 1))
    (tSeq (tAsg (tC (.int 0)) (gName 2))
    (tSeq (tAsg (tC (.int 0)) (gName 3))
    (tSeq (tFor (iEnum K (tCons (tVar 0) tNil)) (gTup K 2 (gCons (gName 4) (gCons (gName 5) gNil))) (t_strain_b1 K C E))
    (tRet (tTup (tCons (tVar 1) (tCons (tVar 2) (tCons (tVar 3) tNil)))))))))
def t_look_for_b1 (K : PySem.W.Frag) (C : Cs) (E : XK) : TS :=
  (tSeq (tAsg (tOp rMod (tOp rAdd (tVar 3) (tC (.int 1))) (tVar 2)) (gName 3))
    (tAsg (tOp rAdd (tVar 4) (tC (.int 1))) (gName 4)))
def t_look_for (K : PySem.W.Frag) (C : Cs) (E : XK) : TS :=
  (tSeq (tIfS (tNot (tB (tCall (sp_is_guest K C) [] E0 (tCons (tVar 1) tNil)))) (fun _ _ H => E (.ref C.cNoGuest) none H) tNext)
    (tSeq (tAsg (tCB (rLenS K) (tCons (tVar 0) tNil)) (gName 2))
    (tSeq (tAsg (tCall (sp_home K C) [] E0 (tCons (tVar 1) (tCons (tVar 2) tNil))) (gName 3))
    (tSeq (tAsg (tC (.int 1)) (gName 4))
    (tSeq (tWhile (tAnd (tB (tNotN (tOp (rIxL K) (tVar 0) (tVar 3)))) (tB (tCall (sp_ahead K C) [] E0 (tCons (tOp (rIxL K) (tVar 0) (tVar 3)) (tCons (tVar 1) (tCons (tVar 3) (tCons (tVar 2) tNil))))))) (t_look_for_b1 K C E))
    (tRet (tTup (tCons (tVar 3) (tCons (tVar 4) tNil)))))))))
def t_take_seat_b1 (K : PySem.W.Frag) (C : Cs) (E : XK) : TS :=
  (tSeq (tAsg (tOp (rIxL K) (tVar 0) (tVar 2)) (gName 4))
    (tSeq (tAsg (tVar 1) (gSub (tVar 0) (tVar 2) rSetL))
    (tSeq (tAsg (tVar 4) (gName 1))
    (tAsg (tOp rMod (tOp rAdd (tVar 2) (tC (.int 1))) (tCB (rLenS K) (tCons (tVar 0) tNil))) (gName 2)))))
def t_take_seat (K : PySem.W.Frag) (C : Cs) (E : XK) : TS :=
  (tSeq (tAsg (tOp (rIxT K) (tCall (sp_look_for K C) [] E (tCons (tVar 0) (tCons (tVar 1) tNil))) (tC (.int 0))) (gName 2))
    (tSeq (tAsg (tVar 2) (gName 3))
    (tSeq (tWhile (tB (tNotN (tVar 1))) (t_take_seat_b1 K C E))
    (tRet (tVar 3)))))
def t_looked_through_b1 (K : PySem.W.Frag) (C : Cs) (E : XK) : TS :=
  (tIfS (tNot (tB (tCall (sp_is_guest K C) [] E0 (tCons (tVar 2) tNil)))) (fun _ _ H => E (.ref C.cNoGuest) none H) tNext)
def t_looked_through (K : PySem.W.Frag) (C : Cs) (E : XK) : TS :=
  (tSeq (tFor (iList K (tVar 0)) (gName 2) (t_looked_through_b1 K C E))
    (tSeq (tIfS (tTest (tOp rLt (tLenSet K (tVar 0)) (tCB (rLenS K) (tCons (tVar 0) tNil)))) (fun _ _ H => E (.ref C.cTwice) none H) tNext)
    (tIfS (tTest (tOp rGe (tCB (rLenS K) (tCons (tVar 0) tNil)) (tVar 1))) (fun _ _ H => E (.ref C.cFull) none H) tNext)))
def t_seated_b1 (K : PySem.W.Frag) (C : Cs) (E : XK) : TS :=
  (tDrop (tCall (sp_take_seat K C) [] E (tCons (tVar 2) (tCons (tVar 3) tNil))))
def t_seated (K : PySem.W.Frag) (C : Cs) (E : XK) : TS :=
  (tSeq (tDrop (tCall (sp_looked_through K C) [] E (tCons (tVar 0) (tCons (tVar 1) tNil))))
    (tSeq (tAsg (tOp rRep (tLst (tCons (tC .non) tNil)) (tVar 1)) (gName 2))
    (tSeq (tFor (iList K (tVar 0)) (gName 3) (t_seated_b1 K C E))
    (tRet (tVar 2)))))
def t_first_come_b1 (K : PySem.W.Frag) (C : Cs) (E : XK) : TS :=
  (tAsg (tOp rMod (tOp rAdd (tVar 4) (tC (.int 1))) (tVar 1)) (gName 4))
def t_first_come_b2 (K : PySem.W.Frag) (C : Cs) (E : XK) : TS :=
  (tSeq (tAsg (tCall (sp_home K C) [] E0 (tCons (tVar 3) (tCons (tVar 1) tNil))) (gName 4))
    (tSeq (tWhile (tB (tNotN (tOp (rIxL K) (tVar 2) (tVar 4)))) (t_first_come_b1 K C E))
    (tAsg (tVar 3) (gSub (tVar 2) (tVar 4) rSetL))))
def t_first_come (K : PySem.W.Frag) (C : Cs) (E : XK) : TS :=
  (tSeq (tDrop (tCall (sp_looked_through K C) [] E (tCons (tVar 0) (tCons (tVar 1) tNil))))
    (tSeq (tAsg (tOp rRep (tLst (tCons (tC .non) tNil)) (tVar 1)) (gName 2))
    (tSeq (tFor (iList K (tVar 0)) (gName 3) (t_first_come_b2 K C E))
    (tRet (tVar 2)))))
def t_law_cell_at (K : PySem.W.Frag) (C : Cs) (E : XK) : TS :=
  (tSeq (tIfS (tTest (tOp rLt (tVar 1) (tCB (rLenS K) (tCons (tVar 0) tNil)))) (tRet (tOp (rIxL K) (tVar 0) (tVar 1))) tNext)
    (tRet (tC (.int 0))))
def t_law_whole (K : PySem.W.Frag) (C : Cs) (E : XK) : TS :=
  (tRet (tAndV (tCB (rIsA .int) (tCons (tVar 0) (tCons (tC (.ty "int")) tNil))) (tNotV (tCB (rIsA .bool) (tCons (tVar 0) (tCons (tC (.ty "bool")) tNil))))))
def t_law_home (K : PySem.W.Frag) (C : Cs) (E : XK) : TS :=
  (tRet (tOp rMod (tOp rMod (tOp rAdd (tOp rMul (tVar 0) (tC (.int 40503))) (tOp rFdv (tVar 0) (tC (.int 65536)))) (tC (.int 65536))) (tVar 1)))
def t_law_base (K : PySem.W.Frag) (C : Cs) (E : XK) : TS :=
  (tSeq (tIfS (tTest (tOp rEq (tOp rMod (tVar 0) (tC (.int 2))) (tC (.int 0)))) (tRet (tOp rMod (tOp rFdv (tVar 0) (tC (.int 2))) (tC (.int 10000000000000000000000000000000000000000000000000000000000)))) tNext)
    (tRet (tOp rMod (tOp rFdv (tVar 0) (tC (.int 2))) (tC (.int 70001)))))
def t_law_guest (K : PySem.W.Frag) (C : Cs) (E : XK) : TS :=
  (tSeq (tAsg (tOp rFdv (tVar 0) (tC (.int 5))) (gName 2))
    (tSeq (tIfS (tTest (tOp rEq (tOp rMod (tVar 0) (tC (.int 5))) (tC (.int 0)))) (tRet (tOp rMod (tVar 2) (tC (.int 1000000000000000000000000000000000000000000000000000000000000)))) tNext)
    (tSeq (tIfS (tTest (tOp rEq (tOp rMod (tVar 0) (tC (.int 5))) (tC (.int 1)))) (tRet (tOp rMod (tVar 2) (tC (.int 400)))) tNext)
    (tSeq (tIfS (tTest (tOp rEq (tOp rMod (tVar 0) (tC (.int 5))) (tC (.int 2)))) (tRet (tOp rAdd (tVar 1) (tOp rMul (tC (.int 4294967296)) (tOp rMod (tVar 2) (tC (.int 10000000000000000000000000000000000000000)))))) tNext)
    (tSeq (tIfS (tTest (tOp rEq (tOp rMod (tVar 0) (tC (.int 5))) (tC (.int 3)))) (tRet (tOp rAdd (tVar 1) (tOp rMul (tC (.int 65536)) (tOp rMod (tVar 2) (tC (.int 12)))))) tNext)
    (tRet (tOp rAdd (tOp rAdd (tVar 1) (tOp rMul (tC (.int 65536)) (tOp rMod (tVar 2) (tC (.int 3))))) (tOp rMul (tC (.int 4294967296)) (tOp rMod (tOp rFdv (tVar 2) (tC (.int 3))) (tC (.int 7)))))))))))
def t_law_drawn_b1 (K : PySem.W.Frag) (C : Cs) (E : XK) : TS :=
  (sDPut (tVar 2) (tCall (sp_law_guest K C) [] E0 (tCons (tVar 3) (tCons (tVar 1) tNil))) (tC (.bl true)))
def t_law_drawn (K : PySem.W.Frag) (C : Cs) (E : XK) : TS :=
  (tSeq (tAsg tDNewK (gName 2))
    (tSeq (tFor (iList K (tVar 0)) (gName 3) (t_law_drawn_b1 K C E))
    (tRet (tCB rListD (tCons (tVar 2) tNil)))))
def t_law_places_b1 (K : PySem.W.Frag) (C : Cs) (E : XK) : TS :=
  (tIfS (tB (tNotN (tVar 4))) (tSeq (tIfS (tOr (tNot (tB (tCall (sp_law_whole K C) [] E0 (tCons (tVar 4) tNil)))) (tB (tDIn (tVar 4) (tVar 2)))) (tRet (tC .non)) tNext)
    (sDPut (tVar 2) (tVar 4) (tVar 3))) tNext)
def t_law_places (K : PySem.W.Frag) (C : Cs) (E : XK) : TS :=
  (tSeq (tIfS (tOr (tNot (tB (tCB (rIsA .list) (tCons (tVar 0) (tCons (tC (.ty "list")) tNil))))) (tTest (tOp rNe (tCB (rLenS K) (tCons (tVar 0) tNil)) (tVar 1)))) (tRet (tC .non)) tNext)
    (tSeq (tAsg tDNewK (gName 2))
    (tSeq (tFor (iEnum K (tCons (tVar 0) tNil)) (gTup K 2 (gCons (gName 3) (gCons (gName 4) gNil))) (t_law_places_b1 K C E))
    (tRet (tVar 2)))))
def t_law_in_turn_b1 (K : PySem.W.Frag) (C : Cs) (E : XK) : TS :=
  (tAsg (tOp rMod (tOp rAdd (tVar 5) (tC (.int 1))) (tVar 2)) (gName 5))
def t_law_in_turn_b2 (K : PySem.W.Frag) (C : Cs) (E : XK) : TS :=
  (tSeq (tAsg (tCall (sp_law_home K C) [] E0 (tCons (tVar 4) (tCons (tVar 2) tNil))) (gName 5))
    (tSeq (tWhile (tB (tDIn (tVar 5) (tVar 3))) (t_law_in_turn_b1 K C E))
    (tSeq (tIfS (tTest (tOp rNe (tDGet1 (tVar 1) (tVar 4)) (tVar 5))) (tRet (tC (.bl false))) tNext)
    (sDPut (tVar 3) (tVar 5) (tC (.bl true))))))
def t_law_in_turn (K : PySem.W.Frag) (C : Cs) (E : XK) : TS :=
  (tSeq (tAsg tDNewK (gName 3))
    (tSeq (tFor (iList K (tVar 0)) (gName 4) (t_law_in_turn_b2 K C E))
    (tRet (tOp rEq (tCB rLenD (tCons (tVar 1) tNil)) (tCB (rLenS K) (tCons (tVar 0) tNil))))))
def t_law_sums_b1 (K : PySem.W.Frag) (C : Cs) (E : XK) : TS :=
  (tSeq (tAsg (tOp rMod (tOp rSub (tVar 6) (tCall (sp_law_home K C) [] E0 (tCons (tVar 5) (tCons (tVar 1) tNil)))) (tVar 1)) (gName 7))
    (tSeq (tAsg (tOp rAdd (tVar 2) (tVar 7)) (gName 2))
    (tSeq (tAsg (tOp rAdd (tVar 4) (tOp rMul (tVar 7) (tVar 7))) (gName 4))
    (tIfS (tTest (tOp rGt (tVar 7) (tVar 3))) (tAsg (tVar 7) (gName 3)) tNext))))
def t_law_sums (K : PySem.W.Frag) (C : Cs) (E : XK) : TS :=
  (tSeq (tAsg (tC (.int 0)) (gName 2))
    (tSeq (tAsg (tC (.int 0)) (gName 3))
    (tSeq (tAsg (tC (.int 0)) (gName 4))
    (tSeq (tLock (tFor (iItems (tVar 0)) (gTup K 2 (gCons (gName 5) (gCons (gName 6) gNil))) (t_law_sums_b1 K C E)))
    (tRet (tLst (tCons (tVar 2) (tCons (tVar 3) (tCons (tVar 4) tNil)))))))))
def t_law_told_b1 (K : PySem.W.Frag) (C : Cs) (E : XK) : TS :=
  (tIfS (tOr (tNot (tB (tCall (sp_law_whole K C) [] E0 (tCons (tVar 2) tNil)))) (tTest (tOp rNe (tVar 2) (tVar 3)))) (tRet (tC (.bl false))) tNext)
def t_law_told (K : PySem.W.Frag) (C : Cs) (E : XK) : TS :=
  (tSeq (tIfS (tOr (tNot (tB (tCB (rIsA .tuple) (tCons (tVar 0) (tCons (tC (.ty "tuple")) tNil))))) (tTest (tOp rNe (tCB (rLenS K) (tCons (tVar 0) tNil)) (tC (.int 3))))) (tRet (tC (.bl false))) tNext)
    (tSeq (tFor (iZipM K (tCons (tVar 0) (tCons (tVar 1) tNil))) (gTup K 2 (gCons (gName 2) (gCons (gName 3) gNil))) (t_law_told_b1 K C E))
    (tRet (tC (.bl true)))))
def t_law_odd (K : PySem.W.Frag) (C : Cs) (E : XK) : TS :=
  (tSeq (tAsg (tOp rMod (tOp rFdv (tVar 0) (tC (.int 13))) (tC (.int 10000000000000000000000000000000000000000))) (gName 1))
    (tSeq (tAsg (tLst (tCons (tC (.bl true)) (tCons (tC (.bl false)) (tCons (tC .non) (tCons (tC (.str (PySem.Str.ofString ""))) (tCons (tC (.str (PySem.Str.ofString "7"))) (tCons (tLst (tCons (tC (.int 7)) tNil)) (tCons (tTup (tCons (tC (.int 7)) tNil)) (tCons tDNewK (tCons (tUn rNeg (tC (.int 1))) (tCons (tC (.int 1000000000000000000000000000000000000000000000000000000000000)) (tCons (tOp rSub (tUn rNeg (tC (.int 2))) (tVar 1)) (tCons (tOp rAdd (tOp rAdd (tC (.int 1000000000000000000000000000000000000000000000000000000000000)) (tC (.int 1))) (tVar 1)) (tCons (tLst tNil) tNil)))))))))))))) (gName 2))
    (tRet (tOp (rIxL K) (tVar 2) (tOp rMod (tVar 0) (tC (.int 13)))))))
def t_law_refused_b1_try (K : PySem.W.Frag) (C : Cs) (E : XK) : WX → TS :=
  fun W => (tDrop (tCallS (sp_first_come K C) (WE W) (tCons (tVar 0) (tCons (tVar 1) tNil))))
def t_law_refused_b1_exc (K : PySem.W.Frag) (C : Cs) (E : XK) : Addr → Value → Option Addr → TS :=
  fun a cls d => (tSeq (tAsg (tLst (tCons (tCB (rIsX C cls d a) (tCons (tVar 2) (tCons (tC (.ref C.cNoGuest)) tNil))) (tCons (tCB (rIsX C cls d a) (tCons (tVar 2) (tCons (tC (.ref C.cTwice)) tNil))) (tCons (tCB (rIsX C cls d a) (tCons (tVar 2) (tCons (tC (.ref C.cFull)) tNil))) tNil)))) (gName 3))
    (tSeq (tAsg (tOrV (tCB (rIsX C cls d a) (tCons (tVar 2) (tCons (tC (.ref C.cAway)) tNil))) (tCB (rIsX C cls d a) (tCons (tVar 2) (tCons (tC (.ref C.cNoSize)) tNil)))) (gName 4))
    (tRet (tOp rCat (tVar 3) (tLst (tCons (tAndV (tCB (rIsX C cls d a) (tCons (tVar 2) (tCons (tC (.ty "ValueError")) tNil))) (tNotV (tVar 4))) tNil))))))
def t_law_refused (K : PySem.W.Frag) (C : Cs) (E : XK) : TS :=
  (tSeq (tTryAs K C 2 (t_law_refused_b1_try K C E) (t_law_refused_b1_exc K C E) W0)
    (tRet (tLst tNil)))
def t_law_spoiled (K : PySem.W.Frag) (C : Cs) (E : XK) : TS :=
  (tSeq (tAsg (tOp rMod (tCall (sp_law_cell_at K C) [] E0 (tCons (tVar 0) (tCons (tC (.int 1)) tNil))) (tC (.int 8))) (gName 2))
    (tSeq (tAsg (tCB (rListS K) (tCons (tVar 1) tNil)) (gName 3))
    (tSeq (tAsg (tAndV (tOp rEq (tOp rMod (tOp rFdv (tVar 2) (tC (.int 2))) (tC (.int 2))) (tC (.int 1))) (tOp rGt (tCB (rLenS K) (tCons (tVar 1) tNil)) (tC (.int 0)))) (gName 4))
    (tSeq (tIfS (tB (tVar 4)) (tDrop (tBM K "list" rInsert (tVar 3) (tCons (tOp rMod (tCall (sp_law_cell_at K C) [] E0 (tCons (tVar 0) (tCons (tC (.int 2)) tNil))) (tOp rAdd (tCB (rLenS K) (tCons (tVar 1) tNil)) (tC (.int 1)))) (tCons (tOp (rIxL K) (tVar 1) (tOp rMod (tCall (sp_law_cell_at K C) [] E0 (tCons (tVar 0) (tCons (tC (.int 3)) tNil))) (tCB (rLenS K) (tCons (tVar 1) tNil)))) tNil)))) tNext)
    (tSeq (tIfS (tTest (tOp rEq (tOp rMod (tVar 2) (tC (.int 2))) (tC (.int 1)))) (tDrop (tBM K "list" rInsert (tVar 3) (tCons (tOp rMod (tOp rFdv (tCall (sp_law_cell_at K C) [] E0 (tCons (tVar 0) (tCons (tC (.int 3)) tNil))) (tC (.int 89))) (tOp rAdd (tCB (rLenS K) (tCons (tVar 3) tNil)) (tC (.int 1)))) (tCons (tCall (sp_law_odd K C) [] E0 (tCons (tCall (sp_law_cell_at K C) [] E0 (tCons (tVar 0) (tCons (tC (.int 4)) tNil))) tNil)) tNil)))) tNext)
    (tSeq (tAsg (tCB rMax2 (tCons (tC (.int 2)) (tCons (tOp rAdd (tOp rAdd (tCB (rLenS K) (tCons (tVar 3) tNil)) (tC (.int 1))) (tOp rMod (tOp rFdv (tCall (sp_law_cell_at K C) [] E0 (tCons (tVar 0) (tCons (tC (.int 4)) tNil))) (tC (.int 1009))) (tC (.int 5)))) tNil))) (gName 5))
    (tSeq (tAsg (tAndV (tOp rEq (tOp rFdv (tVar 2) (tC (.int 4))) (tC (.int 1))) (tOp rGt (tCB (rLenS K) (tCons (tVar 3) tNil)) (tC (.int 1)))) (gName 6))
    (tSeq (tIfS (tB (tVar 6)) (tAsg (tCB rMax2 (tCons (tC (.int 2)) (tCons (tOp rSub (tCB (rLenS K) (tCons (tVar 3) tNil)) (tOp rMod (tOp rFdv (tCall (sp_law_cell_at K C) [] E0 (tCons (tVar 0) (tCons (tC (.int 4)) tNil))) (tC (.int 1009))) (tC (.int 5)))) tNil))) (gName 5)) tNext)
    (tSeq (tAsg (tLst (tCons (tOp rEq (tOp rMod (tVar 2) (tC (.int 2))) (tC (.int 1))) (tCons (tAndV (tOp rEq (tOp rMod (tVar 2) (tC (.int 2))) (tC (.int 0))) (tVar 4)) (tCons (tAndV (tOp rEq (tOp rMod (tVar 2) (tC (.int 2))) (tC (.int 0))) (tAndV (tNotV (tVar 4)) (tVar 6))) tNil)))) (gName 7))
    (tRet (tLst (tCons (tVar 3) (tCons (tVar 5) (tCons (tVar 7) tNil))))))))))))))
def t_law (K : PySem.W.Frag) (C : Cs) (E : XK) : TS :=
  (tSeq (tAsg (tCall (sp_law_drawn K C) [] E0 (tCons (tSl (rSlL K) (tVar 0) (tPart (tC (.int 5))) (tPart (tC (.int 89)))) (tCons (tCall (sp_law_base K C) [] E0 (tCons (tCall (sp_law_cell_at K C) [] E0 (tCons (tVar 0) (tCons (tC (.int 0)) tNil))) tNil)) tNil))) (gName 1))
    (tSeq (tAsg (tCall (sp_law_spoiled K C) [] E0 (tCons (tVar 0) (tCons (tVar 1) tNil))) (gLst K 3 (gCons (gName 2) (gCons (gName 3) (gCons (gName 4) gNil)))))
    (tSeq (tAsg (tCB (rListS K) (tCons (tVar 2) tNil)) (gName 5))
    (tSeq (tIfS (tAnd (tTest (tOp (rIn K false) (tC (.bl true)) (tVar 4))) (tOr (tTest (tOp (rNeD K) (tCall (sp_law_refused K C) [] E0 (tCons (tVar 2) (tCons (tVar 3) tNil))) (tOp rCat (tVar 4) (tLst (tCons (tC (.bl true)) tNil))))) (tTest (tOp (rNeS K) (tVar 2) (tVar 5))))) (tRet (tC (.bl false))) tNext)
    (tSeq (tAsg (tCB rMax2 (tCons (tC (.int 2)) (tCons (tOp rAdd (tOp rAdd (tCB (rLenS K) (tCons (tVar 1) tNil)) (tC (.int 1))) (tOp rMod (tOp rFdv (tCall (sp_law_cell_at K C) [] E0 (tCons (tVar 0) (tCons (tC (.int 2)) tNil))) (tC (.int 101))) (tC (.int 40)))) tNil))) (gName 3))
    (tSeq (tIfS (tTest (tOp rEq (tOp rMod (tCall (sp_law_cell_at K C) [] E0 (tCons (tVar 0) (tCons (tC (.int 2)) tNil))) (tC (.int 8))) (tC (.int 3)))) (tAsg (tCB rMax2 (tCons (tC (.int 2)) (tCons (tOp rAdd (tOp rAdd (tCB (rLenS K) (tCons (tVar 1) tNil)) (tC (.int 1))) (tOp rMod (tOp rFdv (tCall (sp_law_cell_at K C) [] E0 (tCons (tVar 0) (tCons (tC (.int 2)) tNil))) (tC (.int 101))) (tOp rSub (tC (.int 1024)) (tCB (rLenS K) (tCons (tVar 1) tNil))))) tNil))) (gName 3)) tNext)
    (tSeq (tAsg (tCB (rListS K) (tCons (tVar 1) tNil)) (gName 6))
    (tSeq (tAsg (tCall (sp_first_come K C) [] E0 (tCons (tVar 6) (tCons (tVar 3) tNil))) (gName 7))
    (tSeq (tAsg (tCall (sp_law_places K C) [] E0 (tCons (tVar 7) (tCons (tVar 3) tNil))) (gName 8))
    (tSeq (tIfS (tOr (tTest (tOp (rNeD K) (tVar 6) (tVar 1))) (tOr (tB (tIsN (tVar 8))) (tNot (tB (tCall (sp_law_in_turn K C) [] E0 (tCons (tVar 1) (tCons (tVar 8) (tCons (tVar 3) tNil)))))))) (tRet (tC (.bl false))) tNext)
    (tSeq (tAsg (tCB (rListS K) (tCons (tVar 7) tNil)) (gName 9))
    (tSeq (tDrop (tBM0 K "list" rClear (tVar 6)))
    (tSeq (tAsg (tCall (sp_seated K C) [] E0 (tCons (tVar 1) (tCons (tVar 3) tNil))) (gName 10))
    (tSeq (tAsg (tCall (sp_law_places K C) [] E0 (tCons (tVar 10) (tCons (tVar 3) tNil))) (gName 11))
    (tSeq (tIfS (tOr (tB (tIsN (tVar 11))) (tOr (tTest (tOp (rNeD K) (tCB rSortedDI (tCons (tVar 11) tNil)) (tCB (rSortedI K) (tCons (tVar 1) tNil)))) (tTest (tOp (rNeD K) (tSortedVals (tVar 11)) (tSortedVals (tVar 8)))))) (tRet (tC (.bl false))) tNext)
    (tSeq (tAsg (tCall (sp_law_sums K C) [] E0 (tCons (tVar 8) (tCons (tVar 3) tNil))) (gName 12))
    (tSeq (tAsg (tCall (sp_law_sums K C) [] E0 (tCons (tVar 11) (tCons (tVar 3) tNil))) (gName 13))
    (tSeq (tIfS (tOr (tTest (tOp rNe (tOp (rIxL K) (tVar 13) (tC (.int 0))) (tOp (rIxL K) (tVar 12) (tC (.int 0))))) (tOr (tTest (tOp rGt (tOp (rIxL K) (tVar 13) (tC (.int 1))) (tOp (rIxL K) (tVar 12) (tC (.int 1))))) (tTest (tOp rGt (tOp (rIxL K) (tVar 13) (tC (.int 2))) (tOp (rIxL K) (tVar 12) (tC (.int 2))))))) (tRet (tC (.bl false))) tNext)
    (tRet (tAndV (tCall (sp_law_told K C) [] E0 (tCons (tCall (sp_strain K C) [] E0 (tCons (tVar 7) tNil)) (tCons (tVar 12) tNil))) (tAndV (tCall (sp_law_told K C) [] E0 (tCons (tCall (sp_strain K C) [] E0 (tCons (tVar 10) tNil)) (tCons (tVar 13) tNil))) (tOp (rEqD K) (tVar 7) (tVar 9)))))))))))))))))))))))
end RS
namespace RS
open PySem PySem.Spec PyProof.Rows L2
section
variable {K : PySem.W.Frag} {C : Cs} {vs : List V} {H : Hp} {Q : VK} {E : XK}
theorem len_is_guest (h : sp_is_guest K C vs H Q E) : vs.length = (["thing"] : List Str).length := by
  unfold sp_is_guest at h
  repeat (obtain ⟨_, h⟩ := h)
  subst_vars; rfl
theorem pure_is_guest (XF : Facts K C) (h : sp_is_guest K C vs H Q E) : t_is_guest K C E { nx := fun _ H' => Q .non H', rt := Q } (start ["thing"] vs) H := by
  obtain ⟨x, s, rfl, ht, q⟩ := h
  have big : ∀ i : Int, isG (.int i) = (decide (0 ≤ i) && decide (i < 1000000000000000000000000000000000000000000000000000000000000)) := fun _ => rfl
  by_cases hx : ∃ i, x = .int i
  · obtain ⟨i, rfl⟩ := hx
    show tSeq _ _ _ [some (.int i)] H
    rw [big] at q
    walk_at "run"
    by_cases h0 : 0 ≤ i
    · rw [if_pos h0]
      rw [decide_eq_true h0, Bool.true_and] at q
      exact q
    · rw [if_neg h0]
      rw [decide_eq_false h0, Bool.false_and] at q
      exact q
  · have e : isG x = false := by
      cases x with
      | int i => exact absurd ⟨i, rfl⟩ hx
      | _ => rfl
    rw [e] at q
    have hs : ∀ b, (Ty.isA s .int = b) → (b = false ∨ Ty.isA s .bool = true) := by
      intro b hb
      cases x with
      | int i => exact absurd ⟨i, rfl⟩ hx
      | bl b => cases ht; exact .inr rfl
      | non => cases ht; exact .inl hb.symm
      | str z => cases ht; exact .inl hb.symm
      | byt b => cases ht
      | flt b => cases ht
      | ty n => cases ht
      | ref a =>
        have h' : (H a).bind hoTy = some s := ht
        cases e : H a with
        | none => rw [e] at h'; cases h'
        | some o =>
          rw [e] at h'
          have h2 : hoTy o = some s := h'
          cases o with
          | lst xs => cases h2; exact .inl hb.symm
          | tup xs => cases h2; exact .inl hb.symm
          | dK kvs => cases h2; exact .inl hb.symm
          | frz ob u =>
            cases u with
            | lst xs => cases h2; exact .inl hb.symm
            | _ => cases h2
          | _ => cases h2
    show tSeq _ _ _ [some x] H
    refine if_step (b := true) (H' := H) (fun R h => ?_) (fun _ => ?_) (fun e => nomatch e)
    · simp only [tOr, tNot, tB, tCB, tCons, tNil, tVar, tC, rIsA]
      refine ⟨x, rfl, x, s, rfl, ht, s.isA .int, rfl, ?_⟩
      refine iteB (fun _ => h) fun e1 => ?_
      refine ⟨x, rfl, x, s, rfl, ht, s.isA .bool, rfl, ?_⟩
      rcases hs _ rfl with e2 | e2
      · rw [e2] at e1; cases e1
      · rw [e2]; exact h
    · exact q
theorem len_home (h : sp_home K C vs H Q E) : vs.length = (["guest", "many"] : List Str).length := by
  unfold sp_home at h
  repeat (obtain ⟨_, h⟩ := h)
  subst_vars; rfl
theorem pure_home (XF : Facts K C) (h : sp_home K C vs H Q E) : t_home K C E { nx := fun _ H' => Q .non H', rt := Q } (start ["guest", "many"] vs) H := by
  obtain ⟨g, n, rfl, h0, q⟩ := h
  show tRet _ _ [some (.int g), some (.int n)] H
  walk_at "run"
  exact ⟨h0, q⟩
theorem len_carried (h : sp_carried K C vs H Q E) : vs.length = (["guest", "at", "many"] : List Str).length := by
  unfold sp_carried at h
  repeat (obtain ⟨_, h⟩ := h)
  subst_vars; rfl
theorem pure_carried (XF : Facts K C) (h : sp_carried K C vs H Q E) : t_carried K C E { nx := fun _ H' => Q .non H', rt := Q } (start ["guest", "at", "many"] vs) H := by
  obtain ⟨g, p, n, rfl, h0, q⟩ := h
  show tRet _ _ [some (.int g), some (.int p), some (.int n)] H
  walk_at "run"; unfold sp_home; walk_at "run"
  exact ⟨h0, h0, q⟩
theorem len_ahead (h : sp_ahead K C vs H Q E) : vs.length = (["one", "other", "at", "many"] : List Str).length := by
  unfold sp_ahead at h
  repeat (obtain ⟨_, h⟩ := h)
  subst_vars; rfl
theorem pure_ahead (XF : Facts K C) (h : sp_ahead K C vs H Q E) : t_ahead K C E { nx := fun _ H' => Q .non H', rt := Q } (start ["one", "other", "at", "many", "here", "there"] vs) H := by
  obtain ⟨a, b, p, n, rfl, h0, q⟩ := h
  show tSeq _ _ _ [some (.int a), some (.int b), some (.int p), some (.int n), none, none] H
  walk_at "run"; unfold sp_carried; walk_at "run"
  refine ⟨h0, h0, ?_⟩
  by_cases e : farI a p n = farI b p n
  · rw [if_neg (not_not_intro e)]
    rw [show decide (a < b) = aheadI a b p n from decide_eq_decide.mpr ⟨fun h => .inr ⟨e, h⟩, fun h => by omega⟩]
    exact q
  · rw [if_pos e]
    rw [show decide (farI a p n > farI b p n) = aheadI a b p n from decide_eq_decide.mpr ⟨fun h => .inl h, fun h => by omega⟩]
    exact q
theorem len_strain (h : sp_strain K C vs H Q E) : vs.length = (["seats"] : List Str).length := by
  unfold sp_strain at h
  repeat (obtain ⟨_, h⟩ := h)
  subst_vars; rfl
theorem pure_strain (XF : Facts K C) (h : sp_strain K C vs H Q E) : t_strain K C E { nx := fun _ H' => Q .non H', rt := Q } (start ["seats", "together", "farthest", "squares", "at", "guest", "far"] vs) H := by
  obtain ⟨a, n, f, rfl, hS, hn, q⟩ := h
  show tSeq _ _ _ [some (.ref a), none, none, none, none, none, none] H
  refine asg_step (v := .int 0) (H' := H) (fun R h => h) ?_
  walk_at "nxt"
  refine asg_step (v := .int 0) (H' := H) (fun R h => h) ?_
  walk_at "nxt"
  refine asg_step (v := .int 0) (H' := H) (fun R h => h) ?_
  walk_at "nxt"
  refine for_enum (a := a) (xs := row n f) (H' := H) (fun R h => ?_) hS (fun k σ H' => Same H H' ∧ ∃ x y z, σ = [some (.ref a), some (.int (sT n f k)), some (.int (sM n f k)), some (.int (sS n f k)), x, y, z])
    ⟨Same.refl _, _, _, _, rfl⟩ (fun k σ H' ⟨s, _⟩ => s.seq hS) ?_ ?_
  · walk_at "run"; exact h
  · rintro k v σ H' hk ⟨sm, x, y, z, rfl⟩ T hT
    obtain ⟨hk, rfl⟩ := row_some hk
    have s1 := same_new (o := .tup [.int (k : Nat), ov (f k)]) hT
    have e1 : upd H' T (.tup [.int (k : Nat), ov (f k)]) T = some (.tup [.int (k : Nat), ov (f k)]) := upd_same
    revert s1 e1
    generalize upd H' T (.tup [.int (k : Nat), ov (f k)]) = H2
    intro s1 e1
    refine ⟨T, _, rfl, .inl (.inl e1), rfl, ?_⟩
    walk_at "run"
    unfold t_strain_b1
    cases hy : f k with
    | none =>
      refine if_step (b := false) (H' := H2) (fun R h => ?_) (fun z => nomatch z) (fun _ => ?_)
      · walk_at "run"; exact h
      refine ⟨sm.trans s1, some (.int k), some (ov none), z, ?_⟩
      simp only [sT, sM, sS, hy]
    | some g =>
      refine if_step (b := true) (H' := H2) (fun R h => ?_) (fun _ => ?_) (fun z => nomatch z)
      · walk_at "run"; exact h
      refine asg_step (v := .int (farI g k n)) (H' := H2) (fun R h => ?_) ?_
      · walk_at "run"; refine ⟨_, .inl (s1.seq (sm.seq hS)), ?_⟩
        unfold sp_carried; walk_at "run"
        rw [row_len]; exact ⟨by omega, h⟩
      walk_at "nxt"
      refine asg_step (v := .int (sT n f k + farI g k n)) (H' := H2) (fun R h => ?_) ?_
      · walk_at "run"; exact h
      walk_at "nxt"
      refine asg_step (v := .int (if farI g k n > sM n f k then farI g k n else sM n f k)) (H' := H2) (fun R h => ?_) ?_
      · walk_at "run"; exact h
      walk_at "nxt"
      refine asg_step (v := .int (sS n f k + farI g k n * farI g k n)) (H' := H2) (fun R h => ?_) ?_
      · walk_at "run"
        have h0 := farI_lo (g := g) (p := k) (n := n) (by omega)
        have h1 := farI_hi (g := g) (p := k) (n := n) (by omega)
        exact ⟨.inl ⟨by omega, by omega⟩, h⟩
      refine ⟨sm.trans s1, some (.int k), some (ov (some g)), some (.int (farI g k n)), ?_⟩
      simp only [sT, sM, sS, hy]
      rfl
  · rintro σ H' ⟨sm, x, y, z, rfl⟩
    rw [row_len]
    walk_at "run"
    exact ⟨sizes (by decide), fun p hp => q _ _ (sm.trans (same_new hp)) upd_same⟩
theorem len_look_for (h : sp_look_for K C vs H Q E) : vs.length = (["seats", "guest"] : List Str).length := by
  unfold sp_look_for at h
  repeat (obtain ⟨_, h⟩ := h)
  subst_vars; rfl
theorem pure_look_for (XF : Facts K C) (h : sp_look_for K C vs H Q E) : t_look_for K C E { nx := fun _ H' => Q .non H', rt := Q } (start ["seats", "guest", "many", "at", "looked"] vs) H := by
  obtain ⟨a, n, f, x, s, rfl, hS, h1, hn, ⟨e, he, h0⟩, ht, qN, qY⟩ := h
  have hn0 : 0 < n := by omega
  have hh := hm_lt hn0
  show tSeq _ _ _ [some (.ref a), some x, none, none, none] H
  refine if_step (b := !isG x) (H' := H) (fun R h => ?_) (fun e1 => ?_) (fun e1 => ?_)
  · walk_at "run"; unfold sp_is_guest
    exact ⟨x, s, rfl, ht, ⟨_, rfl, h⟩⟩
  · exact qN (by simpa using e1)
  have hG : isG x = true := by simpa using e1
  obtain ⟨g, rfl⟩ := isG_int hG
  walk_at "nxt"
  refine asg_step (v := .int n) (H' := H) (fun R h => ?_) ?_
  · walk_at "run"; exact ⟨_, .inl hS, by rw [row_len]; exact h⟩
  walk_at "nxt"
  refine asg_step (v := .int (hm n g)) (H' := H) (fun R h => ?_) ?_
  · walk_at "run"; unfold sp_home; walk_at "run"; exact ⟨by omega, by rw [hm_is hn0]; exact h⟩
  walk_at "nxt"
  refine asg_step (v := .int 1) (H' := H) (fun R h => h) ?_
  walk_at "nxt"
  refine while_step (fun m σ H' => H' = H ∧ ∃ p : Nat, σ = [some (.ref a), some (.int g), some (.int n), some (.int p), some (.int ((Ring.far n (hm n g) p + 1 : Nat) : Int))] ∧ p < n ∧ Ring.Car n (hm n) f g p ∧ m = Ring.far n p e) ⟨_, rfl, hm n g, by rw [Ring.far_self]; rfl, hh g, Ring.car_home, rfl⟩ ?_
  rintro m σ H' ⟨rfl, p, rfl, hp, c, rfl⟩
  have fin : (∀ y, f p = some y → ¬ Ring.Ah n (hm n) y g p) → tRet (tTup (tCons (tVar 3) (tCons (tVar 4) tNil))) { nx := fun _ H' => Q .non H', rt := Q } [some (.ref a), some (.int g), some (.int n), some (.int p), some (.int ((Ring.far n (hm n g) p + 1 : Nat) : Int))] H' := fun l => by
    walk_at "run"
    exact ⟨sizes (by decide), fun t ht => qY g rfl hG _ _ p (same_new ht) hp ⟨c, l⟩ upd_same⟩
  cases hy : f p with
  | none =>
    refine ⟨false, fun R h => ?_, (fun z => nomatch z), fun _ => fin fun y h => by rw [hy] at h; cases h⟩
    walk_at "run"; exact ⟨_, hS, _, row_at hp, by rw [hy]; exact h⟩
  | some y =>
    have hpe : p ≠ e := fun z => by rw [z, h0] at hy; cases hy
    by_cases A : Ring.Ah n (hm n) y g p
    · refine ⟨true, fun R h => ?_, fun _ => ?_, (fun z => nomatch z)⟩
      · walk_at "run"; refine ⟨_, hS, _, row_at hp, ?_⟩
        rw [hy]; walk_at "run"; refine ⟨_, hS, _, row_at hp, ?_⟩
        rw [hy]; unfold sp_ahead; walk_at "run"
        rw [ahead_is hp, decide_eq_true A]; exact ⟨by omega, h⟩
      unfold t_look_for_b1
      refine asg_step (v := .int (Ring.nx n p)) (H' := H') (fun R h => ?_) ?_
      · walk_at "run"; exact ⟨by omega, by rw [nx_is hp]; exact h⟩
      walk_at "nxt"
      have hx := Ring.far_nx (hh g) hp (Ring.no_wrap hh hp he h0 c (by rw [hy]; simp))
      refine asg_step (v := .int ((Ring.far n (hm n g) (Ring.nx n p) + 1 : Nat) : Int)) (H' := H') (fun R h => ?_) ?_
      · walk_at "run"; rw [hx] at h; push_cast at h ⊢; exact h
      have ft := Ring.far_to hp he hpe
      exact ⟨_, by omega, rfl, _, rfl, Ring.nx_lt hp, Ring.car_nx hh hp c hy A, rfl⟩
    · refine ⟨false, fun R h => ?_, (fun z => nomatch z), fun _ => fin fun y' h => by rw [hy] at h; cases h; exact A⟩
      walk_at "run"; refine ⟨_, hS, _, row_at hp, ?_⟩
      rw [hy]; walk_at "run"; refine ⟨_, hS, _, row_at hp, ?_⟩
      rw [hy]; unfold sp_ahead; walk_at "run"
      rw [ahead_is hp, decide_eq_false A]; exact ⟨by omega, h⟩
theorem len_take_seat (h : sp_take_seat K C vs H Q E) : vs.length = (["seats", "guest"] : List Str).length := by
  unfold sp_take_seat at h
  repeat (obtain ⟨_, h⟩ := h)
  subst_vars; rfl
theorem pure_take_seat (XF : Facts K C) (h : sp_take_seat K C vs H Q E) : t_take_seat K C E { nx := fun _ H' => Q .non H', rt := Q } (start ["seats", "guest", "at", "found", "other"] vs) H := by
  obtain ⟨a, n, f, g, rfl, hS, h2, hn, P, ⟨e, he, h0⟩, ng, hG, q⟩ := h
  have hn0 : 0 < n := by omega
  have hh := hm_lt hn0
  show tSeq _ _ _ [some (.ref a), some (.int g), none, none, none] H
  refine asg_any (fun v H' => Same H H' ∧ ∃ p : Nat, v = .int p ∧ p < n ∧ Ring.Loc n (hm n) f g p) (fun R h => ?_) ?_
  · walk_at "run"; unfold sp_look_for
    refine ⟨a, n, f, _, .int, rfl, .inl (.inl hS), by omega, hn, ⟨e, he, h0⟩, rfl, (fun z => by rw [hG] at z; cases z), fun g' e1 _ H' t p sm hp l e2 => ?_⟩
    cases e1
    exact ⟨_, rfl, _, .inl (.inl e2), _, rfl, h _ _ ⟨sm, p, rfl, hp, l⟩⟩
  rintro v H1 ⟨s1, p0, rfl, hp0, l0⟩
  have hS1 := s1 _ _ hS
  walk_at "nxt"
  refine asg_step (v := .int p0) (H' := H1) (fun R h => ⟨_, rfl, h⟩) ?_
  walk_at "nxt"
  refine while_step (fun m σ H' => ∃ (f' : Nat → Option Int) (g' : Option Int) (p : Nat) (x : Option V), H' = upd H1 a (.lst (row n f')) ∧ σ = [some (.ref a), some (ov g'), some (.int p), some (.int p0), x] ∧ Ring.Path n (hm n) f' ∧
      ((g' = none ∧ m = 0 ∧ f' p0 = some g ∧ ∀ x, Ring.Sits n f' x ↔ Ring.Sits n f x ∨ x = g) ∨
        ∃ g1, g' = some g1 ∧ m = Ring.far n p e + 1 ∧ p < n ∧ Ring.Car n (hm n) f' g1 p ∧ f' e = none ∧ ¬ Ring.Sits n f' g1 ∧ (∀ y, f' p = some y → Ring.Ah n (hm n) g1 y p) ∧ (∀ x, (Ring.Sits n f' x ∨ x = g1) ↔ (Ring.Sits n f x ∨ x = g)) ∧
          ((p = p0 ∧ g1 = g) ∨ (f' p0 = some g ∧ Ring.far n p e < Ring.far n p0 e))))
    ⟨_, f, some g, p0, none, (upd_id hS1).symm, rfl, P, .inr ⟨g, rfl, rfl, hp0, l0.1, h0, ng, fun y hy => Ring.ah_tot (l0.2 y hy) (fun z => ng (z ▸ ⟨p0, hp0, hy⟩)), fun _ => Iff.rfl, .inl ⟨rfl, rfl⟩⟩⟩ ?_
  rintro m σ H' ⟨f', g', p, x, rfl, rfl, P', hc⟩
  have hS' : SqL K (upd H1 a (.lst (row n f'))) a (row n f') := .inl (.inl upd_same)
  rcases hc with ⟨rfl, rfl, hp, st⟩ | ⟨g1, rfl, rfl, hp, c, h0', ng', ah, st, tr⟩
  · refine ⟨false, fun R h => ?_, (fun z => nomatch z), fun _ => ?_⟩
    · walk_at "run"; exact h
    · walk_at "run"
      exact q _ f' p0 ((Off.same s1).trans Off.upd) upd_same P' st hp0 hp
  refine ⟨true, fun R h => ?_, fun _ => ?_, (fun z => nomatch z)⟩
  · walk_at "run"; exact h
  unfold t_take_seat_b1
  refine asg_step (v := ov (f' p)) (H' := upd H1 a (.lst (row n f'))) (fun R h => ?_) ?_
  · walk_at "run"; exact ⟨_, hS', _, row_at hp, h⟩
  walk_at "nxt"
  refine set_step (v := ov (some g1)) (H' := upd H1 a (.lst (row n f'))) (fun R h => ⟨_, rfl, h⟩) (fun R h => ⟨_, rfl, h⟩) (fun R h => ⟨_, rfl, h⟩) upd_same (row_ix hp) ?_
  rw [upd_upd, row_set]
  walk_at "nxt"
  refine asg_step (v := ov (f' p)) (H' := upd H1 a (.lst (row n (Ring.fup f' p (some g1))))) (fun R h => ⟨_, rfl, h⟩) ?_
  walk_at "nxt"
  refine asg_step (v := .int (Ring.nx n p)) (H' := upd H1 a (.lst (row n (Ring.fup f' p (some g1))))) (fun R h => ?_) ?_
  · walk_at "run"
    refine ⟨_, .inl (.inl (.inl upd_same)), ?_⟩
    rw [row_len]; exact ⟨by omega, by rw [nx_is hp]; exact h⟩
  have keep : Ring.fup f' p (some g1) p0 = some g := by
    rcases tr with ⟨e1, e2⟩ | ⟨e1, e2⟩
    · rw [e1, e2]; exact Ring.fup_same
    · have : p0 ≠ p := fun z => by rw [z] at e2; omega
      rw [Ring.fup_ne this]; exact e1
  cases hy : f' p with
  | none => exact ⟨0, by omega, _, none, _, _, rfl, rfl, Ring.step_put P' c hy, .inl ⟨rfl, rfl, keep, fun x => (Ring.sits_put hp hy x).trans (st x)⟩⟩
  | some y =>
    have hpe : p ≠ e := fun z => by rw [z, h0'] at hy; cases hy
    have ft := Ring.far_to hp he hpe
    obtain ⟨P2, c2⟩ := Ring.step_swap hh hp P' c hy (ah y hy)
    refine ⟨_, by omega, _, some y, _, _, rfl, rfl, P2, .inr ⟨y, rfl, rfl, Ring.nx_lt hp, c2, by rw [Ring.fup_ne (fun z => hpe z.symm)]; exact h0', Ring.swap_out hh P' hp hy ng', fun z hz => ?_, fun x => (Ring.sits_swap hp hy x).trans (st x), .inr ⟨keep, ?_⟩⟩⟩
    · rw [Ring.fup_ne (Ring.nx_ne h2 hp)] at hz
      exact Ring.push_next h2 hh hp he h0' P' hy hz
    · rcases tr with ⟨e1, e2⟩ | ⟨e1, e2⟩
      · rw [← e1]; omega
      · omega
theorem len_looked_through (h : sp_looked_through K C vs H Q E) : vs.length = (["guests", "many"] : List Str).length := by
  unfold sp_looked_through at h
  repeat (obtain ⟨_, h⟩ := h)
  subst_vars; rfl
theorem pure_looked_through (XF : Facts K C) (h : sp_looked_through K C vs H Q E) : t_looked_through K C E { nx := fun _ H' => Q .non H', rt := Q } (start ["guests", "many", "guest"] vs) H := by
  obtain ⟨a, xs, n, rfl, hS, hl, hty, qN, qY⟩ := h
  show tSeq _ _ _ [some (.ref a), some (.int n), none] H
  refine for_lst (a := a) (xs := xs) (H' := H) (fun R h => ⟨_, rfl, h⟩) hS (fun k σ H' => H' = H ∧ (∃ x, σ = [some (.ref a), some (.int n), x]) ∧ ∀ j, j < k → ∀ x, xs[j]? = some x → isG x = true) ⟨rfl, ⟨_, rfl⟩, fun j hj => by omega⟩ (fun k σ H' _ h => h.1 ▸ hS) ?_ ?_
  · rintro k x σ H' hk ⟨rfl, ⟨y, rfl⟩, ih⟩
    have hm := List.mem_of_getElem? hk
    obtain ⟨s, hs⟩ := hty x hm
    unfold t_looked_through_b1
    unfold gName
    walk_at "nxt"
    refine if_step (b := !isG x) (H' := H') (fun R h => ?_) (fun e => ?_) (fun e => ?_)
    · walk_at "run"; unfold sp_is_guest; exact ⟨x, s, rfl, hs, _, rfl, h⟩
    · exact qN ⟨x, hm, by simpa using e⟩
    · refine ⟨rfl, ⟨_, rfl⟩, fun j hj z hz => ?_⟩
      by_cases w : j = k
      · rw [w, hk] at hz; cases hz; simpa using e
      · exact ih j (by omega) z hz
  rintro σ H' ⟨rfl, ⟨y, rfl⟩, all⟩
  obtain ⟨gs, rfl, hg⟩ := all_ints fun x hx => by
    obtain ⟨j, hj⟩ := List.mem_iff_getElem?.mp hx
    exact all j (List.getElem?_eq_some_iff.mp hj).1 x hj
  obtain ⟨q1, q2, q3⟩ := qY gs rfl hg
  rw [List.length_map] at hl
  walk_at "nxt"
  refine if_step (b := decide ((dist gs).length < gs.length)) (H' := H') (fun R h => ?_) (fun e => ?_) (fun e => ?_)
  · unfold tLenSet; walk_at "run"
    refine ⟨gs, hS, by omega, ?_⟩
    refine ⟨_, .inl hS, ?_⟩
    rw [List.length_map]
    rw [show decide (((dist gs).length : Int) < (gs.length : Int)) = decide ((dist gs).length < gs.length) from decide_eq_decide.mpr (by omega)]; exact h
  · refine q1 fun nd => ?_
    have := of_decide_eq_true e
    rw [dist_nodup nd] at this; omega
  have nd : gs.Nodup := Classical.byContradiction fun z => by have := dist_short z; have := of_decide_eq_false e; omega
  walk_at "nxt"
  refine if_step (b := decide (n ≤ gs.length)) (H' := H') (fun R h => ?_) (fun e => q2 nd (of_decide_eq_true e)) (fun e => q3 nd (by have := of_decide_eq_false e; omega))
  walk_at "run"; refine ⟨_, .inl hS, ?_⟩
  rw [List.length_map, show decide ((gs.length : Int) ≥ (n : Int)) = decide (n ≤ gs.length) from decide_eq_decide.mpr (by omega)]; exact h
theorem len_seated (h : sp_seated K C vs H Q E) : vs.length = (["guests", "many"] : List Str).length := by
  unfold sp_seated at h
  repeat (obtain ⟨_, h⟩ := h)
  subst_vars; rfl
theorem pure_seated (XF : Facts K C) (h : sp_seated K C vs H Q E) : t_seated K C E { nx := fun _ H' => Q .non H', rt := Q } (start ["guests", "many", "seats", "guest"] vs) H := by
  obtain ⟨a, xs, n, rfl, hS, hl, n2, n3, hty, qN, qY⟩ := h
  show tSeq _ _ _ [some (.ref a), some (.int n), none, none] H
  refine drop_any (fun v H' => H' = H ∧ ∃ gs : List Int, xs = gs.map V.int ∧ (∀ g ∈ gs, isG (.int g) = true) ∧ gs.Nodup ∧ gs.length < n) (fun R h => ?_) ?_
  · walk_at "run"; unfold sp_looked_through
    exact ⟨a, xs, n, rfl, hS, hl, hty, qN, fun gs e hg => ⟨(qY gs e hg).1, (qY gs e hg).2.1, fun nd lt => h _ _ ⟨rfl, gs, e, hg, nd, lt⟩⟩⟩
  rintro _ H1 ⟨rfl, gs, rfl, hg, nd, lt⟩
  have q := (qY gs rfl hg).2.2 nd lt
  walk_at "nxt"
  refine asg_any (fun v H' => Same H1 H' ∧ ∃ s, v = .ref s ∧ H' s = some (.lst (row n fun _ => none)) ∧ H1 s = none) (fun R h => ?_) ?_
  · walk_at "run"
    refine ⟨sizes (by decide), fun p1 h1 => ⟨_, upd_same, by omega, by omega, ?_, fun p2 hp2 => ?_⟩⟩
    · have := sizes (n := n) (by omega); simpa using this
    rw [Int.toNat_natCast, row_none]
    exact h _ _ ⟨(same_new h1).trans (same_new hp2), p2, rfl, upd_same, (same_new h1).free hp2⟩
  rintro _ H2 ⟨s2, s, rfl, hs2, f1⟩
  walk_at "nxt"
  refine for_lst (a := a) (xs := gs.map V.int) (H' := H2) (fun R h => ⟨_, rfl, h⟩) (s2.seq hS)
    (fun j σ H' => ∃ (f : Nat → Option Int) (x : Option V), σ = [some (.ref a), some (.int n), some (.ref s), x] ∧ Same H1 H' ∧ H' s = some (.lst (row n f)) ∧ Seat n f (gs.take j))
    ⟨_, _, rfl, s2, hs2, seat_none (by omega)⟩ (fun j σ H' _ ⟨_, _, _, sm, _⟩ => sm.seq hS) ?_ ?_
  · rintro j x σ H3 hj ⟨f, x5, rfl, sm, hs, S⟩
    have hlt := (List.getElem?_eq_some_iff.mp hj).1
    rw [List.length_map] at hlt
    rw [List.getElem?_map, List.getElem?_eq_getElem hlt] at hj
    cases hj
    have hnew := take_new nd hlt
    have hGj := hg _ (List.getElem_mem hlt)
    unfold t_seated_b1
    refine drop_any (fun v H' => ∃ f', Ring.Path n (hm n) f' ∧ (∀ x, Ring.Sits n f' x ↔ Ring.Sits n f x ∨ x = gs[j]) ∧ Off s H3 H' ∧ H' s = some (.lst (row n f'))) (fun R h => ?_) ?_
    · walk_at "run"; unfold sp_take_seat
      exact ⟨s, n, f, gs[j], rfl, hs, n2, n3, S.P, S.e (by omega), fun z => hnew ((S.st _).mp z), hGj, fun H' f' p of e P' st' _ _ => h _ _ ⟨f', P', st', of, e⟩⟩
    rintro _ H4 ⟨f', P', st', of, e⟩
    refine ⟨f', _, rfl, fun b o hb => of b o (fun z => by rw [z, f1] at hb; cases hb) (sm _ _ hb), e, ?_⟩
    rw [take_next hlt]
    exact S.add hnew hGj (by rw [List.length_take]; omega) P' st'
  rintro σ H3 ⟨f, x5, rfl, sm, hs, S⟩
  rw [List.length_map, List.take_length] at S
  walk_at "run"
  exact q _ s f sm hs f1 S
theorem len_first_come (h : sp_first_come K C vs H Q E) : vs.length = (["guests", "many"] : List Str).length := by
  unfold sp_first_come at h
  repeat (obtain ⟨_, h⟩ := h)
  subst_vars; rfl
theorem pure_first_come (XF : Facts K C) (h : sp_first_come K C vs H Q E) : t_first_come K C E { nx := fun _ H' => Q .non H', rt := Q } (start ["guests", "many", "seats", "guest", "at"] vs) H := by
  obtain ⟨a, xs, n, rfl, hS, hl, n2, n3, hty, qN, qY⟩ := h
  have hn0 : 0 < n := by omega
  have hh := hm_lt hn0
  show tSeq _ _ _ [some (.ref a), some (.int n), none, none, none] H
  refine drop_any (fun v H' => H' = H ∧ ∃ gs : List Int, xs = gs.map V.int ∧ (∀ g ∈ gs, isG (.int g) = true) ∧ gs.Nodup ∧ gs.length < n) (fun R h => ?_) ?_
  · walk_at "run"; unfold sp_looked_through
    exact ⟨a, xs, n, rfl, hS, hl, hty, qN, fun gs e hg => ⟨(qY gs e hg).1, (qY gs e hg).2.1, fun nd lt => h _ _ ⟨rfl, gs, e, hg, nd, lt⟩⟩⟩
  rintro _ H1 ⟨rfl, gs, rfl, hg, nd, lt⟩
  have q := (qY gs rfl hg).2.2 nd lt
  walk_at "nxt"
  refine asg_any (fun v H' => Same H1 H' ∧ ∃ s, v = .ref s ∧ H' s = some (.lst (row n fun _ => none)) ∧ H1 s = none) (fun R h => ?_) ?_
  · walk_at "run"
    refine ⟨sizes (by decide), fun p1 h1 => ⟨_, upd_same, by omega, by omega, ?_, fun p2 hp2 => ?_⟩⟩
    · have := sizes (n := n) (by omega); simpa using this
    rw [Int.toNat_natCast, row_none]
    exact h _ _ ⟨(same_new h1).trans (same_new hp2), p2, rfl, upd_same, (same_new h1).free hp2⟩
  rintro _ H2 ⟨s2, s, rfl, hs2, f1⟩
  walk_at "nxt"
  refine for_lst (a := a) (xs := gs.map V.int) (H' := H2) (fun R h => ⟨_, rfl, h⟩) (s2.seq hS)
    (fun j σ H' => ∃ (F : Nat → Nat → Option Int) (x y : Option V), σ = [some (.ref a), some (.int n), some (.ref s), x, y] ∧ Same H1 H' ∧ H' s = some (.lst (row n (F j))) ∧ Trn n gs F j)
    ⟨fun _ _ => none, _, _, rfl, s2, hs2, rfl, fun j hj => by omega⟩ (fun j σ H' _ ⟨_, _, _, _, sm, _⟩ => sm.seq hS) ?_ ?_
  · rintro j x σ H3 hj ⟨F, x3, x4, rfl, sm, hs, T⟩
    have hlt := (List.getElem?_eq_some_iff.mp hj).1
    rw [List.length_map] at hlt
    rw [List.getElem?_map, List.getElem?_eq_getElem hlt] at hj
    cases hj
    have O := T.ok nd (by omega) j (Nat.le_refl _)
    obtain ⟨e, he, h0⟩ := Ring.em_pos.mp (by have := O.em (by omega) nd; omega : 0 < Ring.em n (F j))
    have hsS : SqL K H3 s (row n (F j)) := .inl (.inl hs)
    unfold t_first_come_b2
    refine asg_step (v := .int (hm n gs[j])) (H' := H3) (fun R h => ?_) ?_
    · walk_at "run"; unfold sp_home; walk_at "run"; exact ⟨by omega, by rw [hm_is hn0]; exact h⟩
    walk_at "nxt"
    refine while_step (fun m σ H' => H' = H3 ∧ ∃ p : Nat, σ = [some (.ref a), some (.int n), some (.ref s), some (.int gs[j]), some (.int p)] ∧ p < n ∧ Way n (F j) gs[j] p ∧ m = Ring.far n p e) ⟨_, rfl, _, rfl, hh _, way_home, rfl⟩ ?_
    rintro m σ H' ⟨rfl, p, rfl, hp, w, rfl⟩
    cases hy : F j p with
    | none =>
      refine ⟨false, fun R h => ?_, (fun z => nomatch z), fun _ => ?_⟩
      · walk_at "run"; exact ⟨_, hsS, _, row_at hp, by rw [hy]; exact h⟩
      refine nx_at ?_
      refine set_step (v := ov (some gs[j])) (H' := H') (fun R h => ⟨_, rfl, h⟩) (fun R h => ⟨_, rfl, h⟩) (fun R h => ⟨_, rfl, h⟩) hs (row_ix hp) ?_
      rw [row_set]
      refine ⟨_, _, _, rfl, fun b o hb => ?_, ?_, T.next (List.getElem?_eq_getElem hlt) ⟨hp, hy, w⟩⟩
      · rw [upd_ne (fun z => by rw [z, f1] at hb; cases hb)]; exact sm _ _ hb
      · rw [upd_same, if_neg (by omega)]
    | some y =>
      have hpe : p ≠ e := fun z => by rw [z, h0] at hy; cases hy
      have ft := Ring.far_to hp he hpe
      refine ⟨true, fun R h => ?_, fun _ => ?_, (fun z => nomatch z)⟩
      · walk_at "run"; exact ⟨_, hsS, _, row_at hp, by rw [hy]; exact h⟩
      unfold t_first_come_b1
      refine asg_step (v := .int (Ring.nx n p)) (H' := H') (fun R h => ?_) ?_
      · walk_at "run"; exact ⟨by omega, by rw [nx_is hp]; exact h⟩
      exact ⟨_, by omega, rfl, _, rfl, Ring.nx_lt hp, way_next hn0 hp he h0 w (by rw [hy]; simp), rfl⟩
  rintro σ H3 ⟨F, x3, x4, rfl, sm, hs, T⟩
  rw [List.length_map] at hs T
  walk_at "run"
  exact q _ s F sm hs f1 T
theorem len_law_cell_at (h : sp_law_cell_at K C vs H Q E) : vs.length = (["_law_script", "_law_k"] : List Str).length := by
  unfold sp_law_cell_at at h
  repeat (obtain ⟨_, h⟩ := h)
  subst_vars; rfl
theorem pure_law_cell_at (XF : Facts K C) (h : sp_law_cell_at K C vs H Q E) : t_law_cell_at K C E { nx := fun _ H' => Q .non H', rt := Q } (start ["_law_script", "_law_k"] vs) H := by
  obtain ⟨a, ns, k, rfl, hS, h0, q⟩ := h
  show tSeq _ _ _ [some (.ref a), some (.int k)] H
  walk_at "run"
  refine ⟨_, .inl hS, ?_⟩
  rw [List.length_map]
  unfold cellI at q
  split
  · rename_i hk
    rw [if_pos hk] at q
    refine ⟨_, hS, .int (ns.getD k.toNat 0), at_of (j := k.toNat) (by omega) ?_, q⟩
    rw [List.getElem?_map, List.getElem?_eq_getElem (by omega), List.getD_eq_getElem?_getD, List.getElem?_eq_getElem (by omega)]
    rfl
  · rename_i hk
    rw [if_neg hk] at q
    exact q
theorem len_law_whole (h : sp_law_whole K C vs H Q E) : vs.length = (["_law_found"] : List Str).length := by
  unfold sp_law_whole at h
  repeat (obtain ⟨_, h⟩ := h)
  subst_vars; rfl
theorem pure_law_whole (XF : Facts K C) (h : sp_law_whole K C vs H Q E) : t_law_whole K C E { nx := fun _ H' => Q .non H', rt := Q } (start ["_law_found"] vs) H := by
  obtain ⟨x, s, rfl, ht, q⟩ := h
  show tRet _ _ [some x] H
  have key : (Ty.isA s .int && !Ty.isA s .bool) = isWh x := by
    cases x with
    | int i => cases ht; rfl
    | bl b => cases ht; rfl
    | non => cases ht; rfl
    | str z => cases ht; rfl
    | byt b => cases ht
    | flt b => cases ht
    | ty n => cases ht
    | ref a =>
      have h' : (H a).bind hoTy = some s := ht
      cases e : H a with
      | none => rw [e] at h'; cases h'
      | some o =>
        rw [e] at h'
        have h2 : hoTy o = some s := h'
        cases o with
        | lst xs => cases h2; rfl
        | tup xs => cases h2; rfl
        | dK kvs => cases h2; rfl
        | frz ob u =>
          cases u with
          | lst xs => cases h2; rfl
          | _ => cases h2
        | _ => cases h2
  simp only [tRet, tAndV, tNotV, tCB, tCons, tNil, tVar, tC, rIsA]
  refine ⟨x, rfl, x, s, rfl, ht, s.isA .int, rfl, ?_⟩
  refine iteB (fun e => ?_) fun e => ?_
  · refine ⟨x, rfl, x, s, rfl, ht, s.isA .bool, rfl, ?_⟩
    rw [e] at key
    rw [show (!Ty.isA s .bool) = isWh x from by rw [← key]; rfl]
    exact q
  · rw [e] at key
    rw [show false = isWh x from by rw [← key]; rfl]
    exact q
theorem len_law_home (h : sp_law_home K C vs H Q E) : vs.length = (["_law_guest_here", "_law_many"] : List Str).length := by
  unfold sp_law_home at h
  repeat (obtain ⟨_, h⟩ := h)
  subst_vars; rfl
theorem pure_law_home (XF : Facts K C) (h : sp_law_home K C vs H Q E) : t_law_home K C E { nx := fun _ H' => Q .non H', rt := Q } (start ["_law_guest_here", "_law_many"] vs) H := by
  obtain ⟨g, n, rfl, h0, q⟩ := h
  show tRet _ _ [some (.int g), some (.int n)] H
  walk_at "run"
  exact ⟨h0, q⟩
theorem len_law_base (h : sp_law_base K C vs H Q E) : vs.length = (["_law_cell"] : List Str).length := by
  unfold sp_law_base at h
  repeat (obtain ⟨_, h⟩ := h)
  subst_vars; rfl
theorem pure_law_base (XF : Facts K C) (h : sp_law_base K C vs H Q E) : t_law_base K C E { nx := fun _ H' => Q .non H', rt := Q } (start ["_law_cell"] vs) H := by
  obtain ⟨c, rfl, q⟩ := h
  show tSeq _ _ _ [some (.int c)] H
  unfold baseI at q
  walk_at "run"
  repeat' split
  all_goals simp_all
theorem len_law_guest (h : sp_law_guest K C vs H Q E) : vs.length = (["_law_cell", "_law_base_here"] : List Str).length := by
  unfold sp_law_guest at h
  repeat (obtain ⟨_, h⟩ := h)
  subst_vars; rfl
theorem pure_law_guest (XF : Facts K C) (h : sp_law_guest K C vs H Q E) : t_law_guest K C E { nx := fun _ H' => Q .non H', rt := Q } (start ["_law_cell", "_law_base_here", "_law_number"] vs) H := by
  obtain ⟨c, b, rfl, q⟩ := h
  show tSeq _ _ _ [some (.int c), some (.int b), none] H
  unfold gstI at q
  walk_at "run"
  repeat' split
  all_goals simp_all
theorem len_law_drawn (h : sp_law_drawn K C vs H Q E) : vs.length = (["_law_cells", "_law_base_here"] : List Str).length := by
  unfold sp_law_drawn at h
  repeat (obtain ⟨_, h⟩ := h)
  subst_vars; rfl
theorem pure_law_drawn (XF : Facts K C) (h : sp_law_drawn K C vs H Q E) : t_law_drawn K C E { nx := fun _ H' => Q .non H', rt := Q } (start ["_law_cells", "_law_base_here", "_law_seen", "_law_cell"] vs) H := by
  obtain ⟨a, cs, b, rfl, hS, hl, q⟩ := h
  show tSeq _ _ _ [some (.ref a), some (.int b), none, none] H
  refine asg_any (fun v H' => Same H H' ∧ ∃ d, v = .ref d ∧ H' d = some (.dK (dG [])) ∧ H d = none) (fun R h => ?_) ?_
  · walk_at "run"
    exact fun p hp => h _ _ ⟨same_new hp, p, rfl, upd_same, hp⟩
  rintro v H2 ⟨s2, d, rfl, e2, f2⟩
  walk_at "nxt"
  refine for_lst (a := a) (xs := cs.map V.int) (H' := H2) (fun R h => ⟨_, rfl, h⟩) (s2.seq hS)
    (fun j σ H' => ∃ (x : Option V) (gs : List Int), σ = [some (.ref a), some (.int b), some (.ref d), x] ∧ Same H H' ∧ H' d = some (.dK (dG gs)) ∧ gs.Nodup ∧ gs.length ≤ j ∧ (∀ x ∈ gs, ∃ c, x = gstI c b))
    ⟨_, [], rfl, s2, e2, List.nodup_nil, by simp, fun x hx => nomatch hx⟩ (fun j σ H' _ ⟨_, _, _, sm, _⟩ => sm.seq hS) ?_ ?_
  · rintro j x σ H3 hj ⟨y, gs, rfl, sm, hd, nd, len, gb⟩
    have hlt := (List.getElem?_eq_some_iff.mp hj).1
    rw [List.length_map] at hlt
    obtain ⟨c, _, rfl⟩ := List.mem_map.mp (List.mem_of_getElem? hj)
    unfold t_law_drawn_b1
    refine dput_step (H' := H3) (k := .inl (gstI c b)) (v := .bl true) (fun R h => h) (fun R h => ⟨_, rfl, h⟩) (fun R h => ?_) hd (by rw [dG_len]; exact sizel (by omega)) ?_
    · walk_at "run"; unfold sp_law_guest; walk_at "run"; exact h
    rw [dG_add]
    refine ⟨_, addG gs (gstI c b), rfl, fun b' o hb => ?_, upd_same, addG_nd nd, by have := addG_len (gs := gs) (g := gstI c b); omega, fun x hx => ?_⟩
    · rw [upd_ne (fun z => by rw [z, f2] at hb; cases hb)]; exact sm _ _ hb
    · rcases addG_mem hx with h | h
      · exact gb x h
      · exact ⟨c, h⟩
  · rintro σ H3 ⟨y, gs, rfl, sm, hd, nd, len, gb⟩
    walk_at "run"
    refine ⟨_, hd, fun p hp => ?_⟩
    rw [dG_keys]
    rw [List.length_map] at len
    exact q _ p gs (sm.trans (same_new hp)) upd_same nd len gb
theorem len_law_places (h : sp_law_places K C vs H Q E) : vs.length = (["_law_seats", "_law_many"] : List Str).length := by
  unfold sp_law_places at h
  repeat (obtain ⟨_, h⟩ := h)
  subst_vars; rfl
theorem pure_law_places (XF : Facts K C) (h : sp_law_places K C vs H Q E) : t_law_places K C E { nx := fun _ H' => Q .non H', rt := Q } (start ["_law_seats", "_law_many", "_law_places_here", "_law_at", "_law_guest_here"] vs) H := by
  obtain ⟨a, n, f, rfl, hA, hn, O, q⟩ := h
  have hS : SqL K H a (row n f) := .inl (.inl hA)
  show tSeq _ _ _ [some (.ref a), some (.int n), none, none, none] H
  refine if_step (b := false) (H' := H) (fun R h => ?_) (fun z => nomatch z) (fun _ => ?_)
  · walk_at "run"; refine ⟨_, tyOf_at hA rfl, ?_⟩
    walk_at "run"; exact ⟨_, .inl hS, by rw [row_len]; simpa using h⟩
  walk_at "nxt"
  refine asg_any (fun v H' => Same H H' ∧ ∃ d, v = .ref d ∧ H' d = some (.dK (plK (plp f 0))) ∧ H d = none) (fun R h => ?_) ?_
  · walk_at "run"
    exact fun p hp => h _ _ ⟨same_new hp, p, rfl, upd_same, hp⟩
  rintro _ H1 ⟨s1, d, rfl, hd, fd⟩
  walk_at "nxt"
  refine for_enum (a := a) (xs := row n f) (H' := H1) (fun R h => ?_) (s1.seq hS) (fun k σ H' => Same H H' ∧ (∃ x y, σ = [some (.ref a), some (.int n), some (.ref d), x, y]) ∧ H' d = some (.dK (plK (plp f k))))
    ⟨s1, ⟨_, _, rfl⟩, hd⟩ (fun k σ H' ⟨s, _⟩ => s.seq hS) ?_ ?_
  · exact ⟨_, rfl, h⟩
  · rintro k v σ H2 hk ⟨sm, ⟨x, y, rfl⟩, hd2⟩ T hT
    obtain ⟨hkn, rfl⟩ := row_some hk
    have sT := same_new (o := .tup [.int (k : Nat), ov (f k)]) hT
    refine gtup2 upd_same ?_
    have hd3 := sT _ _ hd2
    revert sT hd3
    generalize upd H2 T (.tup [.int (k : Nat), ov (f k)]) = H3
    intro sT hd3
    have sm3 := sm.trans sT
    unfold t_law_places_b1
    walk_at "nxt"
    cases hy : f k with
    | none =>
      refine if_step (b := false) (H' := H3) (fun R h => ?_) (fun z => nomatch z) (fun _ => ?_)
      · walk_at "run"; exact h
      refine ⟨sm3, ⟨_, _, rfl⟩, ?_⟩
      rw [plp_next, hy, List.append_nil]; exact hd3
    | some g =>
      have ng : g ∉ (plp f k).map (·.1) := fun z => by
        rw [plp_gl, Ring.mem_gl] at z
        obtain ⟨p, hp, e⟩ := z
        have := O p k g (by omega) hkn e hy
        omega
      refine if_step (b := true) (H' := H3) (fun R h => ?_) (fun _ => ?_) (fun z => nomatch z)
      · walk_at "run"; exact h
      refine if_step (b := false) (H' := H3) (fun R h => ?_) (fun z => nomatch z) (fun _ => ?_)
      · walk_at "run"; unfold sp_law_whole; walk_at "run"
        refine ⟨_, DGet.k (k := .inl g) hd3, ?_⟩
        rw [plK_val, decide_eq_false ng]; exact h
      walk_at "nxt"
      have hlen : (plp f k).length ≤ 1024 := by
        have := congrArg List.length (plp_gl (f := f) (k := k))
        rw [List.length_map] at this
        have h2 := Ring.gl_em k f
        omega
      refine dput_step (H' := H3) (k := .inl g) (v := .int k) (fun R h => ⟨_, rfl, h⟩) (fun R h => ⟨_, rfl, h⟩) (fun R h => ⟨_, rfl, h⟩) hd3 (by unfold plK; rw [List.length_map]; exact sizel (by omega)) ?_
      refine ⟨fun b o hb => ?_, ⟨_, _, rfl⟩, ?_⟩
      · rw [upd_ne (fun z => by rw [z, fd] at hb; cases hb)]; exact sm3 _ _ hb
      · rw [upd_same, plK_put ng, plp_next, hy]
  · rintro σ H2 ⟨sm, ⟨x, y, rfl⟩, hd2⟩
    rw [row_len] at hd2
    walk_at "run"
    exact q _ d sm hd2 fd
theorem len_law_in_turn (h : sp_law_in_turn K C vs H Q E) : vs.length = (["_law_guests", "_law_places_here", "_law_many"] : List Str).length := by
  unfold sp_law_in_turn at h
  repeat (obtain ⟨_, h⟩ := h)
  subst_vars; rfl
theorem pure_law_in_turn (XF : Facts K C) (h : sp_law_in_turn K C vs H Q E) : t_law_in_turn K C E { nx := fun _ H' => Q .non H', rt := Q } (start ["_law_guests", "_law_places_here", "_law_many", "_law_taken", "_law_guest_here", "_law_at"] vs) H := by
  obtain ⟨a, d, n, gs, F, rfl, hS, hd, nd, lt, n3, T, q⟩ := h
  have hn0 : 0 < n := by omega
  have hh := hm_lt hn0
  have ok := T.ok nd (Nat.le_refl _)
  have okE := ok gs.length (Nat.le_refl _)
  have pnd : ((plp (F gs.length) n).map (·.1)).Nodup := by
    rw [plp_gl]
    exact Ring.fm_nodup _ List.nodup_range _ fun p q x hp hq e1 e2 => okE.O p q x (List.mem_range.mp hp) (List.mem_range.mp hq) e1 e2
  show tSeq _ _ _ [some (.ref a), some (.ref d), some (.int n), none, none, none] H
  refine asg_any (fun v H' => Same H H' ∧ ∃ t, v = .ref t ∧ H' t = some (.dK (dT [])) ∧ H t = none) (fun R h => ?_) ?_
  · walk_at "run"
    exact fun p hp => h _ _ ⟨same_new hp, p, rfl, upd_same, hp⟩
  rintro _ H1 ⟨s1, t, rfl, ht, ft⟩
  walk_at "nxt"
  refine for_lst (a := a) (xs := gs.map V.int) (H' := H1) (fun R h => ⟨_, rfl, h⟩) (s1.seq hS)
    (fun j σ H' => Same H H' ∧ (∃ x y, σ = [some (.ref a), some (.ref d), some (.int n), some (.ref t), x, y]) ∧ ∃ ps : List Nat, H' t = some (.dK (dT ps)) ∧ ps.length = j ∧ ∀ p, p < n → (p ∈ ps ↔ F j p ≠ none))
    ⟨s1, ⟨_, _, rfl⟩, [], ht, rfl, fun p _ => by rw [T.z]; simp⟩ (fun j σ H' _ h => h.1.seq hS) ?_ ?_
  · rintro j x σ H3 hj ⟨sm, ⟨x4, x5, rfl⟩, ps, hps, pl, hp⟩
    have hlt := (List.getElem?_eq_some_iff.mp hj).1
    rw [List.length_map] at hlt
    obtain ⟨g, p0, hg, c0, hF⟩ := T.s j hlt
    rw [List.getElem?_map, hg] at hj
    cases hj
    have O := ok j (by omega)
    obtain ⟨e, he, h0⟩ := Ring.em_pos.mp (by have := O.em (by omega) nd; omega : 0 < Ring.em n (F j))
    unfold t_law_in_turn_b2
    refine asg_step (v := .int (hm n g)) (H' := H3) (fun R h => ?_) ?_
    · walk_at "run"; unfold sp_law_home; walk_at "run"; exact ⟨by omega, by rw [hm_is hn0]; exact h⟩
    walk_at "nxt"
    refine while_step (fun m σ H' => H' = H3 ∧ ∃ p : Nat, σ = [some (.ref a), some (.ref d), some (.int n), some (.ref t), some (.int g), some (.int p)] ∧ p < n ∧ Way n (F j) g p ∧ m = Ring.far n p e) ⟨_, rfl, _, rfl, hh _, way_home, rfl⟩ ?_
    rintro m σ H' ⟨rfl, p, rfl, hpn, w, rfl⟩
    refine ⟨decide (p ∈ ps), fun R h => ?_, fun e1 => ?_, fun e1 => ?_⟩
    · walk_at "run"
      refine ⟨_, DGet.k (k := .inl (p : Int)) hps, ?_⟩
      rw [dT_val]; exact h
    · have hf := (hp p hpn).mp (of_decide_eq_true e1)
      have hpe : p ≠ e := fun z => hf (z ▸ h0)
      have ft := Ring.far_to hpn he hpe
      unfold t_law_in_turn_b1
      refine asg_step (v := .int (Ring.nx n p)) (H' := H') (fun R h => ?_) ?_
      · walk_at "run"; exact ⟨by omega, by rw [nx_is hpn]; exact h⟩
      exact ⟨_, by omega, rfl, _, rfl, Ring.nx_lt hpn, way_next hn0 hpn he h0 w hf, rfl⟩
    · have hnp := of_decide_eq_false e1
      have hf : F j p = none := Classical.byContradiction fun z => hnp ((hp p hpn).mpr z)
      have ep : p = p0 := Ring.fc_one hh ⟨hpn, hf, w⟩ c0
      subst ep
      have last : F gs.length p = some g := T.keep (i := j + 1) (by rw [hF, Ring.fup_same]) gs.length (by omega) (Nat.le_refl _)
      have fnd := plK_find pnd (plp_mem.mpr ⟨hpn, last⟩)
      walk_at "nxt"
      refine if_step (b := false) (H' := H') (fun R h => ?_) (fun z => nomatch z) (fun _ => ?_)
      · unfold tDGet1; walk_at "run"
        refine ⟨.inl ⟨_, .inl (sm _ _ hd)⟩, _, DGet.k (k := .inl g) (sm _ _ hd), ?_⟩
        rw [fnd, Option.getD_some]; walk_at "run"; exact h
      walk_at "nxt"
      refine dput_step (H' := H') (k := .inl (p : Int)) (v := .bl true) (fun R h => h) (fun R h => ⟨_, rfl, h⟩) (fun R h => ⟨_, rfl, h⟩) hps (by unfold dT; rw [List.length_map]; exact sizel (by omega)) ?_
      rw [dT_put hnp]
      refine ⟨fun b o hb => ?_, ⟨_, _, rfl⟩, _, upd_same, by rw [List.length_append, List.length_singleton]; omega, fun r hr => ?_⟩
      · rw [upd_ne (fun z => by rw [z, ft] at hb; cases hb)]; exact sm _ _ hb
      · rw [hF, List.mem_append, List.mem_singleton, hp r hr]
        by_cases e2 : r = p
        · subst e2; rw [Ring.fup_same]; simp
        · rw [Ring.fup_ne e2]; simp [e2]
  · rintro σ H3 ⟨sm, ⟨x4, x5, rfl⟩, ps, hps, _⟩
    walk_at "run"
    refine ⟨_, sm _ _ hd, _, .inl (sm.seq hS), ?_⟩
    have h1 := okE.em (Nat.le_refl _) nd
    have h2 := Ring.gl_em n (F gs.length)
    have h3 := congrArg List.length (plp_gl (f := F gs.length) (k := n))
    rw [List.length_map] at h3
    have e : ((plK (plp (F gs.length) n)).length : Int) = ((gs.map V.int).length : Int) := by unfold plK; rw [List.length_map, List.length_map]; omega
    rw [decide_eq_true e]; exact q _ sm
theorem len_law_sums (h : sp_law_sums K C vs H Q E) : vs.length = (["_law_places_here", "_law_many"] : List Str).length := by
  unfold sp_law_sums at h
  repeat (obtain ⟨_, h⟩ := h)
  subst_vars; rfl
theorem pure_law_sums (XF : Facts K C) (h : sp_law_sums K C vs H Q E) : t_law_sums K C E { nx := fun _ H' => Q .non H', rt := Q } (start ["_law_places_here", "_law_many", "_law_total", "_law_most", "_law_squares", "_law_guest_here", "_law_at", "_law_far"] vs) H := by
  obtain ⟨d, n, f, rfl, hd, n1, n3, q⟩ := h
  obtain ⟨e1, e2, e3⟩ := sums_are (n := n) (f := f) n
  show tSeq _ _ _ [some (.ref d), some (.int n), none, none, none, none, none, none] H
  refine asg_step (v := .int 0) (H' := H) (fun R h => h) ?_
  walk_at "nxt"
  refine asg_step (v := .int 0) (H' := H) (fun R h => h) ?_
  walk_at "nxt"
  refine asg_step (v := .int 0) (H' := H) (fun R h => h) ?_
  walk_at "nxt"
  refine for_items (K := K) (kvs := plK (plp f n)) hd (fun H' R h => ⟨_, rfl, h⟩) (fun k σ => ∃ x y z, σ = [some (.ref d), some (.int n), some (.int (sumT n ((plp f n).take k))), some (.int (sumM n ((plp f n).take k))), some (.int (sumS n ((plp f n).take k))), x, y, z]) ⟨_, _, _, rfl⟩ ?_ ?_
  · rintro k key v σ H' hk ⟨x, y, z, rfl⟩ D nx
    have hlt := (List.getElem?_eq_some_iff.mp hk).1
    unfold plK at hk hlt
    rw [List.length_map] at hlt
    rw [List.getElem?_map, List.getElem?_eq_getElem hlt] at hk
    cases hk
    obtain ⟨g, p, hgp⟩ : ∃ g p, (plp f n)[k] = (g, p) := ⟨_, _, rfl⟩
    have tk : (plp f n).take (k + 1) = (plp f n).take k ++ [(g, p)] := by
      rw [List.take_succ, List.getElem?_eq_getElem hlt, hgp]; rfl
    have hp : p < n := (plp_mem.mp (hgp ▸ List.getElem_mem hlt)).1
    obtain ⟨a1, a2, a3⟩ := sum_snoc (n := n) (l := (plp f n).take k) (g := g) (p := p)
    rw [hgp]
    unfold t_law_sums_b1
    walk_at "nxt"
    refine asg_step (v := .int (farI g p n)) (H' := H') (fun R h => ?_) ?_
    · show tOp rMod _ _ [some (.ref d), some (.int n), _, _, _, some (.int g), some (.int p), _] H' R
      walk_at "run"; unfold sp_law_home; walk_at "run"; exact ⟨by omega, by omega, h⟩
    walk_at "nxt"
    refine asg_step (v := .int (sumT n ((plp f n).take (k + 1)))) (H' := H') (fun R h => ?_) ?_
    · walk_at "run"; rw [tk, a1] at h; exact h
    walk_at "nxt"
    refine asg_step (v := .int (sumS n ((plp f n).take (k + 1)))) (H' := H') (fun R h => ?_) ?_
    · walk_at "run"; rw [tk, a3] at h
      have h0 := farI_lo (g := g) (p := p) (n := n) (by omega)
      have h1 := farI_hi (g := g) (p := p) (n := n) (by omega)
      exact ⟨.inl ⟨by omega, by omega⟩, h⟩
    walk_at "nxt"
    refine if_step (b := decide (farI g p n > sumM n ((plp f n).take k))) (H' := H') (fun R h => ?_) (fun e => ?_) (fun e => ?_)
    · walk_at "run"; exact h
    · rw [if_pos (of_decide_eq_true e)] at a2
      refine asg_step (v := .int (farI g p n)) (H' := H') (fun R h => ⟨_, rfl, h⟩) ?_
      refine nx _ _ (Same.refl _) ⟨some (.int g), some (.int p), some (.int (farI g p n)), ?_⟩
      rw [show sumM n ((plp f n).take (k + 1)) = farI g p n by rw [tk, a2]]
      rfl
    · rw [if_neg (of_decide_eq_false e)] at a2
      refine nx _ _ (Same.refl _) ⟨some (.int g), some (.int p), some (.int (farI g p n)), ?_⟩
      rw [show sumM n ((plp f n).take (k + 1)) = sumM n ((plp f n).take k) by rw [tk, a2]]
      rfl
  · rintro σ H' ⟨x, y, z, rfl⟩ sm
    rw [show (plK (plp f n)).length = (plp f n).length from List.length_map _, List.take_length, e1, e2, e3]
    walk_at "run"
    exact ⟨sizes (by decide), fun l hl => q _ l (sm.trans (same_new hl)) upd_same⟩
theorem len_law_told (h : sp_law_told K C vs H Q E) : vs.length = (["_law_found", "_law_due"] : List Str).length := by
  unfold sp_law_told at h
  repeat (obtain ⟨_, h⟩ := h)
  subst_vars; rfl
theorem pure_law_told (XF : Facts K C) (h : sp_law_told K C vs H Q E) : t_law_told K C E { nx := fun _ H' => Q .non H', rt := Q } (start ["_law_found", "_law_due", "_law_one", "_law_other"] vs) H := by
  obtain ⟨t, l, A, B, D, rfl, ht, hL, q⟩ := h
  have hT : SqT K H t [.int A, .int B, .int D] := .inl (.inl ht)
  show tSeq _ _ _ [some (.ref t), some (.ref l), none, none] H
  refine if_step (b := false) (H' := H) (fun R h => ?_) (fun z => nomatch z) (fun _ => ?_)
  · walk_at "run"; refine ⟨_, tyOf_at ht rfl, ?_⟩
    walk_at "run"
    exact ⟨_, .inr hT, h⟩
  walk_at "nxt"
  refine for_zipM (a := t) (b := l) (H' := H) (fun R h => ⟨_, rfl, _, rfl, h⟩) hT hL rfl (fun k σ H' => Same H H' ∧ ∃ x y, σ = [some (.ref t), some (.ref l), x, y]) ⟨Same.refl _, _, _, rfl⟩ (fun k σ H' h => ⟨seqT_of h.1 hT, h.1.seq hL⟩) ?_ ?_
  · rintro k x y σ H1 hx hy ⟨s1, x2, x3, rfl⟩ H2 s2
    rw [hx] at hy
    cases hy
    obtain ⟨c, rfl⟩ : ∃ c, x = V.int c := by
      have := List.mem_of_getElem? hx
      simp only [List.mem_cons, List.not_mem_nil, or_false] at this
      rcases this with rfl | rfl | rfl <;> exact ⟨_, rfl⟩
    unfold t_law_told_b1
    refine if_step (b := false) (H' := H2) (fun R h => ?_) (fun z => nomatch z) (fun _ => ⟨s1.trans s2, _, _, rfl⟩)
    walk_at "run"; unfold sp_law_whole; walk_at "run"; exact h
  · rintro σ H1 ⟨s1, x2, x3, rfl⟩
    walk_at "run"; exact q _ s1
theorem len_law_odd (h : sp_law_odd K C vs H Q E) : vs.length = (["_law_cell"] : List Str).length := by
  unfold sp_law_odd at h
  repeat (obtain ⟨_, h⟩ := h)
  subst_vars; rfl
theorem pure_law_odd (XF : Facts K C) (h : sp_law_odd K C vs H Q E) : t_law_odd K C E { nx := fun _ H' => Q .non H', rt := Q } (start ["_law_cell", "_law_number", "_law_some"] vs) H := by
  obtain ⟨c, rfl, q⟩ := h
  show tSeq _ _ _ [some (.int c), none, none] H
  obtain ⟨g, hg⟩ : ∃ g, g = c / 13 % 10000000000000000000000000000000000000000 := ⟨_, rfl⟩
  obtain ⟨g0, g1⟩ : 0 ≤ g ∧ g < 10000000000000000000000000000000000000000 := by omega
  refine asg_step (v := .int g) (H' := H) (fun R h => ?_) ?_
  · walk_at "run"; rw [← hg]; exact h
  refine nx_at ?_
  refine asg_any (fun v H' => Same H H' ∧ ∃ p xs, v = .ref p ∧ H' p = some (.lst xs) ∧ xs.length = 13 ∧ ∀ x ∈ xs, isG x = false ∧ ∃ s, tyOf H' x = some s) (fun R h => ?_) ?_
  · walk_at "run"
    refine ⟨sizes (by decide), fun p1 h1 => ⟨sizes (by decide), fun p2 h2 p3 h3 => ⟨sizes (by decide), fun p4 h4 => ⟨sizes (by decide), fun p5 h5 => ?_⟩⟩⟩⟩
    have t1 : upd H p1 (.lst [V.int 7]) p1 = some (.lst [V.int 7]) := upd_same
    have s1 : Same H (upd H p1 (.lst [V.int 7])) := same_new h1
    revert s1 t1 h2 h3 h4 h5
    generalize upd H p1 (.lst [V.int 7]) = H1
    intro h2 h3 h4 h5 t1 s1
    have t2 : upd H1 p2 (.tup [V.int 7]) p2 = some (.tup [V.int 7]) := upd_same
    have s2 : Same H1 (upd H1 p2 (.tup [V.int 7])) := same_new h2
    revert s2 t2 h3 h4 h5
    generalize upd H1 p2 (.tup [V.int 7]) = H2
    intro h3 h4 h5 t2 s2
    have t3 : upd H2 p3 (.dK []) p3 = some (.dK []) := upd_same
    have s3 : Same H2 (upd H2 p3 (.dK [])) := same_new h3
    revert s3 t3 h4 h5
    generalize upd H2 p3 (.dK []) = H3
    intro h4 h5 t3 s3
    have t4 : upd H3 p4 (.lst []) p4 = some (.lst []) := upd_same
    have s4 : Same H3 (upd H3 p4 (.lst [])) := same_new h4
    revert s4 t4 h5
    generalize upd H3 p4 (.lst []) = H4
    intro h5 t4 s4
    have s5 := same_new (o := .lst [V.bl true, V.bl false, V.non, V.str (Str.ofString ""), V.str (Str.ofString "7"), V.ref p1, V.ref p2, V.ref p3, V.int (-1), V.int (1000000000000000000000000000000000000000000000000000000000000), V.int (-2 - g), V.int (1000000000000000000000000000000000000000000000000000000000000 + 1 + g), V.ref p4]) h5
    refine h _ _ ⟨s1.trans (s2.trans (s3.trans (s4.trans s5))), p5, _, rfl, upd_same, rfl, ?_⟩
    intro x hx
    simp only [List.mem_cons, List.not_mem_nil, or_false] at hx
    rcases hx with rfl | rfl | rfl | rfl | rfl | rfl | rfl | rfl | rfl | rfl | rfl | rfl | rfl
    · exact ⟨rfl, _, rfl⟩
    · exact ⟨rfl, _, rfl⟩
    · exact ⟨rfl, _, rfl⟩
    · exact ⟨rfl, _, rfl⟩
    · exact ⟨rfl, _, rfl⟩
    · exact ⟨rfl, _, tyOf_at (s5 _ _ (s4 _ _ (s3 _ _ (s2 _ _ t1)))) rfl⟩
    · exact ⟨rfl, _, tyOf_at (s5 _ _ (s4 _ _ (s3 _ _ t2))) rfl⟩
    · exact ⟨rfl, _, tyOf_at (s5 _ _ (s4 _ _ t3)) rfl⟩
    · exact ⟨isG_neg (by omega), _, rfl⟩
    · exact ⟨isG_big (by omega), _, rfl⟩
    · exact ⟨isG_neg (by omega), _, rfl⟩
    · exact ⟨isG_big (by omega), _, rfl⟩
    · exact ⟨rfl, _, tyOf_at (s5 _ _ t4) rfl⟩
  rintro v H1 ⟨s1, p, xs, rfl, hp, hlen, hxs⟩
  refine nx_at ?_
  walk_at "run"
  have hl : (c % 13).toNat < xs.length := by omega
  obtain ⟨k1, s, k2⟩ := hxs _ (List.getElem_mem hl)
  exact ⟨_, .inl (.inl hp), _, at_of (j := (c % 13).toNat) (by omega) (List.getElem?_eq_getElem hl), q _ _ s s1 k2 k1⟩
theorem len_law_refused (h : sp_law_refused K C vs H Q E) : vs.length = (["_law_guests", "_law_many"] : List Str).length := by
  unfold sp_law_refused at h
  repeat (obtain ⟨_, h⟩ := h)
  subst_vars; rfl
theorem pure_law_refused (XF : Facts K C) (h : sp_law_refused K C vs H Q E) : t_law_refused K C E { nx := fun _ H' => Q .non H', rt := Q } (start ["_law_guests", "_law_many", "e", "_law_own", "_law_others"] vs) H := by
  obtain ⟨a, xs, n, k, rfl, hS, hl, n2, n3, hty, hw, q⟩ := h
  show tSeq _ _ _ [some (.ref a), some (.int n), none, none, none] H
  have rest : ∀ (a' : Addr) (H2 : Hp) (D : Ends) (y z : Option V), k = .noGuest ∨ k = .twice ∨ k = .full → (∀ H3 d, Same H2 H3 → H3 d = some (.lst (rfK k)) → D.rt (.ref d) H3) →
      t_law_refused_b1_exc K C E a' (.ref (C.of k)) none D [some (.ref a), some (.int n), some (.ref a'), y, z] H2 := fun a' H2 D y z hk kk => by
    unfold t_law_refused_b1_exc
    refine asg_any (fun v H' => Same H2 H' ∧ ∃ d, v = .ref d ∧ H' d = some (.lst [.bl (decide (k = .noGuest)), .bl (decide (k = .twice)), .bl (decide (k = .full))])) (fun R h => ?_) ?_
    · walk_at "run"
      unfold rIsX
      refine ⟨k, rfl, rfl, .inl ⟨.noGuest, rfl, ?_⟩⟩
      refine ⟨k, rfl, rfl, .inl ⟨.twice, rfl, ?_⟩⟩
      refine ⟨k, rfl, rfl, .inl ⟨.full, rfl, ?_⟩⟩
      exact ⟨sizes (by decide), fun p hp => h _ _ ⟨same_new hp, p, rfl, upd_same⟩⟩
    rintro v H3 ⟨s3, d, rfl, hd⟩
    walk_at "nxt"
    refine asg_step (v := .bl false) (H' := H3) (fun R h => ?_) ?_
    · walk_at "run"
      unfold rIsX
      refine ⟨k, rfl, rfl, .inl ⟨.away, rfl, ?_⟩⟩
      have e1 : decide (k = .away) = false := by rcases hk with rfl | rfl | rfl <;> rfl
      have e3 : decide (k = .noSize) = false := by rcases hk with rfl | rfl | rfl <;> rfl
      rw [e1]
      refine ⟨false, rfl, ?_⟩
      rw [if_neg (by decide)]
      refine ⟨k, rfl, rfl, .inl ⟨.noSize, rfl, ?_⟩⟩
      rw [e3]; exact h
    walk_at "nxt"
    refine ret_any (fun v H' => Same H3 H' ∧ ∃ d, v = .ref d ∧ H' d = some (.lst (rfK k))) (fun R h => ?_) ?_
    · walk_at "run"
      unfold rIsX
      refine ⟨k, rfl, rfl, .inr ⟨rfl, ?_⟩⟩
      refine ⟨true, rfl, ?_⟩
      rw [if_pos rfl]
      refine ⟨sizes (by decide), fun p hp => ?_⟩
      refine ⟨_, same_new hp _ _ hd, _, upd_same, sizes (n := 4) (by decide), fun p2 hp2 => ?_⟩
      refine h _ _ ⟨(same_new hp).trans (same_new hp2), p2, rfl, ?_⟩
      rw [upd_same]; rfl
    rintro v H4 ⟨s4, d', rfl, hd'⟩
    exact kk _ _ (s3.trans s4) hd'
  have exc : (k = .noGuest ∨ k = .twice ∨ k = .full) → wAs K (.ref C.cRingError) 2 (t_law_refused_b1_exc K C E) W0 { nx := tRet (tLst tNil) { nx := fun _ H' => Q .non H', rt := Q }, rt := Q } (.ref (C.of k)) none [some (.ref a), some (.int n), none, none, none] H := fun hk =>
    ⟨true, XF.exm k, fun _ a' ha' => rest a' _ _ _ _ hk fun H3 d s3 hd => q H3 d s3 hd, (fun z => nomatch z)⟩
  unfold tTryAs t_law_refused_b1_try
  unfold tSeq tDrop tCallS
  walk_at "run"; unfold sp_first_come
  rcases hw with ⟨rfl, x, hx, hG⟩ | ⟨gs, rfl, hg, hk⟩
  · refine ⟨a, xs, n, rfl, hS, hl, n2, n3, hty, fun _ => exc (.inl rfl), fun gs e hg => ?_⟩
    subst e
    obtain ⟨g, hgm, rfl⟩ := List.mem_map.mp hx
    rw [hg g hgm] at hG; cases hG
  · refine ⟨a, _, n, rfl, hS, hl, n2, n3, hty, fun ⟨x, hx, hG⟩ => ?_, fun gs' e hg' => ?_⟩
    · obtain ⟨g, hgm, rfl⟩ := List.mem_map.mp hx
      rw [hg g hgm] at hG; cases hG
    · have := ints_inj e
      subst this
      rcases hk with ⟨rfl, nd⟩ | ⟨rfl, nd, le⟩
      · exact ⟨fun _ => exc (.inr (.inl rfl)), fun z => absurd z nd, fun z => absurd z nd⟩
      · exact ⟨fun z => absurd nd z, fun _ _ => exc (.inr (.inr rfl)), fun _ z => by omega⟩
theorem len_law_spoiled (h : sp_law_spoiled K C vs H Q E) : vs.length = (["_law_script", "_law_guests"] : List Str).length := by
  unfold sp_law_spoiled at h
  repeat (obtain ⟨_, h⟩ := h)
  subst_vars; rfl
theorem pure_law_spoiled (XF : Facts K C) (h : sp_law_spoiled K C vs H Q E) : t_law_spoiled K C E { nx := fun _ H' => Q .non H', rt := Q } (start ["_law_script", "_law_guests", "_law_way", "_law_spoiled_here", "_law_twice", "_law_many", "_law_full", "_law_due"] vs) H := by
  obtain ⟨a, b, ns, gs, rfl, hA, hB, hl, nd, hg, q⟩ := h
  show tSeq _ _ _ [some (.ref a), some (.ref b), none, none, none, none, none, none] H
  obtain ⟨w, hw⟩ : ∃ w, w = cellI ns 1 % 8 := ⟨_, rfl⟩
  have hw0 : 0 ≤ w ∧ w < 8 := by omega
  refine asg_step (v := .int w) (H' := H) (fun R h => ?_) ?_
  · walk_at "run"; unfold sp_law_cell_at; walk_at "run"; exact ⟨ns, hA, by rw [← hw]; exact h⟩
  walk_at "nxt"
  refine asg_any (fun v H' => Same H H' ∧ ∃ d, v = .ref d ∧ H' d = some (.lst (gs.map V.int)) ∧ H d = none) (fun R h => ?_) ?_
  · walk_at "run"; exact ⟨_, .inl hB, fun p hp => h _ _ ⟨same_new hp, p, rfl, upd_same, hp⟩⟩
  rintro _ H1 ⟨s1, d, rfl, hd, fd⟩
  walk_at "nxt"
  obtain ⟨tw, htw⟩ : ∃ tw : Bool, tw = decide (w / 2 % 2 = 1 ∧ 0 < gs.length) := ⟨_, rfl⟩
  refine asg_step (v := .bl tw) (H' := H1) (fun R h => ?_) ?_
  · walk_at "run"
    by_cases e : w / 2 % 2 = 1
    · rw [if_pos e]
      refine ⟨_, .inl (s1.seq hB), ?_⟩
      rw [List.length_map, show decide ((gs.length : Int) > 0) = tw by rw [htw]; exact decide_eq_decide.mpr ⟨fun z => ⟨e, by omega⟩, fun z => by omega⟩]
      exact h
    · rw [if_neg e]
      rw [htw, decide_eq_false (fun z => e z.1)] at h; exact h
  walk_at "nxt"
  /- who stands in the list behind the first insertion -/
  refine if_joinE (b := tw) (H' := H1) (fun σ' H' => σ' = [some (.ref a), some (.ref b), some (.int w), some (.ref d), some (.bl tw), none, none, none] ∧ Same H H' ∧ ∃ hs : List Int, H' d = some (.lst (hs.map V.int)) ∧ hs.length ≤ 64 ∧ (∀ g ∈ hs, isG (.int g) = true) ∧ (tw = true → ¬ hs.Nodup) ∧ (tw = false → hs.Nodup)) (fun R h => ?_) (fun e D _ _ _ nx => ?_) (fun e D _ _ _ nx => nx _ _ ⟨rfl, s1, gs, hd, by omega, hg, (fun z => by rw [e] at z; cases z), fun _ => nd⟩) ?_
  · walk_at "run"; exact h
  · have hpos : 0 < gs.length := (of_decide_eq_true (htw.symm.trans e)).2
    obtain ⟨i, hi⟩ : ∃ i, i = cellI ns 2 % ((gs.length : Int) + 1) := ⟨_, rfl⟩
    obtain ⟨j, hj⟩ : ∃ j, j = cellI ns 3 % (gs.length : Int) := ⟨_, rfl⟩
    have i0 : 0 ≤ i := by rw [hi]; exact Int.emod_nonneg _ (by omega)
    have i1 : i < gs.length + 1 := by rw [hi]; exact Int.emod_lt_of_pos _ (by omega)
    have j0 : 0 ≤ j := by rw [hj]; exact Int.emod_nonneg _ (by omega)
    have j1 : j < gs.length := by rw [hj]; exact Int.emod_lt_of_pos _ (by omega)
    have hlt : j.toNat < gs.length := by omega
    refine drop_any (fun v H' => H' = upd H1 d (.lst ((gs.take i.toNat ++ [gs[j.toNat]] ++ gs.drop i.toNat).map V.int))) (fun R h => ?_) ?_
    · unfold tBM; walk_at "run"
      refine ⟨ty_list (.inl (.inl hd)), ?_⟩
      unfold sp_law_cell_at; walk_at "run"
      refine ⟨ns, s1.seq hA, _, .inl (s1.seq hB), ?_⟩
      rw [List.length_map]
      refine ⟨by omega, ns, s1.seq hA, ?_⟩
      refine ⟨_, .inl (s1.seq hB), ?_⟩
      rw [List.length_map]
      refine ⟨by omega, _, s1.seq hB, .int gs[j.toNat], at_of (j := j.toNat) (by rw [← hj]; omega) (by rw [List.getElem?_map, List.getElem?_eq_getElem hlt]; rfl), ?_⟩
      rw [← hi]
      refine ⟨d, _, i, _, rfl, rfl, hd, sizel (by rw [List.length_map]; omega), i0, by omega, ?_⟩
      refine h _ _ ?_
      rw [List.map_append, List.map_append, List.map_take, List.map_drop]; rfl
    rintro _ _ rfl
    refine nx _ _ ⟨rfl, fun b' o' hb => ?_, _, upd_same, ?_, fun g hgm => ?_, fun _ => ins_not (List.getElem_mem hlt) _, (fun z => by rw [e] at z; cases z)⟩
    · rw [upd_ne (fun z => by rw [z, fd] at hb; cases hb)]; exact s1 _ _ hb
    · rw [List.length_append, List.length_append, List.length_take, List.length_drop, List.length_singleton]; omega
    · rcases List.mem_append.mp hgm with z | z
      · rcases List.mem_append.mp z with z | z
        · exact hg _ (List.mem_of_mem_take z)
        · rw [List.mem_singleton.mp z]; exact hg _ (List.getElem_mem hlt)
      · exact hg _ (List.mem_of_mem_drop z)
  rintro _ H2 ⟨rfl, s2, hs, hH2, hsl, hsg, hs1, hs2⟩
  walk_at "nxt"
  /- what stands there behind the second one -/
  refine if_joinE (b := decide (w % 2 = 1)) (H' := H2) (fun σ' H' => σ' = [some (.ref a), some (.ref b), some (.int w), some (.ref d), some (.bl tw), none, none, none] ∧ Same H H' ∧ ∃ xs : List V, H' d = some (.lst xs) ∧ xs.length ≤ 65 ∧ xs.all okV = true ∧ (∀ x ∈ xs, ∃ s, tyOf H' x = some s) ∧ ((w % 2 = 1 ∧ ∃ x ∈ xs, isG x = false) ∨ (w % 2 = 0 ∧ xs = hs.map V.int))) (fun R h => ?_) (fun e D _ _ _ nx => ?_) (fun e D _ _ _ nx => nx _ _ ⟨rfl, s2, _, hH2, by rw [List.length_map]; omega, by rw [List.all_map, List.all_eq_true]; intro x _; rfl, fun x hx => by obtain ⟨g, _, rfl⟩ := List.mem_map.mp hx; exact ⟨_, rfl⟩, .inr ⟨by have := of_decide_eq_false e; omega, rfl⟩⟩) ?_
  · walk_at "run"; exact h
  · have e' := of_decide_eq_true e
    obtain ⟨i, hi⟩ : ∃ i, i = cellI ns 3 / 89 % ((hs.length : Int) + 1) := ⟨_, rfl⟩
    have i0 : 0 ≤ i := by rw [hi]; exact Int.emod_nonneg _ (by omega)
    have i1 : i < hs.length + 1 := by rw [hi]; exact Int.emod_lt_of_pos _ (by omega)
    refine drop_any (fun v H' => ∃ H3 x t, Same H2 H3 ∧ isG x = false ∧ tyOf H3 x = some t ∧ H' = upd H3 d (.lst ((hs.map V.int).take i.toNat ++ [x] ++ (hs.map V.int).drop i.toNat))) (fun R h => ?_) ?_
    · unfold tBM; walk_at "run"
      refine ⟨ty_list (.inl (.inl hH2)), ?_⟩
      unfold sp_law_cell_at; walk_at "run"
      refine ⟨ns, s2.seq hA, _, .inl (.inl (.inl hH2)), ?_⟩
      rw [List.length_map]
      refine ⟨by omega, ns, s2.seq hA, ?_⟩
      unfold sp_law_odd
      refine ⟨_, rfl, fun H3 x t s3 ht hG => ?_⟩
      rw [← hi]
      exact ⟨d, _, i, _, rfl, rfl, s3 _ _ hH2, sizel (by rw [List.length_map]; omega), i0, by omega, h _ _ ⟨H3, x, t, s3, hG, ht, rfl⟩⟩
    rintro _ _ ⟨H3, x, t, s3, hG, ht, rfl⟩
    have tk : ∀ y s, tyOf H3 y = some s → tyOf (upd H3 d (.lst ((hs.map V.int).take i.toNat ++ [x] ++ (hs.map V.int).drop i.toNat))) y = some s := fun y s hy => by
      cases y with
      | ref p =>
        have h' : (H3 p).bind hoTy = some s := hy
        show (upd H3 d _ p).bind hoTy = some s
        by_cases e : p = d
        · subst e; rw [s3 _ _ hH2] at h'; rw [upd_same]; exact h'
        · rw [upd_ne e]; exact h'
      | _ => exact hy
    refine nx _ _ ⟨rfl, fun b' o' hb => ?_, _, upd_same, ?_, ?_, fun y hy => ?_, .inl ⟨e', x, by simp, hG⟩⟩
    · rw [upd_ne (fun z => by rw [z, fd] at hb; cases hb)]; exact s3 _ _ (s2 _ _ hb)
    · rw [List.length_append, List.length_append, List.length_take, List.length_drop, List.length_singleton, List.length_map]; omega
    · have hx : okV x = true := by
        cases x with
        | flt _ => cases ht
        | ty _ => cases ht
        | _ => rfl
      rw [List.all_append, List.all_append, List.all_cons, hx]
      simp only [List.all_nil, Bool.and_true, Bool.and_eq_true, List.all_eq_true]
      refine ⟨fun y hy => ?_, fun y hy => ?_⟩
      · obtain ⟨g, _, rfl⟩ := List.mem_map.mp (List.mem_of_mem_take hy); rfl
      · obtain ⟨g, _, rfl⟩ := List.mem_map.mp (List.mem_of_mem_drop hy); rfl
    · rcases List.mem_append.mp hy with z | z
      · rcases List.mem_append.mp z with z | z
        · obtain ⟨g, _, rfl⟩ := List.mem_map.mp (List.mem_of_mem_take z); exact ⟨_, rfl⟩
        · rw [List.mem_singleton.mp z]; exact ⟨t, tk _ _ ht⟩
      · obtain ⟨g, _, rfl⟩ := List.mem_map.mp (List.mem_of_mem_drop z); exact ⟨_, rfl⟩
  rintro _ H3 ⟨rfl, s3, xs, hX, hxl, hxo, hxt, hxw⟩
  have hXs : SqL K H3 d xs := .inl (.inl hX)
  walk_at "nxt"
  obtain ⟨r, hr⟩ : ∃ r, r = cellI ns 4 / 1009 % 5 := ⟨_, rfl⟩
  have hr0 : 0 ≤ r ∧ r < 5 := by omega
  obtain ⟨m, hm0, hm1, hm2, hm3⟩ := max_is (i := 2) (j := (xs.length : Int) + 1 + r)
  refine asg_step (v := .int m) (H' := H3) (fun R h => ?_) ?_
  · walk_at "run"; refine ⟨_, .inl hXs, ?_⟩
    unfold sp_law_cell_at; walk_at "run"
    refine ⟨ns, s3.seq hA, ?_⟩
    rw [← hr, ← hm0]; exact h
  walk_at "nxt"
  obtain ⟨fu, hfu⟩ : ∃ fu : Bool, fu = decide (w / 4 = 1 ∧ 1 < xs.length) := ⟨_, rfl⟩
  refine asg_step (v := .bl fu) (H' := H3) (fun R h => ?_) ?_
  · walk_at "run"
    by_cases e : w / 4 = 1
    · rw [if_pos e]
      refine ⟨_, .inl hXs, ?_⟩
      rw [show decide ((xs.length : Int) > 1) = fu by rw [hfu]; exact decide_eq_decide.mpr ⟨fun z => ⟨e, by omega⟩, fun z => by omega⟩]
      exact h
    · rw [if_neg e]
      rw [hfu, decide_eq_false (fun z => e z.1)] at h; exact h
  walk_at "nxt"
  refine if_joinE (b := fu) (H' := H3) (fun σ' H' => H3 = H' ∧ ∃ n : Nat, σ' = [some (.ref a), some (.ref b), some (.int w), some (.ref d), some (.bl tw), some (.int n), some (.bl fu), none] ∧ 2 ≤ n ∧ n ≤ 1024 ∧ (fu = true → n ≤ xs.length)) (fun R h => ?_) (fun e D _ _ _ nx => ?_) (fun e D _ _ _ nx => nx _ _ ⟨rfl, m.toNat, by rw [Int.toNat_of_nonneg (by omega)], by omega, by omega, fun z => by rw [e] at z; cases z⟩) ?_
  · walk_at "run"; exact h
  · have h1 : 1 < xs.length := (of_decide_eq_true (hfu.symm.trans e)).2
    obtain ⟨m', k0, k1, k2, k3⟩ := max_is (i := 2) (j := (xs.length : Int) - r)
    refine asg_step (v := .int m') (H' := H3) (fun R h => ?_) (nx _ _ ⟨rfl, m'.toNat, by rw [Int.toNat_of_nonneg (by omega)]; rfl, by omega, by omega, fun _ => by omega⟩)
    walk_at "run"; refine ⟨_, .inl hXs, ?_⟩
    unfold sp_law_cell_at; walk_at "run"
    refine ⟨ns, s3.seq hA, ?_⟩
    rw [← hr, ← k0]; exact h
  rintro _ _ ⟨rfl, n, rfl, n2, n3, hn⟩
  walk_at "nxt"
  obtain ⟨d1, hd1⟩ : ∃ d1 : Bool, d1 = decide (w % 2 = 1) := ⟨_, rfl⟩
  obtain ⟨d2, hd2⟩ : ∃ d2 : Bool, d2 = (decide (w % 2 = 0) && tw) := ⟨_, rfl⟩
  obtain ⟨d3, hd3⟩ : ∃ d3 : Bool, d3 = (decide (w % 2 = 0) && (!tw && fu)) := ⟨_, rfl⟩
  refine asg_any (fun v H' => Same H3 H' ∧ ∃ p, v = .ref p ∧ H' p = some (.lst (dueV d1 d2 d3))) (fun R h => ?_) ?_
  · walk_at "run"
    by_cases e : w % 2 = 0
    · rw [if_pos e, if_pos e]
      split
      · rename_i e2
        refine ⟨sizes (by decide), fun p hp => h _ _ ⟨same_new hp, p, rfl, ?_⟩⟩
        rw [upd_same, hd1, hd2, hd3, e2, decide_eq_true e]; rfl
      · rename_i e2
        have e2 : tw = true := by simpa using e2
        refine ⟨sizes (by decide), fun p hp => h _ _ ⟨same_new hp, p, rfl, ?_⟩⟩
        rw [upd_same, hd1, hd2, hd3, e2, decide_eq_true e]; rfl
    · rw [if_neg e, if_neg e]
      refine ⟨sizes (by decide), fun p hp => h _ _ ⟨same_new hp, p, rfl, ?_⟩⟩
      rw [upd_same, hd1, hd2, hd3, decide_eq_false e]; rfl
  rintro _ H4 ⟨s4, pD, rfl, hD⟩
  walk_at "run"
  refine ⟨sizes (by decide), fun t ht => ?_⟩
  have s5 := same_new (o := .lst [V.ref d, V.int n, V.ref pD]) ht
  refine q _ t d pD n xs d1 d2 d3 (s3.trans (s4.trans s5)) upd_same (s5 _ _ (s4 _ _ hX)) (s5 _ _ hD) (by omega) n2 n3 hxo (fun x hx => ?_) ?_
  · obtain ⟨s, hs⟩ := hxt x hx
    exact ⟨s, tyOf_same hs (s4.trans s5)⟩
  rcases hxw with ⟨e1, hx⟩ | ⟨e1, rfl⟩
  · refine .inr ⟨.noGuest, .inl ⟨rfl, hx⟩, ?_⟩
    rw [hd1, hd2, hd3, decide_eq_true e1, decide_eq_false (show ¬ w % 2 = 0 by omega)]; rfl
  · rw [decide_eq_false (show ¬ w % 2 = 1 by omega)] at hd1
    rw [decide_eq_true e1, Bool.true_and] at hd2 hd3
    cases htw' : tw with
    | true =>
      refine .inr ⟨.twice, .inr ⟨hs, rfl, hsg, .inl ⟨rfl, hs1 htw'⟩⟩, ?_⟩
      rw [hd1, hd2, hd3, htw']; rfl
    | false =>
      cases hfu' : fu with
      | true =>
        refine .inr ⟨.full, .inr ⟨hs, rfl, hsg, .inr ⟨rfl, hs2 htw', by have := hn hfu'; rw [List.length_map] at this; exact this⟩⟩, ?_⟩
        rw [hd1, hd2, hd3, htw', hfu']; rfl
      | false =>
        refine .inl ⟨hd1, ?_, ?_⟩
        · rw [hd2, htw']
        · rw [hd3, htw', hfu']; rfl
theorem len_law (h : sp_law K C vs H Q E) : vs.length = (["_law_script"] : List Str).length := by
  unfold sp_law sp_law0 at h
  repeat (obtain ⟨_, h⟩ := h)
  subst_vars; rfl
theorem pure_law (XF : Facts K C) (h : sp_law K C vs H Q E) : t_law K C E { nx := fun _ H' => Q .non H', rt := Q } (start ["_law_script", "_law_guests", "_law_spoiled_here", "_law_many", "_law_due", "_law_kept", "_law_handed", "_law_one", "_law_places_here", "_law_held", "_law_other", "_law_others", "_law_first", "_law_second"] vs) H := by
  obtain ⟨a, ns, rfl, hS, hl, q⟩ := h
  show tSeq _ _ _ [some (.ref a), none, none, none, none, none, none, none, none, none, none, none, none, none] H
  obtain ⟨b, hb⟩ : ∃ b, b = baseI (cellI ns 0) := ⟨_, rfl⟩
  have hb0 : 0 ≤ b ∧ b < 10000000000000000000000000000000000000000000000000000000000 := by rw [hb]; exact baseI_ok _
  refine asg_any (fun v H' => Same H H' ∧ ∃ (pG : Addr) (gs : List Int), v = .ref pG ∧ H' pG = some (.lst (gs.map V.int)) ∧ gs.Nodup ∧ gs.length ≤ 63 ∧ ∀ x ∈ gs, isG (.int x) = true) (fun R h => ?_) ?_
  · walk_at "run"
    refine ⟨_, hS, fun p hp => ?_⟩
    obtain ⟨cs, hc, hcl⟩ := cut_ints (ns := ns) (lo := some 5) (hi := some 89)
    rw [hc]
    unfold sp_law_base sp_law_cell_at; walk_at "run"
    refine ⟨ns, (same_new hp).seq hS, ?_⟩
    unfold sp_law_drawn
    refine ⟨p, cs, b, by rw [hb], .inl (.inl upd_same), by omega, fun H' d gs sm hd nd len gb => h _ _ ⟨(same_new hp).trans sm, d, gs, rfl, hd, nd, by omega, fun x hx => ?_⟩⟩
    obtain ⟨c, rfl⟩ := gb x hx
    exact gstI_g c b hb0
  rintro _ H2 ⟨s2, pG, gs, rfl, hG, nd, len, hg⟩
  have hG2 : SqL K H2 pG (gs.map V.int) := .inl (.inl hG)
  walk_at "nxt"
  refine asg_lst3 (fun u w z H' => Same H2 H' ∧ ∃ (pS pD : Addr) (n : Nat) (xs : List V) (d1 d2 d3 : Bool), u = .ref pS ∧ w = .int n ∧ z = .ref pD ∧ H' pS = some (.lst xs) ∧ H' pD = some (.lst (dueV d1 d2 d3)) ∧ xs.length ≤ 100 ∧ 2 ≤ n ∧ n ≤ 1024 ∧ xs.all okV = true ∧ (∀ x ∈ xs, ∃ s, tyOf H' x = some s) ∧
    ((d1 = false ∧ d2 = false ∧ d3 = false) ∨ ∃ k, Why xs n k ∧ dueV d1 d2 d3 = [.bl (decide (k = .noGuest)), .bl (decide (k = .twice)), .bl (decide (k = .full))])) (fun R h => ?_) ?_
  · walk_at "run"; unfold sp_law_spoiled
    exact ⟨a, pG, ns, gs, rfl, s2.seq hS, hG2, by omega, nd, hg, fun H' t pS pD n xs d1 d2 d3 sm e1 e2 e3 e4 e5 e6 e7 e8 e9 => h _ _ _ _ _ e1 ⟨sm, pS, pD, n, xs, d1, d2, d3, rfl, rfl, rfl, e2, e3, e4, e5, e6, e7, e8, e9⟩⟩
  rintro _ _ _ H3 ⟨s3, pS, pD, n0, xs, d1, d2, d3, rfl, rfl, rfl, hX, hD, xl, n2, n3, xo, xt, hw⟩
  walk_at "nxt"
  refine asg_any (fun v H' => Same H3 H' ∧ ∃ d, v = .ref d ∧ H' d = some (.lst xs)) (fun R h => ?_) ?_
  · walk_at "run"; exact ⟨_, .inl (.inl (.inl hX)), fun p hp => h _ _ ⟨same_new hp, p, rfl, upd_same⟩⟩
  rintro _ H4 ⟨s4, pK, rfl, hK⟩
  walk_at "nxt"
  refine if_ext (b := false) (fun R h => ?_) (fun z => nomatch z) (fun _ H5 s5 => ?_)
  · walk_at "run"
    refine ⟨_, .inl (.inl (.inl (s4 _ _ hD))), rfl, rfl, ?_⟩
    rcases hw with ⟨rfl, rfl, rfl⟩ | ⟨k, hk, hv⟩
    · rw [if_neg (by decide)]; exact h _ (Same.refl _)
    split
    · unfold sp_law_refused
      refine ⟨pS, xs, n0, k, rfl, .inl (.inl (s4 _ _ hX)), by omega, n2, n3, fun x hx => ?_, hk, fun H5 d s5 hd => ?_⟩
      · obtain ⟨s, hs⟩ := xt x hx
        exact ⟨s, tyOf_same hs s4⟩
      refine ⟨sizes (by decide), fun p1 hp1 => ⟨_, same_new hp1 _ _ (s5 _ _ (s4 _ _ hD)), _, upd_same, sizes (n := 4) (by decide), fun p2 hp2 => ?_⟩⟩
      have sp := (same_new (o := .lst [V.bl true]) hp1).trans (same_new (o := .lst (dueV d1 d2 d3 ++ [.bl true])) hp2)
      refine neD_lst (.inl (.inl (sp _ _ hd))) (.inl (.inl (by rw [upd_same, hv]; rfl))) (rfK_flD k) ⟨_, rfl, ?_⟩
      rw [if_neg (by decide)]
      exact ⟨pS, pK, xs, rfl, rfl, .inl (.inl (sp _ _ (s5 _ _ (s4 _ _ hX)))), .inl (.inl (sp _ _ (s5 _ _ hK))), xo, _, rfl, h _ (s5.trans sp)⟩
    · exact h _ (Same.refl _)
  have s25 : Same H2 H5 := s3.trans (s4.trans s5)
  have hG5 : SqL K H5 pG (gs.map V.int) := s25.seq hG2
  have hS5 : SqL K H5 a (ns.map V.int) := s25.seq (s2.seq hS)
  walk_at "nxt"
  obtain ⟨r, hr⟩ : ∃ r, r = cellI ns 2 / 101 % 40 := ⟨_, rfl⟩
  have hr0 : 0 ≤ r ∧ r < 40 := by omega
  obtain ⟨m, hm0, hm1, hm2, hm3⟩ := max_is (i := 2) (j := (gs.length : Int) + 1 + r)
  refine asg_step (v := .int m) (H' := H5) (fun R h => ?_) ?_
  · walk_at "run"; refine ⟨_, .inl hG5, ?_⟩
    unfold sp_law_cell_at; walk_at "run"
    refine ⟨ns, hS5, ?_⟩
    rw [List.length_map, ← hr, ← hm0]; exact h
  walk_at "nxt"
  refine if_joinE (b := decide (cellI ns 2 % 8 = 3)) (H' := H5) (fun σ' H' => H5 = H' ∧ ∃ n : Nat, σ' = [some (.ref a), some (.ref pG), some (.ref pS), some (.int n), some (.ref pD), some (.ref pK), none, none, none, none, none, none, none, none] ∧ 2 ≤ n ∧ n ≤ 1024 ∧ gs.length < n) (fun R h => ?_) (fun e D _ _ _ nx => ?_) (fun e D _ _ _ nx => nx _ _ ⟨rfl, m.toNat, by rw [Int.toNat_of_nonneg (by omega)], by omega, by omega, by omega⟩) ?_
  · walk_at "run"; unfold sp_law_cell_at; walk_at "run"; exact ⟨ns, hS5, h⟩
  · obtain ⟨r', hr'⟩ : ∃ r, r = cellI ns 2 / 101 % (1024 - (gs.length : Int)) := ⟨_, rfl⟩
    have r0 : 0 ≤ r' := by rw [hr']; exact Int.emod_nonneg _ (by omega)
    have r1 : r' < 1024 - (gs.length : Int) := by rw [hr']; exact Int.emod_lt_of_pos _ (by omega)
    obtain ⟨m', k0, k1, k2, k3⟩ := max_is (i := 2) (j := (gs.length : Int) + 1 + r')
    refine asg_step (v := .int m') (H' := H5) (fun R h => ?_) (nx _ _ ⟨rfl, m'.toNat, by rw [Int.toNat_of_nonneg (by omega)]; rfl, by omega, by omega, by omega⟩)
    walk_at "run"; refine ⟨_, .inl hG5, ?_⟩
    unfold sp_law_cell_at; walk_at "run"
    refine ⟨ns, hS5, _, .inl hG5, ?_⟩
    rw [List.length_map]
    refine ⟨by omega, ?_⟩
    rw [← hr', ← k0]; exact h
  rintro _ _ ⟨rfl, n, rfl, n2, n3, hgn⟩
  have hn0 : 0 < n := by omega
  walk_at "nxt"
  refine asg_any (fun v H' => Same H5 H' ∧ ∃ d, v = .ref d ∧ H' d = some (.lst (gs.map V.int)) ∧ H5 d = none) (fun R h => ?_) ?_
  · walk_at "run"; exact ⟨_, .inl hG5, fun p hp => h _ _ ⟨same_new hp, p, rfl, upd_same, hp⟩⟩
  rintro _ H6 ⟨s6, pH, rfl, hH, fH⟩
  walk_at "nxt"
  refine asg_any (fun v H' => Same H6 H' ∧ ∃ s F, v = .ref s ∧ H' s = some (.lst (row n (F gs.length))) ∧ H6 s = none ∧ Trn n gs F gs.length) (fun R h => ?_) ?_
  · walk_at "run"; unfold sp_first_come
    refine ⟨pH, _, n, rfl, .inl (.inl hH), by rw [List.length_map]; omega, n2, n3, ints_ty, fun z => absurd z (ints_bad hg), fun gs' e hg' => ?_⟩
    have := ints_inj e
    subst this
    exact ⟨fun z => absurd nd z, fun _ z => by omega, fun _ _ H' s F sm hs h0 T => h _ _ ⟨sm, s, F, rfl, hs, h0, T⟩⟩
  rintro _ H7 ⟨s7, p1, F, rfl, h1, f1, T⟩
  have O := T.ok nd (Nat.le_refl _) gs.length (Nat.le_refl _)
  have hH7 := s7 _ _ hH
  have h1H : p1 ≠ pH := fun z => by rw [z, hH] at f1; cases f1
  have hG7 : SqL K H7 pG (gs.map V.int) := s7.seq (s6.seq hG5)
  obtain ⟨u, hu⟩ : ∃ u, u = F gs.length := ⟨_, rfl⟩
  rw [← hu] at h1 O
  walk_at "nxt"
  refine asg_any (fun v H' => Same H7 H' ∧ ∃ d, v = .ref d ∧ H' d = some (.dK (plK (plp u n))) ∧ H7 d = none) (fun R h => ?_) ?_
  · walk_at "run"; unfold sp_law_places
    exact ⟨p1, n, u, rfl, h1, n3, O.O, fun H' d sm hd h0 => h _ _ ⟨sm, d, rfl, hd, h0⟩⟩
  rintro _ H8 ⟨s8, pP, rfl, hP, fP⟩
  have hPH : pP ≠ pH := fun z => by rw [z, hH7] at fP; cases fP
  walk_at "nxt"
  refine if_ext (b := false) (fun R h => ?_) (fun z => nomatch z) (fun _ H9 s9 => ?_)
  · walk_at "run"
    refine neD_lst (.inl (.inl (s8 _ _ hH7))) (s8.seq hG7) ints_flD ⟨_, rfl, ?_⟩
    rw [if_neg (by decide)]
    unfold sp_law_in_turn
    exact ⟨pG, pP, n, gs, F, rfl, s8.seq hG7, by rw [← hu]; exact hP, nd, hgn, n3, T, fun H9 s9 => ⟨_, rfl, h _ s9⟩⟩
  have h19 := s9 _ _ (s8 _ _ h1)
  have hH9 := s9 _ _ (s8 _ _ hH7)
  have hP9 := s9 _ _ hP
  walk_at "nxt"
  refine asg_any (fun v H' => Same H9 H' ∧ ∃ d, v = .ref d ∧ H' d = some (.lst (row n u)) ∧ H9 d = none) (fun R h => ?_) ?_
  · walk_at "run"; exact ⟨_, .inl (.inl (.inl h19)), fun p hp => h _ _ ⟨same_new hp, p, rfl, upd_same, hp⟩⟩
  rintro _ H10 ⟨s10, pL, rfl, hL, fL⟩
  have hLH : pL ≠ pH := fun z => by rw [z, hH9] at fL; cases fL
  walk_at "nxt"
  refine drop_any (fun v H' => H' = upd H10 pH (.lst [])) (fun R h => ?_) ?_
  · walk_at "run"
    exact ⟨ty_list (.inl (.inl (s10 _ _ hH9))), _, _, rfl, rfl, s10 _ _ hH9, h _ _ rfl⟩
  rintro _ _ rfl
  have s5c : Same H5 (upd H10 pH (.lst [])) := fun b' o' hb => by
    rw [upd_ne (fun z => by rw [z, fH] at hb; cases hb)]
    exact s10 _ _ (s9 _ _ (s8 _ _ (s7 _ _ (s6 _ _ hb))))
  have h1c : upd H10 pH (.lst []) p1 = some (.lst (row n u)) := by rw [upd_ne h1H]; exact s10 _ _ h19
  have hLc : upd H10 pH (.lst []) pL = some (.lst (row n u)) := by rw [upd_ne hLH]; exact hL
  have hPc : upd H10 pH (.lst []) pP = some (.dK (plK (plp u n))) := by rw [upd_ne hPH]; exact s10 _ _ hP9
  have hGc : SqL K (upd H10 pH (.lst [])) pG (gs.map V.int) := s5c.seq hG5
  revert h1c hLc hPc hGc
  generalize upd H10 pH (.lst []) = H11
  intro h1c hLc hPc hGc
  walk_at "nxt"
  refine asg_any (fun v H' => Same H11 H' ∧ ∃ s f, v = .ref s ∧ H' s = some (.lst (row n f)) ∧ Seat n f gs) (fun R h => ?_) ?_
  · walk_at "run"; unfold sp_seated
    refine ⟨pG, _, n, rfl, hGc, by rw [List.length_map]; omega, n2, n3, ints_ty, fun z => absurd z (ints_bad hg), fun gs' e hg' => ?_⟩
    have := ints_inj e
    subst this
    exact ⟨fun z => absurd nd z, fun _ z => by omega, fun _ _ H' s f sm hs h0 S => h _ _ ⟨sm, s, f, rfl, hs, S⟩⟩
  rintro _ H12 ⟨s12, p2, f, rfl, h2, S⟩
  obtain ⟨fa, fb, fc, fd⟩ := fair hn0 O S hg
  walk_at "nxt"
  refine asg_any (fun v H' => Same H12 H' ∧ ∃ d, v = .ref d ∧ H' d = some (.dK (plK (plp f n)))) (fun R h => ?_) ?_
  · walk_at "run"; unfold sp_law_places
    exact ⟨p2, n, f, rfl, h2, n3, fun p q x hp hq e1 e2 => Ring.path_one (hm_lt hn0) S.P hp hq e1 e2, fun H' d sm hd h0 => h _ _ ⟨sm, d, rfl, hd⟩⟩
  rintro _ H13 ⟨s13, pO, rfl, hO⟩
  have hP13 := s13 _ _ (s12 _ _ hPc)
  have hG13 : SqL K H13 pG (gs.map V.int) := s13.seq (s12.seq hGc)
  have pm := S.perm hn0
  have glen := pm.length_eq
  have seq : (plp f n).map (·.2) = (plp u n).map (·.2) := by
    rw [plp_seats, plp_seats]
    refine List.filter_congr fun p hp => ?_
    have := fd p (List.mem_range.mp hp)
    cases e1 : f p <;> cases e2 : u p <;> simp [e1, e2] at this ⊢
  have flen : (plp f n).length = gs.length := by
    have := congrArg List.length (plp_gl (f := f) (k := n))
    rw [List.length_map] at this; omega
  have ulen : (plp u n).length = gs.length := by
    have := congrArg List.length seq
    rw [List.length_map, List.length_map] at this; omega
  walk_at "nxt"
  refine if_ext (b := false) (fun R h => ?_) (fun z => nomatch z) (fun _ H14 s14 => ?_)
  · unfold tSortedVals; walk_at "run"
    refine ⟨pO, plK (plp f n), Ring.gl n f, rfl, .inl hO, by rw [plK_keys, plp_gl], by omega, fun l1 q1 pm1 so1 hq1 => ?_⟩
    unfold rSortedI
    refine ⟨pG, gs, rfl, (same_new hq1).seq hG13, fun l2 q2 pm2 so2 hq2 => ?_⟩
    have e := sorted_one pm1 pm2 so1 so2 pm
    subst e
    have sq := (same_new (o := .lst (l1.map V.int)) hq1).trans (same_new (o := .lst (l1.map V.int)) hq2)
    refine neD_lst ((same_new hq2).seq (.inl (.inl upd_same))) (.inl (.inl upd_same)) ints_flD ⟨_, rfl, ?_⟩
    rw [if_neg (by decide)]
    refine ⟨_, sq _ _ hO, _, plK_vals, by rw [List.length_map, List.length_map]; omega, fun l3 q3 pm3 so3 hq3 => ?_⟩
    refine ⟨_, same_new hq3 _ _ (sq _ _ hP13), _, plK_vals, by rw [List.length_map, List.length_map]; omega, fun l4 q4 pm4 so4 hq4 => ?_⟩
    rw [seq] at pm3
    have e := sorted_one pm3 pm4 so3 so4 (List.Perm.refl _)
    subst e
    exact neD_lst ((same_new hq4).seq (.inl (.inl upd_same))) (.inl (.inl upd_same)) ints_flD ⟨_, rfl, h _ (sq.trans ((same_new hq3).trans (same_new hq4)))⟩
  have hP14 := s14 _ _ hP13
  have hO14 := s14 _ _ hO
  walk_at "nxt"
  refine asg_any (fun v H' => Same H14 H' ∧ ∃ l, v = .ref l ∧ H' l = some (.lst [.int (sT n u n), .int (sM n u n), .int (sS n u n)])) (fun R h => ?_) ?_
  · walk_at "run"; unfold sp_law_sums
    exact ⟨pP, n, u, rfl, hP14, by omega, n3, fun H' l sm hl => h _ _ ⟨sm, l, rfl, hl⟩⟩
  rintro _ H15 ⟨s15, l1, rfl, hl1⟩
  walk_at "nxt"
  refine asg_any (fun v H' => Same H15 H' ∧ ∃ l, v = .ref l ∧ H' l = some (.lst [.int (sT n f n), .int (sM n f n), .int (sS n f n)])) (fun R h => ?_) ?_
  · walk_at "run"; unfold sp_law_sums
    exact ⟨pO, n, f, rfl, s15 _ _ hO14, by omega, n3, fun H' l sm hl => h _ _ ⟨sm, l, rfl, hl⟩⟩
  rintro _ H16 ⟨s16, l2, rfl, hl2⟩
  have hl1' := s16 _ _ hl1
  have h116 := s16 _ _ (s15 _ _ (s14 _ _ (s13 _ _ (s12 _ _ h1c))))
  have hL16 := s16 _ _ (s15 _ _ (s14 _ _ (s13 _ _ (s12 _ _ hLc))))
  have h216 := s16 _ _ (s15 _ _ (s14 _ _ (s13 _ _ h2)))
  walk_at "nxt"
  refine if_step (b := false) (H' := H16) (fun R h => ?_) (fun z => nomatch z) (fun _ => ?_)
  · walk_at "run"
    refine ⟨_, .inl (.inl hl2), .int (sT n f n), rfl, _, .inl (.inl hl1'), .int (sT n u n), rfl, ?_⟩
    rw [fa]; walk_at "run"
    refine ⟨_, .inl (.inl hl2), .int (sM n f n), rfl, _, .inl (.inl hl1'), .int (sM n u n), rfl, ?_⟩
    walk_at "run"
    rw [if_neg (by omega)]
    refine ⟨_, .inl (.inl hl2), .int (sS n f n), rfl, _, .inl (.inl hl1'), .int (sS n u n), rfl, ?_⟩
    walk_at "run"
    rw [decide_eq_false (by omega)]; exact h
  walk_at "run"
  unfold sp_strain
  refine ⟨p1, n, u, rfl, .inl (.inl h116), n3, fun H17 t17 s17 ht17 => ?_⟩
  unfold sp_law_told
  refine ⟨t17, l1, _, _, _, rfl, ht17, .inl (.inl (s17 _ _ hl1')), fun H18 s18 => ⟨true, rfl, ?_⟩⟩
  rw [if_pos rfl]
  refine ⟨p2, n, f, rfl, .inl (.inl (s18 _ _ (s17 _ _ h216))), n3, fun H19 t19 s19 ht19 => ?_⟩
  refine ⟨t19, l2, _, _, _, rfl, ht19, .inl (.inl (s19 _ _ (s18 _ _ (s17 _ _ hl2)))), fun H20 s20 => ⟨true, rfl, ?_⟩⟩
  rw [if_pos rfl]
  exact eqD_lst (.inl (.inl (s20 _ _ (s19 _ _ (s18 _ _ (s17 _ _ h116)))))) (.inl (.inl (s20 _ _ (s19 _ _ (s18 _ _ (s17 _ _ hL16)))))) row_flD (q _)
end
end RS
namespace RS
open PySem PySem.Spec PyProof.Rows L2
def topS (i : Nat) : Stmt := PySem.Challenge.pw_ringseat_k09_whole_first_come.main.body.getD i (.Pass ⟨0, 0, 0, 0⟩)
/-- the built-in names that the text reads are still the built-in ones -/
structure Bl (mg : Str → Option Value) : Prop where
  ValueError : mg "ValueError" = none
  bool : mg "bool" = none
  enumerate : mg "enumerate" = none
  int : mg "int" = none
  isinstance : mg "isinstance" = none
  len : mg "len" = none
  list : mg "list" = none
  max : mg "max" = none
  set : mg "set" = none
  sorted : mg "sorted" = none
  tuple : mg "tuple" = none
  zip : mg "zip" = none
abbrev s_is_guest : Stmt := topS 8
theorem sc_is_guest : FnScope ["thing"] ["thing"] (defScope s_is_guest) := ⟨rfl, rfl, rfl, by decide +kernel, rfl, by decide +kernel, by decide +kernel⟩
theorem ok_is_guest {P : Program} {w : World} {K : PySem.W.Frag} {mg : Str → Option Value} {base : Heap} {C : Cs} {f : Addr} {fd : FuncData} (F : Fun K "is_guest" "is_guest" s_is_guest f fd) (B : Bl mg) (T : Top K mg C) :
    FnOk P w K mg base CX0 1 f fd ["thing"] (sp_is_guest K C) := by
  refine F.ok sc_is_guest (fun vs H Q E h => len_is_guest h) (fun cdv A outer s H vs Q E hr h => ⟨t_is_guest K C E, ?_, pure_is_guest T.f h⟩)
  have hu := hu_of hr
  exact (pss_cons (ps_if (PW.pt (pw_or (pt_not (pt_val (pe_callB call_isA (by rfl) B.isinstance (by decide +kernel) (pa_cons (pv 0) (pa_cons (pe_bltn (v := .ty "int") (by rfl) B.int (by decide +kernel) rfl) pa_nil))))) (pw_or1 (pt_val (pe_callB call_isA (by rfl) B.isinstance (by decide +kernel) (pa_cons (pv 0) (pa_cons (pe_bltn (v := .ty "bool") (by rfl) B.bool (by decide +kernel) rfl) pa_nil))))))) (pss_one (ps_ret pe_bl)) pss_nil)
      (pss_one (ps_ret (pe_and (pe_cmpR op_le pe_int (pv 0) (nomark _)) (pe_one (pe_cmpR op_lt (pv 0) (pe_pow (m := 10) (n := 60) (N := 1000000000000000000000000000000000000000000000000000000000000) rfl rfl (by decide +kernel) (by decide) (by decide)) (nomark _)))))))
theorem cal_is_guest {P : Program} {w : World} {K : PySem.W.Frag} {mg : Str → Option Value} {base : Heap} {C : Cs} (D : Def K mg "is_guest" s_is_guest) (B : Bl mg) (T : Top K mg C) :
    Cal P w K mg base CX0 1 "is_guest" ["thing"] (sp_is_guest K C) := by
  obtain ⟨f, fd, F, hm⟩ := D.ex
  exact ⟨f, fd, ok_is_guest F B T, hm, F.kp, F.binds (ps := ["thing"]) fun _ _ _ _ _ _ us hl => match us, hl with | [_], _ => rfl⟩
abbrev s_home : Stmt := topS 9
theorem sc_home : FnScope ["guest", "many"] ["guest", "many"] (defScope s_home) := ⟨rfl, rfl, rfl, by decide +kernel, rfl, by decide +kernel, by decide +kernel⟩
theorem ok_home {P : Program} {w : World} {K : PySem.W.Frag} {mg : Str → Option Value} {base : Heap} {C : Cs} {f : Addr} {fd : FuncData} (F : Fun K "home" "home" s_home f fd) (B : Bl mg) (T : Top K mg C) :
    FnOk P w K mg base CX0 1 f fd ["guest", "many"] (sp_home K C) := by
  refine F.ok sc_home (fun vs H Q E h => len_home h) (fun cdv A outer s H vs Q E hr h => ⟨t_home K C E, ?_, pure_home T.f h⟩)
  have hu := hu_of hr
  exact (pss_one (ps_ret (pe_op op_mod (pe_op op_mod (pe_op op_add (pe_op op_mulL (pv 0) pe_int) (pe_op op_fdiv (pv 0) pe_int)) pe_int) (pv 1))))
theorem cal_home {P : Program} {w : World} {K : PySem.W.Frag} {mg : Str → Option Value} {base : Heap} {C : Cs} (D : Def K mg "home" s_home) (B : Bl mg) (T : Top K mg C) :
    Cal P w K mg base CX0 1 "home" ["guest", "many"] (sp_home K C) := by
  obtain ⟨f, fd, F, hm⟩ := D.ex
  exact ⟨f, fd, ok_home F B T, hm, F.kp, F.binds (ps := ["guest", "many"]) fun _ _ _ _ _ _ us hl => match us, hl with | [_, _], _ => rfl⟩
abbrev s_carried : Stmt := topS 10
theorem sc_carried : FnScope ["guest", "at", "many"] ["guest", "at", "many"] (defScope s_carried) := ⟨rfl, rfl, rfl, by decide +kernel, rfl, by decide +kernel, by decide +kernel⟩
theorem ok_carried {P : Program} {w : World} {K : PySem.W.Frag} {mg : Str → Option Value} {base : Heap} {C : Cs} {f : Addr} {fd : FuncData} (F : Fun K "carried" "carried" s_carried f fd) (B : Bl mg) (T : Top K mg C) (c_home : Cal P w K mg base CX0 1 "home" ["guest", "many"] (sp_home K C)) :
    FnOk P w K mg base CX0 2 f fd ["guest", "at", "many"] (sp_carried K C) := by
  refine F.ok sc_carried (fun vs H Q E h => len_carried h) (fun cdv A outer s H vs Q E hr h => ⟨t_carried K C E, ?_, pure_carried T.f h⟩)
  have hu := hu_of hr
  exact (pss_one (ps_ret (pe_op op_mod (pe_op op_sub (pv 1) (pe_fn c_home (hr.mono (by decide)) pass0 (pa_cons (pv 0) (pa_cons (pv 2) pa_nil)))) (pv 2))))
theorem cal_carried {P : Program} {w : World} {K : PySem.W.Frag} {mg : Str → Option Value} {base : Heap} {C : Cs} (D : Def K mg "carried" s_carried) (B : Bl mg) (T : Top K mg C) (c_home : Cal P w K mg base CX0 1 "home" ["guest", "many"] (sp_home K C)) :
    Cal P w K mg base CX0 2 "carried" ["guest", "at", "many"] (sp_carried K C) := by
  obtain ⟨f, fd, F, hm⟩ := D.ex
  exact ⟨f, fd, ok_carried F B T c_home, hm, F.kp, F.binds (ps := ["guest", "at", "many"]) fun _ _ _ _ _ _ us hl => match us, hl with | [_, _, _], _ => rfl⟩
abbrev s_ahead : Stmt := topS 11
theorem sc_ahead : FnScope ["one", "other", "at", "many", "here", "there"] ["one", "other", "at", "many"] (defScope s_ahead) := ⟨rfl, rfl, rfl, by decide +kernel, rfl, by decide +kernel, by decide +kernel⟩
theorem ok_ahead {P : Program} {w : World} {K : PySem.W.Frag} {mg : Str → Option Value} {base : Heap} {C : Cs} {f : Addr} {fd : FuncData} (F : Fun K "ahead" "ahead" s_ahead f fd) (B : Bl mg) (T : Top K mg C) (c_carried : Cal P w K mg base CX0 2 "carried" ["guest", "at", "many"] (sp_carried K C)) :
    FnOk P w K mg base CX0 3 f fd ["one", "other", "at", "many"] (sp_ahead K C) := by
  refine F.ok sc_ahead (fun vs H Q E h => len_ahead h) (fun cdv A outer s H vs Q E hr h => ⟨t_ahead K C E, ?_, pure_ahead T.f h⟩)
  have hu := hu_of hr
  exact (pss_cons (ps_set (i := 4) sc_ahead.nd rfl (.inl rfl) (pe_fn c_carried (hr.mono (by decide)) pass0 (pa_cons (pv 0) (pa_cons (pv 2) (pa_cons (pv 3) pa_nil)))))
      (pss_cons (ps_set (i := 5) sc_ahead.nd rfl (.inl rfl) (pe_fn c_carried (hr.mono (by decide)) pass0 (pa_cons (pv 1) (pa_cons (pv 2) (pa_cons (pv 3) pa_nil)))))
      (pss_cons (ps_if (pt_cmpR op_ne (pv 4) (pv 5) (nomark _)) (pss_one (ps_ret (pe_cmpR op_gt (pv 4) (pv 5) (nomark _)))) pss_nil)
      (pss_one (ps_ret (pe_cmpR op_lt (pv 0) (pv 1) (nomark _)))))))
theorem cal_ahead {P : Program} {w : World} {K : PySem.W.Frag} {mg : Str → Option Value} {base : Heap} {C : Cs} (D : Def K mg "ahead" s_ahead) (B : Bl mg) (T : Top K mg C) (c_carried : Cal P w K mg base CX0 2 "carried" ["guest", "at", "many"] (sp_carried K C)) :
    Cal P w K mg base CX0 3 "ahead" ["one", "other", "at", "many"] (sp_ahead K C) := by
  obtain ⟨f, fd, F, hm⟩ := D.ex
  exact ⟨f, fd, ok_ahead F B T c_carried, hm, F.kp, F.binds (ps := ["one", "other", "at", "many"]) fun _ _ _ _ _ _ us hl => match us, hl with | [_, _, _, _], _ => rfl⟩
abbrev s_strain : Stmt := topS 13
theorem sc_strain : FnScope ["seats", "together", "farthest", "squares", "at", "guest", "far"] ["seats"] (defScope s_strain) := ⟨rfl, rfl, rfl, by decide +kernel, rfl, by decide +kernel, by decide +kernel⟩
theorem ok_strain {P : Program} {w : World} {K : PySem.W.Frag} {mg : Str → Option Value} {base : Heap} {C : Cs} {f : Addr} {fd : FuncData} (F : Fun K "strain" "strain" s_strain f fd) (B : Bl mg) (T : Top K mg C) (c_carried : Cal P w K mg base CX0 2 "carried" ["guest", "at", "many"] (sp_carried K C)) :
    FnOk P w K mg base CX0 3 f fd ["seats"] (sp_strain K C) := by
  refine F.ok sc_strain (fun vs H Q E h => len_strain h) (fun cdv A outer s H vs Q E hr h => ⟨t_strain K C E, ?_, pure_strain T.f h⟩)
  have hu := hu_of hr
  exact (pss_cons (ps_set (i := 1) sc_strain.nd rfl (.inl rfl) pe_int)
      (pss_cons (ps_set (i := 2) sc_strain.nd rfl (.inl rfl) pe_int)
      (pss_cons (ps_set (i := 3) sc_strain.nd rfl (.inl rfl) pe_int)
      (pss_cons (ps_for PassesOwn.never rfl (pi_enum (by rfl) B.enumerate (pa_cons (pv 0) pa_nil)) (pg_tup (by rfl) (pgs_cons (pg_name (i := 4) sc_strain.nd rfl (.inl rfl)) (pgs_cons (pg_name (i := 5) sc_strain.nd rfl (.inl rfl)) pgs_nil))) (pss_one (ps_if (pt_cmp (pc_notN (pv 5))) (pss_cons (ps_set (i := 6) sc_strain.nd rfl (.inl rfl) (pe_fn c_carried (hr.mono (by decide)) pass0 (pa_cons (pv 5) (pa_cons (pv 4) (pa_cons (pe_callB call_len_seq (by rfl) B.len (by decide +kernel) (pa_cons (pv 0) pa_nil)) pa_nil)))))
      (pss_cons (ps_set (i := 1) sc_strain.nd rfl (.inl rfl) (pe_op op_add (pv 1) (pv 6)))
      (pss_cons (ps_set (i := 2) sc_strain.nd rfl (.inl rfl) (pe_callB (call_max2 rfl) (by rfl) B.max (by decide +kernel) (pa_cons (pv 2) (pa_cons (pv 6) pa_nil))))
      (pss_one (ps_set (i := 3) sc_strain.nd rfl (.inl rfl) (pe_op op_add (pv 3) (pe_op op_mulL (pv 6) (pv 6)))))))) pss_nil)))
      (pss_one (ps_ret (pe_tup (pa_cons (pv 1) (pa_cons (pv 2) (pa_cons (pv 3) pa_nil))))))))))
theorem cal_strain {P : Program} {w : World} {K : PySem.W.Frag} {mg : Str → Option Value} {base : Heap} {C : Cs} (D : Def K mg "strain" s_strain) (B : Bl mg) (T : Top K mg C) (c_carried : Cal P w K mg base CX0 2 "carried" ["guest", "at", "many"] (sp_carried K C)) :
    Cal P w K mg base CX0 3 "strain" ["seats"] (sp_strain K C) := by
  obtain ⟨f, fd, F, hm⟩ := D.ex
  exact ⟨f, fd, ok_strain F B T c_carried, hm, F.kp, F.binds (ps := ["seats"]) fun _ _ _ _ _ _ us hl => match us, hl with | [_], _ => rfl⟩
abbrev s_look_for : Stmt := topS 14
theorem sc_look_for : FnScope ["seats", "guest", "many", "at", "looked"] ["seats", "guest"] (defScope s_look_for) := ⟨rfl, rfl, rfl, by decide +kernel, rfl, by decide +kernel, by decide +kernel⟩
theorem ok_look_for {P : Program} {w : World} {K : PySem.W.Frag} {mg : Str → Option Value} {base : Heap} {C : Cs} {f : Addr} {fd : FuncData} (F : Fun K "look_for" "look_for" s_look_for f fd) (B : Bl mg) (T : Top K mg C) (c_is_guest : Cal P w K mg base CX0 1 "is_guest" ["thing"] (sp_is_guest K C)) (c_home : Cal P w K mg base CX0 1 "home" ["guest", "many"] (sp_home K C)) (c_ahead : Cal P w K mg base CX0 3 "ahead" ["one", "other", "at", "many"] (sp_ahead K C)) :
    FnOk P w K mg base (L2.CX P w) 4 f fd ["seats", "guest"] (sp_look_for K C) := by
  refine F.okX sc_look_for (fun vs H Q E h => len_look_for h) (fun cdv A outer s H vs Q E hr h => ⟨t_look_for K C E, ?_, pure_look_for T.f h⟩)
  have hu := hu_of hr
  exact (pss_cons (ps_if (pt_not (pt_val (pe_fn c_is_guest (hr.mono (by decide)) pass0 (pa_cons (pv 1) pa_nil)))) (pss_one (ps_raise rfl (takes_of rfl rfl rfl rfl) (pmk_own PySem.F.excBase_ValueError (T.f.ex .noGuest).q T.gNoGuest (T.f.ex .noGuest).k (raises_own (T.f.ex .noGuest).b (T.f.ex .noGuest).t) (by rfl)))) pss_nil)
      (PSs.nox (pss_cons (ps_set (i := 2) sc_look_for.nd rfl (.inl rfl) (pe_callB call_len_seq (by rfl) B.len (by decide +kernel) (pa_cons (pv 0) pa_nil)))
      (pss_cons (ps_set (i := 3) sc_look_for.nd rfl (.inl rfl) (pe_fn c_home (hr.mono (by decide)) pass0 (pa_cons (pv 1) (pa_cons (pv 2) pa_nil))))
      (pss_cons (ps_set (i := 4) sc_look_for.nd rfl (.inl rfl) pe_int)
      (pss_cons (ps_while PassesOwn.never (PW.pt (pw_and (pt_cmp (pc_notN (pe_ix ix_list (pv 0) (pv 3) (fun _ _ => rfl)))) (pw_and1 (pt_val (pe_fn c_ahead (hr.mono (by decide)) pass0 (pa_cons (pe_ix ix_list (pv 0) (pv 3) (fun _ _ => rfl)) (pa_cons (pv 1) (pa_cons (pv 3) (pa_cons (pv 2) pa_nil))))))))) (pss_cons (ps_set (i := 3) sc_look_for.nd rfl (.inl rfl) (pe_op op_mod (pe_op op_add (pv 3) pe_int) (pv 2)))
      (pss_one (ps_set (i := 4) sc_look_for.nd rfl (.inl rfl) (pe_op op_add (pv 4) pe_int)))))
      (pss_one (ps_ret (pe_tup (pa_cons (pv 3) (pa_cons (pv 4) pa_nil)))))))))))
theorem cal_look_for {P : Program} {w : World} {K : PySem.W.Frag} {mg : Str → Option Value} {base : Heap} {C : Cs} (D : Def K mg "look_for" s_look_for) (B : Bl mg) (T : Top K mg C) (c_is_guest : Cal P w K mg base CX0 1 "is_guest" ["thing"] (sp_is_guest K C)) (c_home : Cal P w K mg base CX0 1 "home" ["guest", "many"] (sp_home K C)) (c_ahead : Cal P w K mg base CX0 3 "ahead" ["one", "other", "at", "many"] (sp_ahead K C)) :
    Cal P w K mg base (L2.CX P w) 4 "look_for" ["seats", "guest"] (sp_look_for K C) := by
  obtain ⟨f, fd, F, hm⟩ := D.ex
  exact ⟨f, fd, ok_look_for F B T c_is_guest c_home c_ahead, hm, F.kp, F.binds (ps := ["seats", "guest"]) fun _ _ _ _ _ _ us hl => match us, hl with | [_, _], _ => rfl⟩
abbrev s_take_seat : Stmt := topS 16
theorem sc_take_seat : FnScope ["seats", "guest", "at", "found", "other"] ["seats", "guest"] (defScope s_take_seat) := ⟨rfl, rfl, rfl, by decide +kernel, rfl, by decide +kernel, by decide +kernel⟩
theorem ok_take_seat {P : Program} {w : World} {K : PySem.W.Frag} {mg : Str → Option Value} {base : Heap} {C : Cs} {f : Addr} {fd : FuncData} (F : Fun K "take_seat" "take_seat" s_take_seat f fd) (B : Bl mg) (T : Top K mg C) (c_look_for : Cal P w K mg base (L2.CX P w) 4 "look_for" ["seats", "guest"] (sp_look_for K C)) :
    FnOk P w K mg base (L2.CX P w) 5 f fd ["seats", "guest"] (sp_take_seat K C) := by
  refine F.okX sc_take_seat (fun vs H Q E h => len_take_seat h) (fun cdv A outer s H vs Q E hr h => ⟨t_take_seat K C E, ?_, pure_take_seat T.f h⟩)
  have hu := hu_of hr
  exact (pss_cons (ps_set (i := 2) sc_take_seat.nd rfl (.inl rfl) (pe_ix ix_tup (pe_fn c_look_for (hr.mono (by decide)) (passes_call (takes_of rfl rfl rfl rfl) (fun _ _ _ _ h => h)) (pa_cons (pv 0) (pa_cons (pv 1) pa_nil))) pe_int (fun _ _ => rfl)))
      (PSs.nox (pss_cons (ps_set (i := 3) sc_take_seat.nd rfl (.inl rfl) (pv 2))
      (pss_cons (ps_while PassesOwn.never (pt_cmp (pc_notN (pv 1))) (pss_cons (ps_set (i := 4) sc_take_seat.nd rfl (.inl rfl) (pe_ix ix_list (pv 0) (pv 2) (fun _ _ => rfl)))
      (pss_cons (ps_asg (pv 1) (pg_sub (pv 0) (pv 2) set_list))
      (pss_cons (ps_set (i := 1) sc_take_seat.nd rfl (.inl rfl) (pv 4))
      (pss_one (ps_set (i := 2) sc_take_seat.nd rfl (.inl rfl) (pe_op op_mod (pe_op op_add (pv 2) pe_int) (pe_callB call_len_seq (by rfl) B.len (by decide +kernel) (pa_cons (pv 0) pa_nil)))))))))
      (pss_one (ps_ret (pv 3)))))))
theorem cal_take_seat {P : Program} {w : World} {K : PySem.W.Frag} {mg : Str → Option Value} {base : Heap} {C : Cs} (D : Def K mg "take_seat" s_take_seat) (B : Bl mg) (T : Top K mg C) (c_look_for : Cal P w K mg base (L2.CX P w) 4 "look_for" ["seats", "guest"] (sp_look_for K C)) :
    Cal P w K mg base (L2.CX P w) 5 "take_seat" ["seats", "guest"] (sp_take_seat K C) := by
  obtain ⟨f, fd, F, hm⟩ := D.ex
  exact ⟨f, fd, ok_take_seat F B T c_look_for, hm, F.kp, F.binds (ps := ["seats", "guest"]) fun _ _ _ _ _ _ us hl => match us, hl with | [_, _], _ => rfl⟩
abbrev s_looked_through : Stmt := topS 17
theorem sc_looked_through : FnScope ["guests", "many", "guest"] ["guests", "many"] (defScope s_looked_through) := ⟨rfl, rfl, rfl, by decide +kernel, rfl, by decide +kernel, by decide +kernel⟩
theorem ok_looked_through {P : Program} {w : World} {K : PySem.W.Frag} {mg : Str → Option Value} {base : Heap} {C : Cs} {f : Addr} {fd : FuncData} (F : Fun K "looked_through" "looked_through" s_looked_through f fd) (B : Bl mg) (T : Top K mg C) (c_is_guest : Cal P w K mg base CX0 1 "is_guest" ["thing"] (sp_is_guest K C)) :
    FnOk P w K mg base (L2.CX P w) 2 f fd ["guests", "many"] (sp_looked_through K C) := by
  refine F.okX sc_looked_through (fun vs H Q E h => len_looked_through h) (fun cdv A outer s H vs Q E hr h => ⟨t_looked_through K C E, ?_, pure_looked_through T.f h⟩)
  have hu := hu_of hr
  exact (pss_cons (ps_for (passes_of rfl) rfl (pi_list (pv 0)) (pg_name (i := 2) sc_looked_through.nd rfl (.inl rfl)) (pss_one (ps_if (pt_not (pt_val (pe_fn c_is_guest (hr.mono (by decide)) pass0 (pa_cons (pv 2) pa_nil)))) (pss_one (ps_raise rfl (takes_of rfl rfl rfl rfl) (pmk_own PySem.F.excBase_ValueError (T.f.ex .noGuest).q T.gNoGuest (T.f.ex .noGuest).k (raises_own (T.f.ex .noGuest).b (T.f.ex .noGuest).t) (by rfl)))) pss_nil)))
      (pss_cons (ps_if (pt_cmpR op_lt (pe_lenSet B.len B.set (pv 0)) (pe_callB call_len_seq (by rfl) B.len (by decide +kernel) (pa_cons (pv 0) pa_nil)) (nomark _)) (pss_one (ps_raise rfl (takes_of rfl rfl rfl rfl) (pmk_own PySem.F.excBase_ValueError (T.f.ex .twice).q T.gTwice (T.f.ex .twice).k (raises_own (T.f.ex .twice).b (T.f.ex .twice).t) (by rfl)))) pss_nil)
      (pss_one (ps_if (pt_cmpR op_ge (pe_callB call_len_seq (by rfl) B.len (by decide +kernel) (pa_cons (pv 0) pa_nil)) (pv 1) (nomark _)) (pss_one (ps_raise rfl (takes_of rfl rfl rfl rfl) (pmk_own PySem.F.excBase_ValueError (T.f.ex .full).q T.gFull (T.f.ex .full).k (raises_own (T.f.ex .full).b (T.f.ex .full).t) (by rfl)))) pss_nil))))
theorem cal_looked_through {P : Program} {w : World} {K : PySem.W.Frag} {mg : Str → Option Value} {base : Heap} {C : Cs} (D : Def K mg "looked_through" s_looked_through) (B : Bl mg) (T : Top K mg C) (c_is_guest : Cal P w K mg base CX0 1 "is_guest" ["thing"] (sp_is_guest K C)) :
    Cal P w K mg base (L2.CX P w) 2 "looked_through" ["guests", "many"] (sp_looked_through K C) := by
  obtain ⟨f, fd, F, hm⟩ := D.ex
  exact ⟨f, fd, ok_looked_through F B T c_is_guest, hm, F.kp, F.binds (ps := ["guests", "many"]) fun _ _ _ _ _ _ us hl => match us, hl with | [_, _], _ => rfl⟩
abbrev s_seated : Stmt := topS 18
theorem sc_seated : FnScope ["guests", "many", "seats", "guest"] ["guests", "many"] (defScope s_seated) := ⟨rfl, rfl, rfl, by decide +kernel, rfl, by decide +kernel, by decide +kernel⟩
theorem ok_seated {P : Program} {w : World} {K : PySem.W.Frag} {mg : Str → Option Value} {base : Heap} {C : Cs} {f : Addr} {fd : FuncData} (F : Fun K "seated" "seated" s_seated f fd) (B : Bl mg) (T : Top K mg C) (c_looked_through : Cal P w K mg base (L2.CX P w) 2 "looked_through" ["guests", "many"] (sp_looked_through K C)) (c_take_seat : Cal P w K mg base (L2.CX P w) 5 "take_seat" ["seats", "guest"] (sp_take_seat K C)) :
    FnOk P w K mg base (L2.CX P w) 6 f fd ["guests", "many"] (sp_seated K C) := by
  refine F.okX sc_seated (fun vs H Q E h => len_seated h) (fun cdv A outer s H vs Q E hr h => ⟨t_seated K C E, ?_, pure_seated T.f h⟩)
  have hu := hu_of hr
  exact (pss_cons (ps_expr (pe_fn c_looked_through (hr.mono (by decide)) (passes_call (takes_of rfl rfl rfl rfl) (fun _ _ _ _ h => h)) (pa_cons (pv 0) (pa_cons (pv 1) pa_nil))))
      (pss_cons (ps_set (i := 2) sc_seated.nd rfl (.inl rfl) (pe_op op_rep (pe_lst (pa_cons pe_non pa_nil)) (pv 1)))
      (pss_cons (ps_for (passes_of rfl) rfl (pi_list (pv 0)) (pg_name (i := 3) sc_seated.nd rfl (.inl rfl)) (pss_one (ps_expr (pe_fn c_take_seat (hr.mono (by decide)) (passes_call (takes_of rfl rfl rfl rfl) (fun _ _ _ _ h => h)) (pa_cons (pv 2) (pa_cons (pv 3) pa_nil))))))
      (PSs.nox (pss_one (ps_ret (pv 2)))))))
theorem cal_seated {P : Program} {w : World} {K : PySem.W.Frag} {mg : Str → Option Value} {base : Heap} {C : Cs} (D : Def K mg "seated" s_seated) (B : Bl mg) (T : Top K mg C) (c_looked_through : Cal P w K mg base (L2.CX P w) 2 "looked_through" ["guests", "many"] (sp_looked_through K C)) (c_take_seat : Cal P w K mg base (L2.CX P w) 5 "take_seat" ["seats", "guest"] (sp_take_seat K C)) :
    Cal P w K mg base (L2.CX P w) 6 "seated" ["guests", "many"] (sp_seated K C) := by
  obtain ⟨f, fd, F, hm⟩ := D.ex
  exact ⟨f, fd, ok_seated F B T c_looked_through c_take_seat, hm, F.kp, F.binds (ps := ["guests", "many"]) fun _ _ _ _ _ _ us hl => match us, hl with | [_, _], _ => rfl⟩
abbrev s_first_come : Stmt := topS 19
theorem sc_first_come : FnScope ["guests", "many", "seats", "guest", "at"] ["guests", "many"] (defScope s_first_come) := ⟨rfl, rfl, rfl, by decide +kernel, rfl, by decide +kernel, by decide +kernel⟩
theorem ok_first_come {P : Program} {w : World} {K : PySem.W.Frag} {mg : Str → Option Value} {base : Heap} {C : Cs} {f : Addr} {fd : FuncData} (F : Fun K "first_come" "first_come" s_first_come f fd) (B : Bl mg) (T : Top K mg C) (c_looked_through : Cal P w K mg base (L2.CX P w) 2 "looked_through" ["guests", "many"] (sp_looked_through K C)) (c_home : Cal P w K mg base CX0 1 "home" ["guest", "many"] (sp_home K C)) :
    FnOk P w K mg base (L2.CX P w) 3 f fd ["guests", "many"] (sp_first_come K C) := by
  refine F.okX sc_first_come (fun vs H Q E h => len_first_come h) (fun cdv A outer s H vs Q E hr h => ⟨t_first_come K C E, ?_, pure_first_come T.f h⟩)
  have hu := hu_of hr
  exact (pss_cons (ps_expr (pe_fn c_looked_through (hr.mono (by decide)) (passes_call (takes_of rfl rfl rfl rfl) (fun _ _ _ _ h => h)) (pa_cons (pv 0) (pa_cons (pv 1) pa_nil))))
      (PSs.nox (pss_cons (ps_set (i := 2) sc_first_come.nd rfl (.inl rfl) (pe_op op_rep (pe_lst (pa_cons pe_non pa_nil)) (pv 1)))
      (pss_cons (ps_for PassesOwn.never rfl (pi_list (pv 0)) (pg_name (i := 3) sc_first_come.nd rfl (.inl rfl)) (pss_cons (ps_set (i := 4) sc_first_come.nd rfl (.inl rfl) (pe_fn c_home (hr.mono (by decide)) pass0 (pa_cons (pv 3) (pa_cons (pv 1) pa_nil))))
      (pss_cons (ps_while PassesOwn.never (pt_cmp (pc_notN (pe_ix ix_list (pv 2) (pv 4) (fun _ _ => rfl)))) (pss_one (ps_set (i := 4) sc_first_come.nd rfl (.inl rfl) (pe_op op_mod (pe_op op_add (pv 4) pe_int) (pv 1)))))
      (pss_one (ps_asg (pv 3) (pg_sub (pv 2) (pv 4) set_list))))))
      (pss_one (ps_ret (pv 2)))))))
theorem cal_first_come {P : Program} {w : World} {K : PySem.W.Frag} {mg : Str → Option Value} {base : Heap} {C : Cs} (D : Def K mg "first_come" s_first_come) (B : Bl mg) (T : Top K mg C) (c_looked_through : Cal P w K mg base (L2.CX P w) 2 "looked_through" ["guests", "many"] (sp_looked_through K C)) (c_home : Cal P w K mg base CX0 1 "home" ["guest", "many"] (sp_home K C)) :
    Cal P w K mg base (L2.CX P w) 3 "first_come" ["guests", "many"] (sp_first_come K C) := by
  obtain ⟨f, fd, F, hm⟩ := D.ex
  exact ⟨f, fd, ok_first_come F B T c_looked_through c_home, hm, F.kp, F.binds (ps := ["guests", "many"]) fun _ _ _ _ _ _ us hl => match us, hl with | [_, _], _ => rfl⟩
abbrev s_law_cell_at : Stmt := topS 21
theorem sc_law_cell_at : FnScope ["_law_script", "_law_k"] ["_law_script", "_law_k"] (defScope s_law_cell_at) := ⟨rfl, rfl, rfl, by decide +kernel, rfl, by decide +kernel, by decide +kernel⟩
theorem ok_law_cell_at {P : Program} {w : World} {K : PySem.W.Frag} {mg : Str → Option Value} {base : Heap} {C : Cs} {f : Addr} {fd : FuncData} (F : Fun K "_law_cell_at" "_law_cell_at" s_law_cell_at f fd) (B : Bl mg) (T : Top K mg C) :
    FnOk P w K mg base CX0 1 f fd ["_law_script", "_law_k"] (sp_law_cell_at K C) := by
  refine F.ok sc_law_cell_at (fun vs H Q E h => len_law_cell_at h) (fun cdv A outer s H vs Q E hr h => ⟨t_law_cell_at K C E, ?_, pure_law_cell_at T.f h⟩)
  have hu := hu_of hr
  exact (pss_cons (ps_if (pt_cmpR op_lt (pv 1) (pe_callB call_len_seq (by rfl) B.len (by decide +kernel) (pa_cons (pv 0) pa_nil)) (nomark _)) (pss_one (ps_ret (pe_ix ix_list (pv 0) (pv 1) (fun _ _ => rfl)))) pss_nil)
      (pss_one (ps_ret pe_int)))
theorem cal_law_cell_at {P : Program} {w : World} {K : PySem.W.Frag} {mg : Str → Option Value} {base : Heap} {C : Cs} (D : Def K mg "_law_cell_at" s_law_cell_at) (B : Bl mg) (T : Top K mg C) :
    Cal P w K mg base CX0 1 "_law_cell_at" ["_law_script", "_law_k"] (sp_law_cell_at K C) := by
  obtain ⟨f, fd, F, hm⟩ := D.ex
  exact ⟨f, fd, ok_law_cell_at F B T, hm, F.kp, F.binds (ps := ["_law_script", "_law_k"]) fun _ _ _ _ _ _ us hl => match us, hl with | [_, _], _ => rfl⟩
abbrev s_law_whole : Stmt := topS 22
theorem sc_law_whole : FnScope ["_law_found"] ["_law_found"] (defScope s_law_whole) := ⟨rfl, rfl, rfl, by decide +kernel, rfl, by decide +kernel, by decide +kernel⟩
theorem ok_law_whole {P : Program} {w : World} {K : PySem.W.Frag} {mg : Str → Option Value} {base : Heap} {C : Cs} {f : Addr} {fd : FuncData} (F : Fun K "_law_whole" "_law_whole" s_law_whole f fd) (B : Bl mg) (T : Top K mg C) :
    FnOk P w K mg base CX0 1 f fd ["_law_found"] (sp_law_whole K C) := by
  refine F.ok sc_law_whole (fun vs H Q E h => len_law_whole h) (fun cdv A outer s H vs Q E hr h => ⟨t_law_whole K C E, ?_, pure_law_whole T.f h⟩)
  have hu := hu_of hr
  exact (pss_one (ps_ret (pe_and (pe_callB call_isA (by rfl) B.isinstance (by decide +kernel) (pa_cons (pv 0) (pa_cons (pe_bltn (v := .ty "int") (by rfl) B.int (by decide +kernel) rfl) pa_nil))) (pe_one (pe_not (pe_callB call_isA (by rfl) B.isinstance (by decide +kernel) (pa_cons (pv 0) (pa_cons (pe_bltn (v := .ty "bool") (by rfl) B.bool (by decide +kernel) rfl) pa_nil))))))))
theorem cal_law_whole {P : Program} {w : World} {K : PySem.W.Frag} {mg : Str → Option Value} {base : Heap} {C : Cs} (D : Def K mg "_law_whole" s_law_whole) (B : Bl mg) (T : Top K mg C) :
    Cal P w K mg base CX0 1 "_law_whole" ["_law_found"] (sp_law_whole K C) := by
  obtain ⟨f, fd, F, hm⟩ := D.ex
  exact ⟨f, fd, ok_law_whole F B T, hm, F.kp, F.binds (ps := ["_law_found"]) fun _ _ _ _ _ _ us hl => match us, hl with | [_], _ => rfl⟩
abbrev s_law_home : Stmt := topS 23
theorem sc_law_home : FnScope ["_law_guest_here", "_law_many"] ["_law_guest_here", "_law_many"] (defScope s_law_home) := ⟨rfl, rfl, rfl, by decide +kernel, rfl, by decide +kernel, by decide +kernel⟩
theorem ok_law_home {P : Program} {w : World} {K : PySem.W.Frag} {mg : Str → Option Value} {base : Heap} {C : Cs} {f : Addr} {fd : FuncData} (F : Fun K "_law_home" "_law_home" s_law_home f fd) (B : Bl mg) (T : Top K mg C) :
    FnOk P w K mg base CX0 1 f fd ["_law_guest_here", "_law_many"] (sp_law_home K C) := by
  refine F.ok sc_law_home (fun vs H Q E h => len_law_home h) (fun cdv A outer s H vs Q E hr h => ⟨t_law_home K C E, ?_, pure_law_home T.f h⟩)
  have hu := hu_of hr
  exact (pss_one (ps_ret (pe_op op_mod (pe_op op_mod (pe_op op_add (pe_op op_mulL (pv 0) pe_int) (pe_op op_fdiv (pv 0) pe_int)) pe_int) (pv 1))))
theorem cal_law_home {P : Program} {w : World} {K : PySem.W.Frag} {mg : Str → Option Value} {base : Heap} {C : Cs} (D : Def K mg "_law_home" s_law_home) (B : Bl mg) (T : Top K mg C) :
    Cal P w K mg base CX0 1 "_law_home" ["_law_guest_here", "_law_many"] (sp_law_home K C) := by
  obtain ⟨f, fd, F, hm⟩ := D.ex
  exact ⟨f, fd, ok_law_home F B T, hm, F.kp, F.binds (ps := ["_law_guest_here", "_law_many"]) fun _ _ _ _ _ _ us hl => match us, hl with | [_, _], _ => rfl⟩
abbrev s_law_base : Stmt := topS 24
theorem sc_law_base : FnScope ["_law_cell"] ["_law_cell"] (defScope s_law_base) := ⟨rfl, rfl, rfl, by decide +kernel, rfl, by decide +kernel, by decide +kernel⟩
theorem ok_law_base {P : Program} {w : World} {K : PySem.W.Frag} {mg : Str → Option Value} {base : Heap} {C : Cs} {f : Addr} {fd : FuncData} (F : Fun K "_law_base" "_law_base" s_law_base f fd) (B : Bl mg) (T : Top K mg C) :
    FnOk P w K mg base CX0 1 f fd ["_law_cell"] (sp_law_base K C) := by
  refine F.ok sc_law_base (fun vs H Q E h => len_law_base h) (fun cdv A outer s H vs Q E hr h => ⟨t_law_base K C E, ?_, pure_law_base T.f h⟩)
  have hu := hu_of hr
  exact (pss_cons (ps_if (pt_cmpR op_eq (pe_op op_mod (pv 0) pe_int) pe_int (nomark _)) (pss_one (ps_ret (pe_op op_mod (pe_op op_fdiv (pv 0) pe_int) (pe_pow (m := 10) (n := 58) (N := 10000000000000000000000000000000000000000000000000000000000) rfl rfl (by decide +kernel) (by decide) (by decide))))) pss_nil)
      (pss_one (ps_ret (pe_op op_mod (pe_op op_fdiv (pv 0) pe_int) pe_int))))
theorem cal_law_base {P : Program} {w : World} {K : PySem.W.Frag} {mg : Str → Option Value} {base : Heap} {C : Cs} (D : Def K mg "_law_base" s_law_base) (B : Bl mg) (T : Top K mg C) :
    Cal P w K mg base CX0 1 "_law_base" ["_law_cell"] (sp_law_base K C) := by
  obtain ⟨f, fd, F, hm⟩ := D.ex
  exact ⟨f, fd, ok_law_base F B T, hm, F.kp, F.binds (ps := ["_law_cell"]) fun _ _ _ _ _ _ us hl => match us, hl with | [_], _ => rfl⟩
abbrev s_law_guest : Stmt := topS 25
theorem sc_law_guest : FnScope ["_law_cell", "_law_base_here", "_law_number"] ["_law_cell", "_law_base_here"] (defScope s_law_guest) := ⟨rfl, rfl, rfl, by decide +kernel, rfl, by decide +kernel, by decide +kernel⟩
theorem ok_law_guest {P : Program} {w : World} {K : PySem.W.Frag} {mg : Str → Option Value} {base : Heap} {C : Cs} {f : Addr} {fd : FuncData} (F : Fun K "_law_guest" "_law_guest" s_law_guest f fd) (B : Bl mg) (T : Top K mg C) :
    FnOk P w K mg base CX0 1 f fd ["_law_cell", "_law_base_here"] (sp_law_guest K C) := by
  refine F.ok sc_law_guest (fun vs H Q E h => len_law_guest h) (fun cdv A outer s H vs Q E hr h => ⟨t_law_guest K C E, ?_, pure_law_guest T.f h⟩)
  have hu := hu_of hr
  exact (pss_cons (ps_set (i := 2) sc_law_guest.nd rfl (.inl rfl) (pe_op op_fdiv (pv 0) pe_int))
      (pss_cons (ps_if (pt_cmpR op_eq (pe_op op_mod (pv 0) pe_int) pe_int (nomark _)) (pss_one (ps_ret (pe_op op_mod (pv 2) (pe_pow (m := 10) (n := 60) (N := 1000000000000000000000000000000000000000000000000000000000000) rfl rfl (by decide +kernel) (by decide) (by decide))))) pss_nil)
      (pss_cons (ps_if (pt_cmpR op_eq (pe_op op_mod (pv 0) pe_int) pe_int (nomark _)) (pss_one (ps_ret (pe_op op_mod (pv 2) pe_int))) pss_nil)
      (pss_cons (ps_if (pt_cmpR op_eq (pe_op op_mod (pv 0) pe_int) pe_int (nomark _)) (pss_one (ps_ret (pe_op op_add (pv 1) (pe_op op_mulL (pe_pow (m := 2) (n := 32) (N := 4294967296) rfl rfl (by decide +kernel) (by decide) (by decide)) (pe_op op_mod (pv 2) (pe_pow (m := 10) (n := 40) (N := 10000000000000000000000000000000000000000) rfl rfl (by decide +kernel) (by decide) (by decide))))))) pss_nil)
      (pss_cons (ps_if (pt_cmpR op_eq (pe_op op_mod (pv 0) pe_int) pe_int (nomark _)) (pss_one (ps_ret (pe_op op_add (pv 1) (pe_op op_mulL pe_int (pe_op op_mod (pv 2) pe_int))))) pss_nil)
      (pss_one (ps_ret (pe_op op_add (pe_op op_add (pv 1) (pe_op op_mulL pe_int (pe_op op_mod (pv 2) pe_int))) (pe_op op_mulL (pe_pow (m := 2) (n := 32) (N := 4294967296) rfl rfl (by decide +kernel) (by decide) (by decide)) (pe_op op_mod (pe_op op_fdiv (pv 2) pe_int) pe_int))))))))))
theorem cal_law_guest {P : Program} {w : World} {K : PySem.W.Frag} {mg : Str → Option Value} {base : Heap} {C : Cs} (D : Def K mg "_law_guest" s_law_guest) (B : Bl mg) (T : Top K mg C) :
    Cal P w K mg base CX0 1 "_law_guest" ["_law_cell", "_law_base_here"] (sp_law_guest K C) := by
  obtain ⟨f, fd, F, hm⟩ := D.ex
  exact ⟨f, fd, ok_law_guest F B T, hm, F.kp, F.binds (ps := ["_law_cell", "_law_base_here"]) fun _ _ _ _ _ _ us hl => match us, hl with | [_, _], _ => rfl⟩
abbrev s_law_drawn : Stmt := topS 26
theorem sc_law_drawn : FnScope ["_law_cells", "_law_base_here", "_law_seen", "_law_cell"] ["_law_cells", "_law_base_here"] (defScope s_law_drawn) := ⟨rfl, rfl, rfl, by decide +kernel, rfl, by decide +kernel, by decide +kernel⟩
theorem ok_law_drawn {P : Program} {w : World} {K : PySem.W.Frag} {mg : Str → Option Value} {base : Heap} {C : Cs} {f : Addr} {fd : FuncData} (F : Fun K "_law_drawn" "_law_drawn" s_law_drawn f fd) (B : Bl mg) (T : Top K mg C) (c_law_guest : Cal P w K mg base CX0 1 "_law_guest" ["_law_cell", "_law_base_here"] (sp_law_guest K C)) :
    FnOk P w K mg base CX0 2 f fd ["_law_cells", "_law_base_here"] (sp_law_drawn K C) := by
  refine F.ok sc_law_drawn (fun vs H Q E h => len_law_drawn h) (fun cdv A outer s H vs Q E hr h => ⟨t_law_drawn K C E, ?_, pure_law_drawn T.f h⟩)
  have hu := hu_of hr
  exact (pss_cons (ps_set (i := 2) sc_law_drawn.nd rfl (.inl rfl) pe_dnewK)
      (pss_cons (ps_for PassesOwn.never rfl (pi_list (pv 0)) (pg_name (i := 3) sc_law_drawn.nd rfl (.inl rfl)) (pss_one (ps_dput hu (pv 2) (pe_fn c_law_guest (hr.mono (by decide)) pass0 (pa_cons (pv 3) (pa_cons (pv 1) pa_nil))) pe_bl rfl)))
      (pss_one (ps_ret (pe_callTy (call_list_dK rfl) (by rfl) B.list (by decide +kernel) (pa_cons (pv 2) pa_nil))))))
theorem cal_law_drawn {P : Program} {w : World} {K : PySem.W.Frag} {mg : Str → Option Value} {base : Heap} {C : Cs} (D : Def K mg "_law_drawn" s_law_drawn) (B : Bl mg) (T : Top K mg C) (c_law_guest : Cal P w K mg base CX0 1 "_law_guest" ["_law_cell", "_law_base_here"] (sp_law_guest K C)) :
    Cal P w K mg base CX0 2 "_law_drawn" ["_law_cells", "_law_base_here"] (sp_law_drawn K C) := by
  obtain ⟨f, fd, F, hm⟩ := D.ex
  exact ⟨f, fd, ok_law_drawn F B T c_law_guest, hm, F.kp, F.binds (ps := ["_law_cells", "_law_base_here"]) fun _ _ _ _ _ _ us hl => match us, hl with | [_, _], _ => rfl⟩
abbrev s_law_places : Stmt := topS 27
theorem sc_law_places : FnScope ["_law_seats", "_law_many", "_law_places_here", "_law_at", "_law_guest_here"] ["_law_seats", "_law_many"] (defScope s_law_places) := ⟨rfl, rfl, rfl, by decide +kernel, rfl, by decide +kernel, by decide +kernel⟩
theorem ok_law_places {P : Program} {w : World} {K : PySem.W.Frag} {mg : Str → Option Value} {base : Heap} {C : Cs} {f : Addr} {fd : FuncData} (F : Fun K "_law_places" "_law_places" s_law_places f fd) (B : Bl mg) (T : Top K mg C) (c_law_whole : Cal P w K mg base CX0 1 "_law_whole" ["_law_found"] (sp_law_whole K C)) :
    FnOk P w K mg base CX0 2 f fd ["_law_seats", "_law_many"] (sp_law_places K C) := by
  refine F.ok sc_law_places (fun vs H Q E h => len_law_places h) (fun cdv A outer s H vs Q E hr h => ⟨t_law_places K C E, ?_, pure_law_places T.f h⟩)
  have hu := hu_of hr
  exact (pss_cons (ps_if (PW.pt (pw_or (pt_not (pt_val (pe_callB call_isA (by rfl) B.isinstance (by decide +kernel) (pa_cons (pv 0) (pa_cons (pe_bltn (v := .ty "list") (by rfl) B.list (by decide +kernel) rfl) pa_nil))))) (pw_or1 (pt_cmpR op_ne (pe_callB call_len_seq (by rfl) B.len (by decide +kernel) (pa_cons (pv 0) pa_nil)) (pv 1) (nomark _))))) (pss_one (ps_ret pe_non)) pss_nil)
      (pss_cons (ps_set (i := 2) sc_law_places.nd rfl (.inl rfl) pe_dnewK)
      (pss_cons (ps_for PassesOwn.never rfl (pi_enum (by rfl) B.enumerate (pa_cons (pv 0) pa_nil)) (pg_tup (by rfl) (pgs_cons (pg_name (i := 3) sc_law_places.nd rfl (.inl rfl)) (pgs_cons (pg_name (i := 4) sc_law_places.nd rfl (.inl rfl)) pgs_nil))) (pss_one (ps_if (pt_cmp (pc_notN (pv 4))) (pss_cons (ps_if (PW.pt (pw_or (pt_not (pt_val (pe_fn c_law_whole (hr.mono (by decide)) pass0 (pa_cons (pv 4) pa_nil)))) (pw_or1 (pt_cmp (pc_din hu (pv 4) (pv 2)))))) (pss_one (ps_ret pe_non)) pss_nil)
      (pss_one (ps_dput hu (pv 2) (pv 4) (pv 3) rfl))) pss_nil)))
      (pss_one (ps_ret (pv 2))))))
theorem cal_law_places {P : Program} {w : World} {K : PySem.W.Frag} {mg : Str → Option Value} {base : Heap} {C : Cs} (D : Def K mg "_law_places" s_law_places) (B : Bl mg) (T : Top K mg C) (c_law_whole : Cal P w K mg base CX0 1 "_law_whole" ["_law_found"] (sp_law_whole K C)) :
    Cal P w K mg base CX0 2 "_law_places" ["_law_seats", "_law_many"] (sp_law_places K C) := by
  obtain ⟨f, fd, F, hm⟩ := D.ex
  exact ⟨f, fd, ok_law_places F B T c_law_whole, hm, F.kp, F.binds (ps := ["_law_seats", "_law_many"]) fun _ _ _ _ _ _ us hl => match us, hl with | [_, _], _ => rfl⟩
abbrev s_law_in_turn : Stmt := topS 28
theorem sc_law_in_turn : FnScope ["_law_guests", "_law_places_here", "_law_many", "_law_taken", "_law_guest_here", "_law_at"] ["_law_guests", "_law_places_here", "_law_many"] (defScope s_law_in_turn) := ⟨rfl, rfl, rfl, by decide +kernel, rfl, by decide +kernel, by decide +kernel⟩
theorem ok_law_in_turn {P : Program} {w : World} {K : PySem.W.Frag} {mg : Str → Option Value} {base : Heap} {C : Cs} {f : Addr} {fd : FuncData} (F : Fun K "_law_in_turn" "_law_in_turn" s_law_in_turn f fd) (B : Bl mg) (T : Top K mg C) (c_law_home : Cal P w K mg base CX0 1 "_law_home" ["_law_guest_here", "_law_many"] (sp_law_home K C)) :
    FnOk P w K mg base CX0 2 f fd ["_law_guests", "_law_places_here", "_law_many"] (sp_law_in_turn K C) := by
  refine F.ok sc_law_in_turn (fun vs H Q E h => len_law_in_turn h) (fun cdv A outer s H vs Q E hr h => ⟨t_law_in_turn K C E, ?_, pure_law_in_turn T.f h⟩)
  have hu := hu_of hr
  exact (pss_cons (ps_set (i := 3) sc_law_in_turn.nd rfl (.inl rfl) pe_dnewK)
      (pss_cons (ps_for PassesOwn.never rfl (pi_list (pv 0)) (pg_name (i := 4) sc_law_in_turn.nd rfl (.inl rfl)) (pss_cons (ps_set (i := 5) sc_law_in_turn.nd rfl (.inl rfl) (pe_fn c_law_home (hr.mono (by decide)) pass0 (pa_cons (pv 4) (pa_cons (pv 2) pa_nil))))
      (pss_cons (ps_while PassesOwn.never (pt_cmp (pc_din hu (pv 5) (pv 3))) (pss_one (ps_set (i := 5) sc_law_in_turn.nd rfl (.inl rfl) (pe_op op_mod (pe_op op_add (pv 5) pe_int) (pv 2)))))
      (pss_cons (ps_if (pt_cmpR op_ne (pe_dget1 hu (pv 1) (pv 4) ⟨by rfl, by rfl, by rfl, by rfl⟩) (pv 5) (nomark _)) (pss_one (ps_ret pe_bl)) pss_nil)
      (pss_one (ps_dput hu (pv 3) (pv 5) pe_bl rfl))))))
      (pss_one (ps_ret (pe_cmpR op_eq (pe_callB call_lenD (by rfl) B.len (by decide +kernel) (pa_cons (pv 1) pa_nil)) (pe_callB call_len_seq (by rfl) B.len (by decide +kernel) (pa_cons (pv 0) pa_nil)) (nomark _))))))
theorem cal_law_in_turn {P : Program} {w : World} {K : PySem.W.Frag} {mg : Str → Option Value} {base : Heap} {C : Cs} (D : Def K mg "_law_in_turn" s_law_in_turn) (B : Bl mg) (T : Top K mg C) (c_law_home : Cal P w K mg base CX0 1 "_law_home" ["_law_guest_here", "_law_many"] (sp_law_home K C)) :
    Cal P w K mg base CX0 2 "_law_in_turn" ["_law_guests", "_law_places_here", "_law_many"] (sp_law_in_turn K C) := by
  obtain ⟨f, fd, F, hm⟩ := D.ex
  exact ⟨f, fd, ok_law_in_turn F B T c_law_home, hm, F.kp, F.binds (ps := ["_law_guests", "_law_places_here", "_law_many"]) fun _ _ _ _ _ _ us hl => match us, hl with | [_, _, _], _ => rfl⟩
abbrev s_law_sums : Stmt := topS 29
theorem sc_law_sums : FnScope ["_law_places_here", "_law_many", "_law_total", "_law_most", "_law_squares", "_law_guest_here", "_law_at", "_law_far"] ["_law_places_here", "_law_many"] (defScope s_law_sums) := ⟨rfl, rfl, rfl, by decide +kernel, rfl, by decide +kernel, by decide +kernel⟩
theorem ok_law_sums {P : Program} {w : World} {K : PySem.W.Frag} {mg : Str → Option Value} {base : Heap} {C : Cs} {f : Addr} {fd : FuncData} (F : Fun K "_law_sums" "_law_sums" s_law_sums f fd) (B : Bl mg) (T : Top K mg C) (c_law_home : Cal P w K mg base CX0 1 "_law_home" ["_law_guest_here", "_law_many"] (sp_law_home K C)) :
    FnOk P w K mg base CX0 2 f fd ["_law_places_here", "_law_many"] (sp_law_sums K C) := by
  refine F.ok sc_law_sums (fun vs H Q E h => len_law_sums h) (fun cdv A outer s H vs Q E hr h => ⟨t_law_sums K C E, ?_, pure_law_sums T.f h⟩)
  have hu := hu_of hr
  exact (pss_cons (ps_set (i := 2) sc_law_sums.nd rfl (.inl rfl) pe_int)
      (pss_cons (ps_set (i := 3) sc_law_sums.nd rfl (.inl rfl) pe_int)
      (pss_cons (ps_set (i := 4) sc_law_sums.nd rfl (.inl rfl) pe_int)
      (pss_cons (ps_lock (ps_for PassesOwn.never rfl (pi_items (pv 0)) (pg_tup (by rfl) (pgs_cons (pg_name (i := 5) sc_law_sums.nd rfl (.inl rfl)) (pgs_cons (pg_name (i := 6) sc_law_sums.nd rfl (.inl rfl)) pgs_nil))) (pss_cons (ps_set (i := 7) sc_law_sums.nd rfl (.inl rfl) (pe_op op_mod (pe_op op_sub (pv 6) (pe_fn c_law_home (hr.mono (by decide)) pass0 (pa_cons (pv 5) (pa_cons (pv 1) pa_nil)))) (pv 1)))
      (pss_cons (ps_set (i := 2) sc_law_sums.nd rfl (.inl rfl) (pe_op op_add (pv 2) (pv 7)))
      (pss_cons (ps_set (i := 4) sc_law_sums.nd rfl (.inl rfl) (pe_op op_add (pv 4) (pe_op op_mulL (pv 7) (pv 7))))
      (pss_one (ps_if (pt_cmpR op_gt (pv 7) (pv 3) (nomark _)) (pss_one (ps_set (i := 3) sc_law_sums.nd rfl (.inl rfl) (pv 7))) pss_nil)))))))
      (pss_one (ps_ret (pe_lst (pa_cons (pv 2) (pa_cons (pv 3) (pa_cons (pv 4) pa_nil))))))))))
theorem cal_law_sums {P : Program} {w : World} {K : PySem.W.Frag} {mg : Str → Option Value} {base : Heap} {C : Cs} (D : Def K mg "_law_sums" s_law_sums) (B : Bl mg) (T : Top K mg C) (c_law_home : Cal P w K mg base CX0 1 "_law_home" ["_law_guest_here", "_law_many"] (sp_law_home K C)) :
    Cal P w K mg base CX0 2 "_law_sums" ["_law_places_here", "_law_many"] (sp_law_sums K C) := by
  obtain ⟨f, fd, F, hm⟩ := D.ex
  exact ⟨f, fd, ok_law_sums F B T c_law_home, hm, F.kp, F.binds (ps := ["_law_places_here", "_law_many"]) fun _ _ _ _ _ _ us hl => match us, hl with | [_, _], _ => rfl⟩
abbrev s_law_told : Stmt := topS 30
theorem sc_law_told : FnScope ["_law_found", "_law_due", "_law_one", "_law_other"] ["_law_found", "_law_due"] (defScope s_law_told) := ⟨rfl, rfl, rfl, by decide +kernel, rfl, by decide +kernel, by decide +kernel⟩
theorem ok_law_told {P : Program} {w : World} {K : PySem.W.Frag} {mg : Str → Option Value} {base : Heap} {C : Cs} {f : Addr} {fd : FuncData} (F : Fun K "_law_told" "_law_told" s_law_told f fd) (B : Bl mg) (T : Top K mg C) (c_law_whole : Cal P w K mg base CX0 1 "_law_whole" ["_law_found"] (sp_law_whole K C)) :
    FnOk P w K mg base CX0 2 f fd ["_law_found", "_law_due"] (sp_law_told K C) := by
  refine F.ok sc_law_told (fun vs H Q E h => len_law_told h) (fun cdv A outer s H vs Q E hr h => ⟨t_law_told K C E, ?_, pure_law_told T.f h⟩)
  have hu := hu_of hr
  exact (pss_cons (ps_if (PW.pt (pw_or (pt_not (pt_val (pe_callB call_isA (by rfl) B.isinstance (by decide +kernel) (pa_cons (pv 0) (pa_cons (pe_bltn (v := .ty "tuple") (by rfl) B.tuple (by decide +kernel) rfl) pa_nil))))) (pw_or1 (pt_cmpR op_ne (pe_callB call_len_seq (by rfl) B.len (by decide +kernel) (pa_cons (pv 0) pa_nil)) pe_int (nomark _))))) (pss_one (ps_ret pe_bl)) pss_nil)
      (pss_cons (ps_for PassesOwn.never rfl (pi_zipM (by rfl) B.zip (pa_cons (pv 0) (pa_cons (pv 1) pa_nil))) (pg_tup (by rfl) (pgs_cons (pg_name (i := 2) sc_law_told.nd rfl (.inl rfl)) (pgs_cons (pg_name (i := 3) sc_law_told.nd rfl (.inl rfl)) pgs_nil))) (pss_one (ps_if (PW.pt (pw_or (pt_not (pt_val (pe_fn c_law_whole (hr.mono (by decide)) pass0 (pa_cons (pv 2) pa_nil)))) (pw_or1 (pt_cmpR op_ne (pv 2) (pv 3) (nomark _))))) (pss_one (ps_ret pe_bl)) pss_nil)))
      (pss_one (ps_ret pe_bl))))
theorem cal_law_told {P : Program} {w : World} {K : PySem.W.Frag} {mg : Str → Option Value} {base : Heap} {C : Cs} (D : Def K mg "_law_told" s_law_told) (B : Bl mg) (T : Top K mg C) (c_law_whole : Cal P w K mg base CX0 1 "_law_whole" ["_law_found"] (sp_law_whole K C)) :
    Cal P w K mg base CX0 2 "_law_told" ["_law_found", "_law_due"] (sp_law_told K C) := by
  obtain ⟨f, fd, F, hm⟩ := D.ex
  exact ⟨f, fd, ok_law_told F B T c_law_whole, hm, F.kp, F.binds (ps := ["_law_found", "_law_due"]) fun _ _ _ _ _ _ us hl => match us, hl with | [_, _], _ => rfl⟩
abbrev s_law_odd : Stmt := topS 31
theorem sc_law_odd : FnScope ["_law_cell", "_law_number", "_law_some"] ["_law_cell"] (defScope s_law_odd) := ⟨rfl, rfl, rfl, by decide +kernel, rfl, by decide +kernel, by decide +kernel⟩
theorem ok_law_odd {P : Program} {w : World} {K : PySem.W.Frag} {mg : Str → Option Value} {base : Heap} {C : Cs} {f : Addr} {fd : FuncData} (F : Fun K "_law_odd" "_law_odd" s_law_odd f fd) (B : Bl mg) (T : Top K mg C) :
    FnOk P w K mg base CX0 1 f fd ["_law_cell"] (sp_law_odd K C) := by
  refine F.ok sc_law_odd (fun vs H Q E h => len_law_odd h) (fun cdv A outer s H vs Q E hr h => ⟨t_law_odd K C E, ?_, pure_law_odd T.f h⟩)
  have hu := hu_of hr
  exact (pss_cons (ps_set (i := 1) sc_law_odd.nd rfl (.inl rfl) (pe_op op_mod (pe_op op_fdiv (pv 0) pe_int) (pe_pow (m := 10) (n := 40) (N := 10000000000000000000000000000000000000000) rfl rfl (by decide +kernel) (by decide) (by decide))))
      (pss_cons (ps_set (i := 2) sc_law_odd.nd rfl (.inl rfl) (pe_lst (pa_cons pe_bl (pa_cons pe_bl (pa_cons pe_non (pa_cons pe_str (pa_cons pe_str (pa_cons (pe_lst (pa_cons pe_int pa_nil)) (pa_cons (pe_tup (pa_cons pe_int pa_nil)) (pa_cons pe_dnewK (pa_cons (pe_un un_neg pe_int) (pa_cons (pe_pow (m := 10) (n := 60) (N := 1000000000000000000000000000000000000000000000000000000000000) rfl rfl (by decide +kernel) (by decide) (by decide)) (pa_cons (pe_op op_sub (pe_un un_neg pe_int) (pv 1)) (pa_cons (pe_op op_add (pe_op op_add (pe_pow (m := 10) (n := 60) (N := 1000000000000000000000000000000000000000000000000000000000000) rfl rfl (by decide +kernel) (by decide) (by decide)) pe_int) (pv 1)) (pa_cons (pe_lst pa_nil) pa_nil)))))))))))))))
      (pss_one (ps_ret (pe_ix ix_list (pv 2) (pe_op op_mod (pv 0) pe_int) (fun _ _ => rfl))))))
theorem cal_law_odd {P : Program} {w : World} {K : PySem.W.Frag} {mg : Str → Option Value} {base : Heap} {C : Cs} (D : Def K mg "_law_odd" s_law_odd) (B : Bl mg) (T : Top K mg C) :
    Cal P w K mg base CX0 1 "_law_odd" ["_law_cell"] (sp_law_odd K C) := by
  obtain ⟨f, fd, F, hm⟩ := D.ex
  exact ⟨f, fd, ok_law_odd F B T, hm, F.kp, F.binds (ps := ["_law_cell"]) fun _ _ _ _ _ _ us hl => match us, hl with | [_], _ => rfl⟩
abbrev s_law_refused : Stmt := topS 32
theorem sc_law_refused : FnScope ["_law_guests", "_law_many", "e", "_law_own", "_law_others"] ["_law_guests", "_law_many"] (defScope s_law_refused) := ⟨rfl, rfl, rfl, by decide +kernel, rfl, by decide +kernel, by decide +kernel⟩
theorem ok_law_refused {P : Program} {w : World} {K : PySem.W.Frag} {mg : Str → Option Value} {base : Heap} {C : Cs} {f : Addr} {fd : FuncData} (F : Fun K "_law_refused" "_law_refused" s_law_refused f fd) (B : Bl mg) (T : Top K mg C) (c_first_come : Cal P w K mg base (L2.CX P w) 3 "first_come" ["guests", "many"] (sp_first_come K C)) :
    FnOk P w K mg base CX0 4 f fd ["_law_guests", "_law_many"] (sp_law_refused K C) := by
  refine F.ok sc_law_refused (fun vs H Q E h => len_law_refused h) (fun cdv A outer s H vs Q E hr h => ⟨t_law_refused K C E, ?_, pure_law_refused T.f h⟩)
  have hu := hu_of hr
  exact (pss_cons (ps_try_as (i := 2) (tb := t_law_refused_b1_try K C E) (ts := t_law_refused_b1_exc K C E) rfl rfl sc_law_refused.nd rfl rfl ⟨rfl, by decide, .inl T.gRingError⟩ takes0 (fun W pn xe tk _ => (pss_one (ps_expr (pe_fnS c_first_come (hr.mono (by decide)) (fun σ => passAt tk σ) (pa_cons (pv 0) (pa_cons (pv 1) pa_nil)))))) (fun a oe cls d pn hz hf => (pss_cons (ps_set (i := 3) sc_law_refused.nd rfl (.inl rfl) (pe_lst (pa_cons (pe_callB (call_isX T.f hz hf) (by rfl) B.isinstance (by decide +kernel) (pa_cons (pv 2) (pa_cons (pe_glob (v := .ref C.cNoGuest) (by rfl) T.gNoGuest rfl) pa_nil))) (pa_cons (pe_callB (call_isX T.f hz hf) (by rfl) B.isinstance (by decide +kernel) (pa_cons (pv 2) (pa_cons (pe_glob (v := .ref C.cTwice) (by rfl) T.gTwice rfl) pa_nil))) (pa_cons (pe_callB (call_isX T.f hz hf) (by rfl) B.isinstance (by decide +kernel) (pa_cons (pv 2) (pa_cons (pe_glob (v := .ref C.cFull) (by rfl) T.gFull rfl) pa_nil))) pa_nil)))))
      (pss_cons (ps_set (i := 4) sc_law_refused.nd rfl (.inl rfl) (pe_or (pe_callB (call_isX T.f hz hf) (by rfl) B.isinstance (by decide +kernel) (pa_cons (pv 2) (pa_cons (pe_glob (v := .ref C.cAway) (by rfl) T.gAway rfl) pa_nil))) (pe_one (pe_callB (call_isX T.f hz hf) (by rfl) B.isinstance (by decide +kernel) (pa_cons (pv 2) (pa_cons (pe_glob (v := .ref C.cNoSize) (by rfl) T.gNoSize rfl) pa_nil))))))
      (pss_one (ps_ret (pe_op op_cat (pv 3) (pe_lst (pa_cons (pe_and (pe_callB (call_isX T.f hz hf) (by rfl) B.isinstance (by decide +kernel) (pa_cons (pv 2) (pa_cons (pe_bltn (v := .ty "ValueError") (by rfl) B.ValueError (by decide +kernel) rfl) pa_nil))) (pe_one (pe_not (pv 4)))) pa_nil)))))))))
      (pss_one (ps_ret (pe_lst pa_nil))))
theorem cal_law_refused {P : Program} {w : World} {K : PySem.W.Frag} {mg : Str → Option Value} {base : Heap} {C : Cs} (D : Def K mg "_law_refused" s_law_refused) (B : Bl mg) (T : Top K mg C) (c_first_come : Cal P w K mg base (L2.CX P w) 3 "first_come" ["guests", "many"] (sp_first_come K C)) :
    Cal P w K mg base CX0 4 "_law_refused" ["_law_guests", "_law_many"] (sp_law_refused K C) := by
  obtain ⟨f, fd, F, hm⟩ := D.ex
  exact ⟨f, fd, ok_law_refused F B T c_first_come, hm, F.kp, F.binds (ps := ["_law_guests", "_law_many"]) fun _ _ _ _ _ _ us hl => match us, hl with | [_, _], _ => rfl⟩
abbrev s_law_spoiled : Stmt := topS 33
theorem sc_law_spoiled : FnScope ["_law_script", "_law_guests", "_law_way", "_law_spoiled_here", "_law_twice", "_law_many", "_law_full", "_law_due"] ["_law_script", "_law_guests"] (defScope s_law_spoiled) := ⟨rfl, rfl, rfl, by decide +kernel, rfl, by decide +kernel, by decide +kernel⟩
theorem ok_law_spoiled {P : Program} {w : World} {K : PySem.W.Frag} {mg : Str → Option Value} {base : Heap} {C : Cs} {f : Addr} {fd : FuncData} (F : Fun K "_law_spoiled" "_law_spoiled" s_law_spoiled f fd) (B : Bl mg) (T : Top K mg C) (c_law_cell_at : Cal P w K mg base CX0 1 "_law_cell_at" ["_law_script", "_law_k"] (sp_law_cell_at K C)) (c_law_odd : Cal P w K mg base CX0 1 "_law_odd" ["_law_cell"] (sp_law_odd K C)) :
    FnOk P w K mg base CX0 2 f fd ["_law_script", "_law_guests"] (sp_law_spoiled K C) := by
  refine F.ok sc_law_spoiled (fun vs H Q E h => len_law_spoiled h) (fun cdv A outer s H vs Q E hr h => ⟨t_law_spoiled K C E, ?_, pure_law_spoiled T.f h⟩)
  have hu := hu_of hr
  exact (pss_cons (ps_set (i := 2) sc_law_spoiled.nd rfl (.inl rfl) (pe_op op_mod (pe_fn c_law_cell_at (hr.mono (by decide)) pass0 (pa_cons (pv 0) (pa_cons pe_int pa_nil))) pe_int))
      (pss_cons (ps_set (i := 3) sc_law_spoiled.nd rfl (.inl rfl) (pe_callTy call_list_of (by rfl) B.list (by decide +kernel) (pa_cons (pv 1) pa_nil)))
      (pss_cons (ps_set (i := 4) sc_law_spoiled.nd rfl (.inl rfl) (pe_and (pe_cmpR op_eq (pe_op op_mod (pe_op op_fdiv (pv 2) pe_int) pe_int) pe_int (nomark _)) (pe_one (pe_cmpR op_gt (pe_callB call_len_seq (by rfl) B.len (by decide +kernel) (pa_cons (pv 1) pa_nil)) pe_int (nomark _)))))
      (pss_cons (ps_if (pt_val (pv 4)) (pss_one (ps_expr (pe_bm PySem.F.plainAttrs_list PySem.F.slot_list_insert PySem.F.type_list_insert mt_insert (pv 3) (pa_cons (pe_op op_mod (pe_fn c_law_cell_at (hr.mono (by decide)) pass0 (pa_cons (pv 0) (pa_cons pe_int pa_nil))) (pe_op op_add (pe_callB call_len_seq (by rfl) B.len (by decide +kernel) (pa_cons (pv 1) pa_nil)) pe_int)) (pa_cons (pe_ix ix_list (pv 1) (pe_op op_mod (pe_fn c_law_cell_at (hr.mono (by decide)) pass0 (pa_cons (pv 0) (pa_cons pe_int pa_nil))) (pe_callB call_len_seq (by rfl) B.len (by decide +kernel) (pa_cons (pv 1) pa_nil))) (fun _ _ => rfl)) pa_nil))))) pss_nil)
      (pss_cons (ps_if (pt_cmpR op_eq (pe_op op_mod (pv 2) pe_int) pe_int (nomark _)) (pss_one (ps_expr (pe_bm PySem.F.plainAttrs_list PySem.F.slot_list_insert PySem.F.type_list_insert mt_insert (pv 3) (pa_cons (pe_op op_mod (pe_op op_fdiv (pe_fn c_law_cell_at (hr.mono (by decide)) pass0 (pa_cons (pv 0) (pa_cons pe_int pa_nil))) pe_int) (pe_op op_add (pe_callB call_len_seq (by rfl) B.len (by decide +kernel) (pa_cons (pv 3) pa_nil)) pe_int)) (pa_cons (pe_fn c_law_odd (hr.mono (by decide)) pass0 (pa_cons (pe_fn c_law_cell_at (hr.mono (by decide)) pass0 (pa_cons (pv 0) (pa_cons pe_int pa_nil))) pa_nil)) pa_nil))))) pss_nil)
      (pss_cons (ps_set (i := 5) sc_law_spoiled.nd rfl (.inl rfl) (pe_callB (call_max2 rfl) (by rfl) B.max (by decide +kernel) (pa_cons pe_int (pa_cons (pe_op op_add (pe_op op_add (pe_callB call_len_seq (by rfl) B.len (by decide +kernel) (pa_cons (pv 3) pa_nil)) pe_int) (pe_op op_mod (pe_op op_fdiv (pe_fn c_law_cell_at (hr.mono (by decide)) pass0 (pa_cons (pv 0) (pa_cons pe_int pa_nil))) pe_int) pe_int)) pa_nil))))
      (pss_cons (ps_set (i := 6) sc_law_spoiled.nd rfl (.inl rfl) (pe_and (pe_cmpR op_eq (pe_op op_fdiv (pv 2) pe_int) pe_int (nomark _)) (pe_one (pe_cmpR op_gt (pe_callB call_len_seq (by rfl) B.len (by decide +kernel) (pa_cons (pv 3) pa_nil)) pe_int (nomark _)))))
      (pss_cons (ps_if (pt_val (pv 6)) (pss_one (ps_set (i := 5) sc_law_spoiled.nd rfl (.inl rfl) (pe_callB (call_max2 rfl) (by rfl) B.max (by decide +kernel) (pa_cons pe_int (pa_cons (pe_op op_sub (pe_callB call_len_seq (by rfl) B.len (by decide +kernel) (pa_cons (pv 3) pa_nil)) (pe_op op_mod (pe_op op_fdiv (pe_fn c_law_cell_at (hr.mono (by decide)) pass0 (pa_cons (pv 0) (pa_cons pe_int pa_nil))) pe_int) pe_int)) pa_nil))))) pss_nil)
      (pss_cons (ps_set (i := 7) sc_law_spoiled.nd rfl (.inl rfl) (pe_lst (pa_cons (pe_cmpR op_eq (pe_op op_mod (pv 2) pe_int) pe_int (nomark _)) (pa_cons (pe_and (pe_cmpR op_eq (pe_op op_mod (pv 2) pe_int) pe_int (nomark _)) (pe_one (pv 4))) (pa_cons (pe_and (pe_cmpR op_eq (pe_op op_mod (pv 2) pe_int) pe_int (nomark _)) (pe_and (pe_not (pv 4)) (pe_one (pv 6)))) pa_nil)))))
      (pss_one (ps_ret (pe_lst (pa_cons (pv 3) (pa_cons (pv 5) (pa_cons (pv 7) pa_nil)))))))))))))))
theorem cal_law_spoiled {P : Program} {w : World} {K : PySem.W.Frag} {mg : Str → Option Value} {base : Heap} {C : Cs} (D : Def K mg "_law_spoiled" s_law_spoiled) (B : Bl mg) (T : Top K mg C) (c_law_cell_at : Cal P w K mg base CX0 1 "_law_cell_at" ["_law_script", "_law_k"] (sp_law_cell_at K C)) (c_law_odd : Cal P w K mg base CX0 1 "_law_odd" ["_law_cell"] (sp_law_odd K C)) :
    Cal P w K mg base CX0 2 "_law_spoiled" ["_law_script", "_law_guests"] (sp_law_spoiled K C) := by
  obtain ⟨f, fd, F, hm⟩ := D.ex
  exact ⟨f, fd, ok_law_spoiled F B T c_law_cell_at c_law_odd, hm, F.kp, F.binds (ps := ["_law_script", "_law_guests"]) fun _ _ _ _ _ _ us hl => match us, hl with | [_, _], _ => rfl⟩
abbrev s_law : Stmt := topS 34
theorem sc_law : FnScope ["_law_script", "_law_guests", "_law_spoiled_here", "_law_many", "_law_due", "_law_kept", "_law_handed", "_law_one", "_law_places_here", "_law_held", "_law_other", "_law_others", "_law_first", "_law_second"] ["_law_script"] (defScope s_law) := ⟨rfl, rfl, rfl, by decide +kernel, rfl, by decide +kernel, by decide +kernel⟩
theorem ok_law {P : Program} {w : World} {K : PySem.W.Frag} {mg : Str → Option Value} {base : Heap} {C : Cs} {f : Addr} {fd : FuncData} (F : Fun K "law" "law" s_law f fd) (B : Bl mg) (T : Top K mg C) (c_law_cell_at : Cal P w K mg base CX0 1 "_law_cell_at" ["_law_script", "_law_k"] (sp_law_cell_at K C)) (c_law_base : Cal P w K mg base CX0 1 "_law_base" ["_law_cell"] (sp_law_base K C)) (c_law_drawn : Cal P w K mg base CX0 2 "_law_drawn" ["_law_cells", "_law_base_here"] (sp_law_drawn K C)) (c_law_spoiled : Cal P w K mg base CX0 2 "_law_spoiled" ["_law_script", "_law_guests"] (sp_law_spoiled K C)) (c_law_refused : Cal P w K mg base CX0 4 "_law_refused" ["_law_guests", "_law_many"] (sp_law_refused K C)) (c_first_come : Cal P w K mg base (L2.CX P w) 3 "first_come" ["guests", "many"] (sp_first_come K C)) (c_law_places : Cal P w K mg base CX0 2 "_law_places" ["_law_seats", "_law_many"] (sp_law_places K C)) (c_law_in_turn : Cal P w K mg base CX0 2 "_law_in_turn" ["_law_guests", "_law_places_here", "_law_many"] (sp_law_in_turn K C)) (c_seated : Cal P w K mg base (L2.CX P w) 6 "seated" ["guests", "many"] (sp_seated K C)) (c_law_sums : Cal P w K mg base CX0 2 "_law_sums" ["_law_places_here", "_law_many"] (sp_law_sums K C)) (c_strain : Cal P w K mg base CX0 3 "strain" ["seats"] (sp_strain K C)) (c_law_told : Cal P w K mg base CX0 2 "_law_told" ["_law_found", "_law_due"] (sp_law_told K C)) :
    FnOk P w K mg base CX0 7 f fd ["_law_script"] (sp_law K C) := by
  refine F.ok sc_law (fun vs H Q E h => len_law h) (fun cdv A outer s H vs Q E hr h => ⟨t_law K C E, ?_, pure_law T.f h⟩)
  have hu := hu_of hr
  exact (pss_cons (ps_set (i := 1) sc_law.nd rfl (.inl rfl) (pe_fn c_law_drawn (hr.mono (by decide)) pass0 (pa_cons (pe_slice sl_list (pv 0) (po_some pe_int) (po_some pe_int)) (pa_cons (pe_fn c_law_base (hr.mono (by decide)) pass0 (pa_cons (pe_fn c_law_cell_at (hr.mono (by decide)) pass0 (pa_cons (pv 0) (pa_cons pe_int pa_nil))) pa_nil)) pa_nil))))
      (pss_cons (ps_asg (pe_fn c_law_spoiled (hr.mono (by decide)) pass0 (pa_cons (pv 0) (pa_cons (pv 1) pa_nil))) (pg_lst rfl (pgs_cons (pg_name (i := 2) sc_law.nd rfl (.inl rfl)) (pgs_cons (pg_name (i := 3) sc_law.nd rfl (.inl rfl)) (pgs_cons (pg_name (i := 4) sc_law.nd rfl (.inl rfl)) pgs_nil)))))
      (pss_cons (ps_set (i := 5) sc_law.nd rfl (.inl rfl) (pe_callTy call_list_of (by rfl) B.list (by decide +kernel) (pa_cons (pv 2) pa_nil)))
      (pss_cons (ps_if (PW.pt (pw_and (pt_cmpR op_in_seq pe_bl (pv 4) (by rfl)) (pw_and1 (PW.pt (pw_or (pt_cmpR (op_neD hr.units) (pe_fn c_law_refused (hr.mono (by decide)) pass0 (pa_cons (pv 2) (pa_cons (pv 3) pa_nil))) (pe_op op_cat (pv 4) (pe_lst (pa_cons pe_bl pa_nil))) (nomark _)) (pw_or1 (pt_cmpR (op_neS hr.units) (pv 2) (pv 5) (nomark _)))))))) (pss_one (ps_ret pe_bl)) pss_nil)
      (pss_cons (ps_set (i := 3) sc_law.nd rfl (.inl rfl) (pe_callB (call_max2 rfl) (by rfl) B.max (by decide +kernel) (pa_cons pe_int (pa_cons (pe_op op_add (pe_op op_add (pe_callB call_len_seq (by rfl) B.len (by decide +kernel) (pa_cons (pv 1) pa_nil)) pe_int) (pe_op op_mod (pe_op op_fdiv (pe_fn c_law_cell_at (hr.mono (by decide)) pass0 (pa_cons (pv 0) (pa_cons pe_int pa_nil))) pe_int) pe_int)) pa_nil))))
      (pss_cons (ps_if (pt_cmpR op_eq (pe_op op_mod (pe_fn c_law_cell_at (hr.mono (by decide)) pass0 (pa_cons (pv 0) (pa_cons pe_int pa_nil))) pe_int) pe_int (nomark _)) (pss_one (ps_set (i := 3) sc_law.nd rfl (.inl rfl) (pe_callB (call_max2 rfl) (by rfl) B.max (by decide +kernel) (pa_cons pe_int (pa_cons (pe_op op_add (pe_op op_add (pe_callB call_len_seq (by rfl) B.len (by decide +kernel) (pa_cons (pv 1) pa_nil)) pe_int) (pe_op op_mod (pe_op op_fdiv (pe_fn c_law_cell_at (hr.mono (by decide)) pass0 (pa_cons (pv 0) (pa_cons pe_int pa_nil))) pe_int) (pe_op op_sub pe_int (pe_callB call_len_seq (by rfl) B.len (by decide +kernel) (pa_cons (pv 1) pa_nil))))) pa_nil))))) pss_nil)
      (pss_cons (ps_set (i := 6) sc_law.nd rfl (.inl rfl) (pe_callTy call_list_of (by rfl) B.list (by decide +kernel) (pa_cons (pv 1) pa_nil)))
      (pss_cons (ps_set (i := 7) sc_law.nd rfl (.inl rfl) (pe_fn c_first_come (hr.mono (by decide)) passL (pa_cons (pv 6) (pa_cons (pv 3) pa_nil))))
      (pss_cons (ps_set (i := 8) sc_law.nd rfl (.inl rfl) (pe_fn c_law_places (hr.mono (by decide)) pass0 (pa_cons (pv 7) (pa_cons (pv 3) pa_nil))))
      (pss_cons (ps_if (PW.pt (pw_or (pt_cmpR (op_neD hr.units) (pv 6) (pv 1) (nomark _)) (pw_or (pt_cmp (pc_isN (pv 8))) (pw_or1 (pt_not (pt_val (pe_fn c_law_in_turn (hr.mono (by decide)) pass0 (pa_cons (pv 1) (pa_cons (pv 8) (pa_cons (pv 3) pa_nil)))))))))) (pss_one (ps_ret pe_bl)) pss_nil)
      (pss_cons (ps_set (i := 9) sc_law.nd rfl (.inl rfl) (pe_callTy call_list_of (by rfl) B.list (by decide +kernel) (pa_cons (pv 7) pa_nil)))
      (pss_cons (ps_expr (pe_bm0 PySem.F.plainAttrs_list PySem.F.slot_list_clear PySem.F.type_list_clear mt_clear (pv 6)))
      (pss_cons (ps_set (i := 10) sc_law.nd rfl (.inl rfl) (pe_fn c_seated (hr.mono (by decide)) passL (pa_cons (pv 1) (pa_cons (pv 3) pa_nil))))
      (pss_cons (ps_set (i := 11) sc_law.nd rfl (.inl rfl) (pe_fn c_law_places (hr.mono (by decide)) pass0 (pa_cons (pv 10) (pa_cons (pv 3) pa_nil))))
      (pss_cons (ps_if (PW.pt (pw_or (pt_cmp (pc_isN (pv 11))) (pw_or (pt_cmpR (op_neD hr.units) (pe_callB (call_sortedDI rfl) (by rfl) B.sorted (by decide +kernel) (pa_cons (pv 11) pa_nil)) (pe_callB cr_sortedI (by rfl) B.sorted (by decide +kernel) (pa_cons (pv 1) pa_nil)) (nomark _)) (pw_or1 (pt_cmpR (op_neD hr.units) (pe_sortedVals B.sorted (pv 11)) (pe_sortedVals B.sorted (pv 8)) (nomark _)))))) (pss_one (ps_ret pe_bl)) pss_nil)
      (pss_cons (ps_set (i := 12) sc_law.nd rfl (.inl rfl) (pe_fn c_law_sums (hr.mono (by decide)) pass0 (pa_cons (pv 8) (pa_cons (pv 3) pa_nil))))
      (pss_cons (ps_set (i := 13) sc_law.nd rfl (.inl rfl) (pe_fn c_law_sums (hr.mono (by decide)) pass0 (pa_cons (pv 11) (pa_cons (pv 3) pa_nil))))
      (pss_cons (ps_if (PW.pt (pw_or (pt_cmpR op_ne (pe_ix ix_list (pv 13) pe_int (fun _ _ => rfl)) (pe_ix ix_list (pv 12) pe_int (fun _ _ => rfl)) (nomark _)) (pw_or (pt_cmpR op_gt (pe_ix ix_list (pv 13) pe_int (fun _ _ => rfl)) (pe_ix ix_list (pv 12) pe_int (fun _ _ => rfl)) (nomark _)) (pw_or1 (pt_cmpR op_gt (pe_ix ix_list (pv 13) pe_int (fun _ _ => rfl)) (pe_ix ix_list (pv 12) pe_int (fun _ _ => rfl)) (nomark _)))))) (pss_one (ps_ret pe_bl)) pss_nil)
      (pss_one (ps_ret (pe_and (pe_fn c_law_told (hr.mono (by decide)) pass0 (pa_cons (pe_fn c_strain (hr.mono (by decide)) pass0 (pa_cons (pv 7) pa_nil)) (pa_cons (pv 12) pa_nil))) (pe_and (pe_fn c_law_told (hr.mono (by decide)) pass0 (pa_cons (pe_fn c_strain (hr.mono (by decide)) pass0 (pa_cons (pv 10) pa_nil)) (pa_cons (pv 13) pa_nil))) (pe_one (pe_cmpR (op_eqD hr.units) (pv 7) (pv 9) (nomark _)))))))))))))))))))))))))
end RS
namespace RS
open PySem PySem.Spec PyProof.Rows L2
theorem all_mk {l : PySem.W.OpenLaw} {w : World} {K : PySem.W.Frag} {h : Heap} {mg : Str → Option Value} {fa : Addr} (X : K.In h) (G : h.Ns mainGlobals mg) (hfa : mg "law" = some (.ref fa)) (C : Cs) (T : Top K mg C)
    (d_is_guest : Def K mg "is_guest" s_is_guest)
    (d_home : Def K mg "home" s_home)
    (d_carried : Def K mg "carried" s_carried)
    (d_ahead : Def K mg "ahead" s_ahead)
    (d_strain : Def K mg "strain" s_strain)
    (d_look_for : Def K mg "look_for" s_look_for)
    (d_take_seat : Def K mg "take_seat" s_take_seat)
    (d_looked_through : Def K mg "looked_through" s_looked_through)
    (d_seated : Def K mg "seated" s_seated)
    (d_first_come : Def K mg "first_come" s_first_come)
    (d_law_cell_at : Def K mg "_law_cell_at" s_law_cell_at)
    (d_law_whole : Def K mg "_law_whole" s_law_whole)
    (d_law_home : Def K mg "_law_home" s_law_home)
    (d_law_base : Def K mg "_law_base" s_law_base)
    (d_law_guest : Def K mg "_law_guest" s_law_guest)
    (d_law_drawn : Def K mg "_law_drawn" s_law_drawn)
    (d_law_places : Def K mg "_law_places" s_law_places)
    (d_law_in_turn : Def K mg "_law_in_turn" s_law_in_turn)
    (d_law_sums : Def K mg "_law_sums" s_law_sums)
    (d_law_told : Def K mg "_law_told" s_law_told)
    (d_law_odd : Def K mg "_law_odd" s_law_odd)
    (d_law_refused : Def K mg "_law_refused" s_law_refused)
    (d_law_spoiled : Def K mg "_law_spoiled" s_law_spoiled)
    (d_law : Def K mg "law" s_law)
    (z_ValueError : PySem.W.nsIn K mainGlobals "ValueError" = some none) (z_bool : PySem.W.nsIn K mainGlobals "bool" = some none) (z_enumerate : PySem.W.nsIn K mainGlobals "enumerate" = some none) (z_int : PySem.W.nsIn K mainGlobals "int" = some none) (z_isinstance : PySem.W.nsIn K mainGlobals "isinstance" = some none) (z_len : PySem.W.nsIn K mainGlobals "len" = some none) (z_list : PySem.W.nsIn K mainGlobals "list" = some none) (z_max : PySem.W.nsIn K mainGlobals "max" = some none) (z_set : PySem.W.nsIn K mainGlobals "set" = some none) (z_sorted : PySem.W.nsIn K mainGlobals "sorted" = some none) (z_tuple : PySem.W.nsIn K mainGlobals "tuple" = some none) (z_zip : PySem.W.nsIn K mainGlobals "zip" = some none) :
    ∃ fd : FuncData, (∀ (s : Shared) (v : Value), BindsTo s fd ⟨[v], []⟩ [("_law_script", v)]) ∧ ∀ base : Heap, K.In base → base.Ns mainGlobals mg → FnOk l.prog w K mg base CX0 7 fa fd ["_law_script"] (sp_law K C) := by
  have B : Bl mg := ⟨PySem.W.mg_none_of X G z_ValueError, PySem.W.mg_none_of X G z_bool, PySem.W.mg_none_of X G z_enumerate, PySem.W.mg_none_of X G z_int, PySem.W.mg_none_of X G z_isinstance, PySem.W.mg_none_of X G z_len, PySem.W.mg_none_of X G z_list, PySem.W.mg_none_of X G z_max, PySem.W.mg_none_of X G z_set, PySem.W.mg_none_of X G z_sorted, PySem.W.mg_none_of X G z_tuple, PySem.W.mg_none_of X G z_zip⟩
  obtain ⟨f, fd, F, hm⟩ := d_law.ex
  have e := hfa.symm.trans hm
  cases e
  refine ⟨fd, fun s v => ?_, fun base _ _ => ?_⟩
  · obtain ⟨oc, od, kV, doc, pm, an, cdv, ct, osl, rfl, lk, hcd⟩ := F.ex
    exact .of_eq rfl
  · have c_is_guest := cal_is_guest (P := l.prog) (w := w) (base := base) (C := C) d_is_guest B T 
    have c_home := cal_home (P := l.prog) (w := w) (base := base) (C := C) d_home B T 
    have c_carried := cal_carried (P := l.prog) (w := w) (base := base) (C := C) d_carried B T c_home
    have c_ahead := cal_ahead (P := l.prog) (w := w) (base := base) (C := C) d_ahead B T c_carried
    have c_strain := cal_strain (P := l.prog) (w := w) (base := base) (C := C) d_strain B T c_carried
    have c_look_for := cal_look_for (P := l.prog) (w := w) (base := base) (C := C) d_look_for B T c_is_guest c_home c_ahead
    have c_take_seat := cal_take_seat (P := l.prog) (w := w) (base := base) (C := C) d_take_seat B T c_look_for
    have c_looked_through := cal_looked_through (P := l.prog) (w := w) (base := base) (C := C) d_looked_through B T c_is_guest
    have c_seated := cal_seated (P := l.prog) (w := w) (base := base) (C := C) d_seated B T c_looked_through c_take_seat
    have c_first_come := cal_first_come (P := l.prog) (w := w) (base := base) (C := C) d_first_come B T c_looked_through c_home
    have c_law_cell_at := cal_law_cell_at (P := l.prog) (w := w) (base := base) (C := C) d_law_cell_at B T 
    have c_law_whole := cal_law_whole (P := l.prog) (w := w) (base := base) (C := C) d_law_whole B T 
    have c_law_home := cal_law_home (P := l.prog) (w := w) (base := base) (C := C) d_law_home B T 
    have c_law_base := cal_law_base (P := l.prog) (w := w) (base := base) (C := C) d_law_base B T 
    have c_law_guest := cal_law_guest (P := l.prog) (w := w) (base := base) (C := C) d_law_guest B T 
    have c_law_drawn := cal_law_drawn (P := l.prog) (w := w) (base := base) (C := C) d_law_drawn B T c_law_guest
    have c_law_places := cal_law_places (P := l.prog) (w := w) (base := base) (C := C) d_law_places B T c_law_whole
    have c_law_in_turn := cal_law_in_turn (P := l.prog) (w := w) (base := base) (C := C) d_law_in_turn B T c_law_home
    have c_law_sums := cal_law_sums (P := l.prog) (w := w) (base := base) (C := C) d_law_sums B T c_law_home
    have c_law_told := cal_law_told (P := l.prog) (w := w) (base := base) (C := C) d_law_told B T c_law_whole
    have c_law_odd := cal_law_odd (P := l.prog) (w := w) (base := base) (C := C) d_law_odd B T 
    have c_law_refused := cal_law_refused (P := l.prog) (w := w) (base := base) (C := C) d_law_refused B T c_first_come
    have c_law_spoiled := cal_law_spoiled (P := l.prog) (w := w) (base := base) (C := C) d_law_spoiled B T c_law_cell_at c_law_odd
    exact ok_law F B T c_law_cell_at c_law_base c_law_drawn c_law_spoiled c_law_refused c_first_come c_law_places c_law_in_turn c_seated c_law_sums c_strain c_law_told
theorem fin {l : PySem.W.OpenLaw} {q : Program} {loose : List Str} {XP : (Str → Option Value) → Heap → Prop} {YP : World → Heap → Prop} {d : DefRec} {K : Params → PySem.W.Frag} (hn : l.most = some 63) (hdf : d.params.defaults = [])
    (hY : ∀ (w : World) (h : Heap), YP w h → (K w.params).In h)
    (F : ∀ (w : World) (mg : Str → Option Value) (fa : Addr) (h : Heap), (K w.params).In h → h.Ns mainGlobals mg → mg d.name = some (.ref fa) → ∃ C : Cs,
      ∃ fd : FuncData, (∀ (s : Shared) (u : Value), BindsTo s fd ⟨[u], []⟩ [("_law_script", u)]) ∧ ∀ base : Heap, (K w.params).In base → base.Ns mainGlobals mg → FnOk l.prog w (K w.params) mg base CX0 7 fa fd ["_law_script"] (sp_law (K w.params) C)) :
    PySem.W.WalkO q loose XP YP l.row.toRowW d [] (fun f vs => PySem.call f vs) :=
  L2.walk_of (n := 63) (k := 7) (x := "_law_script") (CX := fun _ => CX0) (sp := fun w => sp_law0 (K w.params)) hn (by decide) hdf ⟨rfl, by decide, by decide⟩ hY
    (fun w mg fa h a b c => by
      obtain ⟨C, fd, h1, h2⟩ := F w mg fa h a b c
      exact ⟨fd, h1, h2⟩)
    (fun _ _ a ns hl _ hS => ⟨a, ns, rfl, hS, hl, fun _ => rfl⟩) fun _ _ _ _ _ z => z
end RS
open PySem PySem.W PyProof.Rows
set_option maxRecDepth 100000 in
set_option maxHeartbeats 0 in
theorem PySem.Challenge.cw_ringseat_k09_whole_first_come_holds : PySem.Challenge.rw_ringseat_k09_whole_first_come.Holds := by
  w_on; o_law; k_head; (case hw => w_witness2)
  k_fill
  refine RS.fin (l := PySem.Challenge.rw_ringseat_k09_whole_first_come) rfl rfl (fun w h Y => PySem.W.kIn_of Y) ?F
  case F =>
    intro w mg fa h KX G hmg
    refine' ⟨_, RS.all_mk KX G hmg _ (RS.top_mk (aH := 0) KX G ?nR ?n1 ?n2 ?n3 ?n4 ?n5 ⟨?F1q, ?F1k, ?F1b, ?F1t, ?F1g, ?F1n, ?F1d, ?F1c, ?F1m, ?F1v, ?F1r, ?F1s⟩ ⟨?F2q, ?F2k, ?F2b, ?F2t, ?F2g, ?F2n, ?F2d, ?F2c, ?F2m, ?F2v, ?F2r, ?F2s⟩ ⟨?F3q, ?F3k, ?F3b, ?F3t, ?F3g, ?F3n, ?F3d, ?F3c, ?F3m, ?F3v, ?F3r, ?F3s⟩ ⟨?F4q, ?F4k, ?F4b, ?F4t, ?F4g, ?F4n, ?F4d, ?F4c, ?F4m, ?F4v, ?F4r, ?F4s⟩ ⟨?F5q, ?F5k, ?F5b, ?F5t, ?F5g, ?F5n, ?F5d, ?F5c, ?F5m, ?F5v, ?F5r, ?F5s⟩ ?Rb ?Rd ?Rt ?hn ?ht ?s12 ?s13 ?s14 ?s15 ?s21 ?s23 ?s24 ?s25 ?s31 ?s32 ?s34 ?s35 ?s41 ?s42 ?s43 ?s45 ?s51 ?s52 ?s53 ?s54) (RS.def_mk KX G ?a_is_guest ?l_is_guest ?c_is_guest ?k_is_guest) (RS.def_mk KX G ?a_home ?l_home ?c_home ?k_home) (RS.def_mk KX G ?a_carried ?l_carried ?c_carried ?k_carried) (RS.def_mk KX G ?a_ahead ?l_ahead ?c_ahead ?k_ahead) (RS.def_mk KX G ?a_strain ?l_strain ?c_strain ?k_strain) (RS.def_mk KX G ?a_look_for ?l_look_for ?c_look_for ?k_look_for) (RS.def_mk KX G ?a_take_seat ?l_take_seat ?c_take_seat ?k_take_seat) (RS.def_mk KX G ?a_looked_through ?l_looked_through ?c_looked_through ?k_looked_through) (RS.def_mk KX G ?a_seated ?l_seated ?c_seated ?k_seated) (RS.def_mk KX G ?a_first_come ?l_first_come ?c_first_come ?k_first_come) (RS.def_mk KX G ?a_law_cell_at ?l_law_cell_at ?c_law_cell_at ?k_law_cell_at) (RS.def_mk KX G ?a_law_whole ?l_law_whole ?c_law_whole ?k_law_whole) (RS.def_mk KX G ?a_law_home ?l_law_home ?c_law_home ?k_law_home) (RS.def_mk KX G ?a_law_base ?l_law_base ?c_law_base ?k_law_base) (RS.def_mk KX G ?a_law_guest ?l_law_guest ?c_law_guest ?k_law_guest) (RS.def_mk KX G ?a_law_drawn ?l_law_drawn ?c_law_drawn ?k_law_drawn) (RS.def_mk KX G ?a_law_places ?l_law_places ?c_law_places ?k_law_places) (RS.def_mk KX G ?a_law_in_turn ?l_law_in_turn ?c_law_in_turn ?k_law_in_turn) (RS.def_mk KX G ?a_law_sums ?l_law_sums ?c_law_sums ?k_law_sums) (RS.def_mk KX G ?a_law_told ?l_law_told ?c_law_told ?k_law_told) (RS.def_mk KX G ?a_law_odd ?l_law_odd ?c_law_odd ?k_law_odd) (RS.def_mk KX G ?a_law_refused ?l_law_refused ?c_law_refused ?k_law_refused) (RS.def_mk KX G ?a_law_spoiled ?l_law_spoiled ?c_law_spoiled ?k_law_spoiled) (RS.def_mk KX G ?a_law ?l_law ?c_law ?k_law) ?z_ValueError ?z_bool ?z_enumerate ?z_int ?z_isinstance ?z_len ?z_list ?z_max ?z_set ?z_sorted ?z_tuple ?z_zip⟩
    (case nR => k_is); (case n1 => k_is); (case n2 => k_is); (case n3 => k_is); (case n4 => k_is); (case n5 => k_is); (case Rb => k_is); (case Rd => k_is); (case Rt => k_is); (case hn => k_is); (case ht => k_is)
    (case F1q => k_exc); (case F1k => k_is); (case F1b => k_is); (case F1t => k_is); (case F1g => k_is); (case F1n => k_is); (case F1d => k_is); (case F1c => k_is); (case F1m => k_is); (case F1v => k_is); (case F1r => k_is); (case F1s => k_is)
    (case F2q => k_exc); (case F2k => k_is); (case F2b => k_is); (case F2t => k_is); (case F2g => k_is); (case F2n => k_is); (case F2d => k_is); (case F2c => k_is); (case F2m => k_is); (case F2v => k_is); (case F2r => k_is); (case F2s => k_is)
    (case F3q => k_exc); (case F3k => k_is); (case F3b => k_is); (case F3t => k_is); (case F3g => k_is); (case F3n => k_is); (case F3d => k_is); (case F3c => k_is); (case F3m => k_is); (case F3v => k_is); (case F3r => k_is); (case F3s => k_is)
    (case F4q => k_exc); (case F4k => k_is); (case F4b => k_is); (case F4t => k_is); (case F4g => k_is); (case F4n => k_is); (case F4d => k_is); (case F4c => k_is); (case F4m => k_is); (case F4v => k_is); (case F4r => k_is); (case F4s => k_is)
    (case F5q => k_exc); (case F5k => k_is); (case F5b => k_is); (case F5t => k_is); (case F5g => k_is); (case F5n => k_is); (case F5d => k_is); (case F5c => k_is); (case F5m => k_is); (case F5v => k_is); (case F5r => k_is); (case F5s => k_is)
    (case s12 => k_is); (case s13 => k_is); (case s14 => k_is); (case s15 => k_is); (case s21 => k_is); (case s23 => k_is); (case s24 => k_is); (case s25 => k_is); (case s31 => k_is); (case s32 => k_is); (case s34 => k_is); (case s35 => k_is); (case s41 => k_is); (case s42 => k_is); (case s43 => k_is); (case s45 => k_is); (case s51 => k_is); (case s52 => k_is); (case s53 => k_is); (case s54 => k_is)
    (case a_is_guest => k_is); (case l_is_guest => k_is); (case c_is_guest => k_is); (case k_is_guest => k_is)
    (case a_home => k_is); (case l_home => k_is); (case c_home => k_is); (case k_home => k_is)
    (case a_carried => k_is); (case l_carried => k_is); (case c_carried => k_is); (case k_carried => k_is)
    (case a_ahead => k_is); (case l_ahead => k_is); (case c_ahead => k_is); (case k_ahead => k_is)
    (case a_strain => k_is); (case l_strain => k_is); (case c_strain => k_is); (case k_strain => k_is)
    (case a_look_for => k_is); (case l_look_for => k_is); (case c_look_for => k_is); (case k_look_for => k_is)
    (case a_take_seat => k_is); (case l_take_seat => k_is); (case c_take_seat => k_is); (case k_take_seat => k_is)
    (case a_looked_through => k_is); (case l_looked_through => k_is); (case c_looked_through => k_is); (case k_looked_through => k_is)
    (case a_seated => k_is); (case l_seated => k_is); (case c_seated => k_is); (case k_seated => k_is)
    (case a_first_come => k_is); (case l_first_come => k_is); (case c_first_come => k_is); (case k_first_come => k_is)
    (case a_law_cell_at => k_is); (case l_law_cell_at => k_is); (case c_law_cell_at => k_is); (case k_law_cell_at => k_is)
    (case a_law_whole => k_is); (case l_law_whole => k_is); (case c_law_whole => k_is); (case k_law_whole => k_is)
    (case a_law_home => k_is); (case l_law_home => k_is); (case c_law_home => k_is); (case k_law_home => k_is)
    (case a_law_base => k_is); (case l_law_base => k_is); (case c_law_base => k_is); (case k_law_base => k_is)
    (case a_law_guest => k_is); (case l_law_guest => k_is); (case c_law_guest => k_is); (case k_law_guest => k_is)
    (case a_law_drawn => k_is); (case l_law_drawn => k_is); (case c_law_drawn => k_is); (case k_law_drawn => k_is)
    (case a_law_places => k_is); (case l_law_places => k_is); (case c_law_places => k_is); (case k_law_places => k_is)
    (case a_law_in_turn => k_is); (case l_law_in_turn => k_is); (case c_law_in_turn => k_is); (case k_law_in_turn => k_is)
    (case a_law_sums => k_is); (case l_law_sums => k_is); (case c_law_sums => k_is); (case k_law_sums => k_is)
    (case a_law_told => k_is); (case l_law_told => k_is); (case c_law_told => k_is); (case k_law_told => k_is)
    (case a_law_odd => k_is); (case l_law_odd => k_is); (case c_law_odd => k_is); (case k_law_odd => k_is)
    (case a_law_refused => k_is); (case l_law_refused => k_is); (case c_law_refused => k_is); (case k_law_refused => k_is)
    (case a_law_spoiled => k_is); (case l_law_spoiled => k_is); (case c_law_spoiled => k_is); (case k_law_spoiled => k_is)
    (case a_law => k_is); (case l_law => k_is); (case c_law => k_is); (case k_law => k_is)
    (case z_ValueError => k_is); (case z_bool => k_is); (case z_enumerate => k_is); (case z_int => k_is); (case z_isinstance => k_is); (case z_len => k_is); (case z_list => k_is); (case z_max => k_is); (case z_set => k_is); (case z_sorted => k_is); (case z_tuple => k_is); (case z_zip => k_is)
