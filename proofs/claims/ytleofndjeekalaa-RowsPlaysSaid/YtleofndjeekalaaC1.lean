/- Rows: the plain words: which rows there are. -/
import Derived.Test.YtleofndjeekalaaC0
namespace Go.Proofs.Ytleofndjeekalaa
open Go Go.RowKit
def Cell.c (x : Cell) : List Value := [.int .i64 x.l, .int .u32 x.k]
def Cell.z : Cell := ⟨0, 0⟩
theorem Cell.len (x : Cell) : x.c.length = 2 := rfl
abbrev VM := List (Cell × Int)
abbrev EM := List (Cell × Bool)
structure RSt where
  ver : VM
  ev : EM
  last : Int
def RSt.put (r : RSt) (c : Cell) : RSt := ⟨Z.mput c (r.last + 1) r.ver, Z.mput c true r.ev, r.last + 1⟩
def RSt.drop (r : RSt) (c : Cell) : RSt := { r with ver := Z.mdel c r.ver }
def RSt.z : RSt := ⟨[], [], 0⟩
structure RSt.ok (r : RSt) : Prop where
  nd : (Z.ks r.ver).Nodup
  inj : ∀ c c' v, Z.mget c r.ver = some v → Z.mget c' r.ver = some v → c = c'
  le : ∀ c v, Z.mget c r.ver = some v → 1 ≤ v ∧ v ≤ r.last
  ne : (Z.ks r.ev).Nodup
  l0 : 0 ≤ r.last
  l1 : r.last ≤ 1000
  len : (r.ver.length : Int) ≤ r.last
  elen : (r.ev.length : Int) ≤ r.last
theorem RSt.put_ok {r : RSt} {c : Cell} (h : r.ok) (hl : r.last < 1000) : (r.put c).ok where
  nd := Z.nodup_mput h.nd
  inj := fun a b v ha hb => by
    simp only [RSt.put, Z.mget_mput] at ha hb
    by_cases e1 : a = c <;> by_cases e2 : b = c
    · rw [e1, e2]
    · rw [if_pos e1] at ha; rw [if_neg e2] at hb
      cases ha
      have := (h.le b _ hb).2; omega
    · rw [if_neg e1] at ha; rw [if_pos e2] at hb
      cases hb
      have := (h.le a _ ha).2; omega
    · rw [if_neg e1] at ha; rw [if_neg e2] at hb; exact h.inj a b v ha hb
  le := fun a v ha => by
    simp only [RSt.put, Z.mget_mput] at ha ⊢
    have := h.l0
    split at ha
    · cases ha; omega
    · have := h.le a v ha; omega
  ne := Z.nodup_mput h.ne
  l0 := by have := h.l0; simp only [RSt.put]; omega
  l1 := by simp only [RSt.put]; omega
  len := by
    have := h.len
    simp only [RSt.put, Z.len_mput]; split <;> omega
  elen := by
    have := h.elen
    simp only [RSt.put, Z.len_mput]; split <;> omega
theorem RSt.drop_ok {r : RSt} {c : Cell} (h : r.ok) : (r.drop c).ok where
  nd := Z.nodup_mdel h.nd
  inj := fun a b v ha hb => by
    simp only [RSt.drop, Z.mget_mdel h.nd] at ha hb
    split at ha
    · cases ha
    · split at hb
      · cases hb
      · exact h.inj a b v ha hb
  le := fun a v ha => by
    simp only [RSt.drop, Z.mget_mdel h.nd] at ha
    split at ha
    · cases ha
    · exact h.le a v ha
  ne := h.ne
  l0 := h.l0
  l1 := h.l1
  len := by
    have := h.len
    have h2 := (Z.sub_mdel (k := c) (m := r.ver)).length_le
    show ((Z.mdel c r.ver).length : Int) ≤ r.last; omega
  elen := h.elen
theorem RSt.z_ok : RSt.z.ok := ⟨List.nodup_nil, by simp [RSt.z, Z.mget], by simp [RSt.z, Z.mget], List.nodup_nil, by decide, by decide, by simp [RSt.z], by simp [RSt.z]⟩

/-! ### pieces -/
def vO (o : Option (Nat × Nat)) : Value := .map (o.map (·.1))
def eO (o : Option (Nat × Nat)) : Value := .map (o.map (·.2))
def RowF (rb : Nat) (o : Option (Nat × Nat)) (r : RSt) : List Z.SP := [Z.cl rb 29 [vO o, eO o, .int .i64 r.last], Z.MapV (vO o) Cell.e (Value.int .i64) r.ver, Z.MapV (eO o) Cell.e Value.bool r.ev]
def RowP (rb : Nat) (r : RSt) : Z.SP := fun h => ∃ o, Z.sep (RowF rb o r) h
section
variable {w0 w : World} {R : List Z.SP} {rb : Nat} {r : RSt}
theorem rowP_cases (H : Z.St w0 (RowP rb r :: R) w) : (r.ver = [] ∧ r.ev = [] ∧ Z.St w0 (Z.cl rb 29 [.map none, .map none, .int .i64 r.last] :: R) w) ∨
    ∃ vb eb, Z.St w0 (Z.cl rb 29 [.map (some vb), .map (some eb), .int .i64 r.last] :: Z.MapP vb Cell.e (Value.int .i64) r.ver :: Z.MapP eb Cell.e Value.bool r.ev :: R) w := by
  obtain ⟨hb, h, hh, h1, h2, d, s1, s2, ⟨o, ho⟩, l⟩ := H
  have H2 : Z.St w0 (RowF rb o r ++ R) w := ⟨hb, h, hh, Z.sep_flat ⟨h1, h2, d, s1, s2, ho, l⟩⟩
  cases o with
  | none =>
    left
    have H3 : Z.St w0 (Z.MapV (.map none) Cell.e (Value.int .i64) r.ver :: Z.MapV (.map none) Cell.e Value.bool r.ev :: Z.cl rb 29 [.map none, .map none, .int .i64 r.last] :: R) w := H2.imp fun _ H => Z.sep_perm (by
      refine List.Perm.trans (l₂ := Z.MapV (.map none) Cell.e (Value.int .i64) r.ver :: Z.cl rb 29 [.map none, .map none, .int .i64 r.last] :: Z.MapV (.map none) Cell.e Value.bool r.ev :: R) (.swap _ _ _) (.cons _ (.swap _ _ _))) H
    rcases H3.mapV with ⟨_, e2, H4⟩ | ⟨b, e, _⟩
    · rcases H4.mapV with ⟨_, e4, H5⟩ | ⟨b, e, _⟩
      · exact ⟨e2, e4, H5⟩
      · cases e
    · cases e
  | some p =>
    right
    obtain ⟨vb, eb⟩ := p
    refine ⟨vb, eb, H2.imp fun _ H => ?_⟩
    have f1 : ∀ {b : Nat} {h : Z.Hp}, Z.MapV (.map (some b)) Cell.e (Value.int .i64) r.ver h → Z.MapP b Cell.e (Value.int .i64) r.ver h := fun H => by
      rcases H with ⟨e, _⟩ | ⟨b', e, H⟩
      · cases e
      · cases e; exact H
    have f2 : ∀ {b : Nat} {h : Z.Hp}, Z.MapV (.map (some b)) Cell.e Value.bool r.ev h → Z.MapP b Cell.e Value.bool r.ev h := fun H => by
      rcases H with ⟨e, _⟩ | ⟨b', e, H⟩
      · cases e
      · cases e; exact H
    exact Z.sep_tail (fun _ H => Z.sep_tail (fun _ H => Z.sep_head (fun _ => f2) H) (Z.sep_head (fun _ => f1) H)) H
theorem rowP_some {vb eb : Nat} {h : Z.Hp} (H : Z.sep [Z.cl rb 29 [.map (some vb), .map (some eb), .int .i64 r.last], Z.MapP vb Cell.e (Value.int .i64) r.ver, Z.MapP eb Cell.e Value.bool r.ev] h) : RowP rb r h :=
  ⟨some (vb, eb), Z.sep_tail (fun _ H => Z.sep_tail (fun _ H => Z.sep_head (fun _ hc => .inr ⟨eb, rfl, hc⟩) H) (Z.sep_head (fun _ hc => .inr ⟨vb, rfl, hc⟩) H)) H⟩
theorem rowP_none {h : Z.Hp} (hv : r.ver = []) (he : r.ev = []) (H : Z.sep [Z.cl rb 29 [.map none, .map none, .int .i64 r.last]] h) : RowP rb r h := by
  refine ⟨none, ?_⟩
  unfold RowF
  rw [hv, he]
  refine Z.sep_swap (Z.mapV_nil ?_)
  exact Z.sep_swap (Z.mapV_nil H)
end
theorem bok_put {κ υ : Type} [DecidableEq κ] {k : κ} {v : υ} {m : List (κ × υ)} {bs : List Nat} {clock : Nat} (h : Z.BOK m bs clock) : Z.BOK (Z.mput k v m) (Z.mbs k m bs clock) (Z.mclk k m clock) := by
  unfold Z.mbs Z.mclk
  cases hf : Z.mfnd k m 0 with
  | some p => exact Z.mput_bok h hf
  | none => exact Z.mput_bok' h hf
end Go.Proofs.Ytleofndjeekalaa
