/- RvmSlots: what each instruction makes of the machine's state. -/
import Derived.Test.YtplnnlnkcfappaaGreatRp
namespace Go.Proofs.YtplnnlnkcfappaaGreat.Rs
open Go Go.RowKit
set_option linter.unusedSimpArgs false
set_option linter.unusedVariables false

variable {w0 : World} {K V : Value} {pb rt tb rb sb cb cr ib vb B i : Nat} {σ : St} {w : World}

/-- all but the parts that are written -/
theorem Mch.keep {S : Nat → Prop} {w' : World} {i' : Nat} {σ' : St} (h : Mch w0 K V pb rt tb rb sb cb cr ib vb B i σ w) (hx : Fx S w w') (hS : ∀ g, S g → g = tb ∨ g = rb ∨ g = sb ∨ g = cb ∨ g = ib ∨ B ≤ g)
    (hcall : Cb w' cb rb sb i' K V) (hregs : Vats w' rb 9 σ'.r) (hslots : Vats w' sb 5 σ'.s) (htank : Tk w' tb B (99 - (σ'.e.length : Int)) σ'.e) (hins : Room w' ib 5) : Mch w0 K V pb rt tb rb sb cb cr ib vb B i' σ' w' := by
  obtain ⟨⟨la, lb⟩, hs, hbw, hc, hr, hsl, ht, hrow, hi, hv, hres⟩ := h
  refine ⟨⟨la, lb⟩, Nat.le_trans hs hx.size, hbw.trans (hx.below (by omega) fun g hg hg' => ?_), hcall, hregs, hslots, htank, ?_, hins, ?_, ?_⟩
  · rcases hS g hg' with h | h | h | h | h | h <;> omega
  · exact (hx.cell (b := cr) (by omega) (fun h => by rcases hS _ h with h | h | h | h | h | h <;> omega) 0).trans hrow
  · exact hv.fx hx (by omega) (fun h => by rcases hS _ h with h | h | h | h | h | h <;> omega)
  · exact hres.fx hx (by omega) (fun h => by rcases hS _ h with h | h | h | h | h | h <;> omega)

/-- the instruction has been fetched, and the place counted on -/
theorem Mch.fetch (h : Mch w0 K V pb rt tb rb sb cb cr ib vb B i σ w) (y0 y1 y2 y3 y4 : Value) :
    Mch w0 K V pb rt tb rb sb cb cr ib vb B (i + 1) σ ((((((w.setCell ⟨ib, 0, none⟩ y0).setCell ⟨ib, 1, none⟩ y1).setCell ⟨ib, 2, none⟩ y2).setCell ⟨ib, 3, none⟩ y3).setCell ⟨ib, 4, none⟩ y4).setCell ⟨cb, 5, none⟩ (.int .i64 ((i : Int) + 1))).drew := by
  have hl := h.lay.a
  have hl2 := h.lay.b
  have hsz := h.size
  have hx1 : Fx (fun g => g = ib) w (((((w.setCell ⟨ib, 0, none⟩ y0).setCell ⟨ib, 1, none⟩ y1).setCell ⟨ib, 2, none⟩ y2).setCell ⟨ib, 3, none⟩ y3).setCell ⟨ib, 4, none⟩ y4) :=
    Fx.setCell (Fx.setCell (Fx.setCell (Fx.setCell (Fx.setCell (S := fun g => g = ib) (Fx.refl _ _) rfl _) rfl _) rfl _) rfl _) rfl _
  generalize hW : ((((w.setCell ⟨ib, 0, none⟩ y0).setCell ⟨ib, 1, none⟩ y1).setCell ⟨ib, 2, none⟩ y2).setCell ⟨ib, 3, none⟩ y3).setCell ⟨ib, 4, none⟩ y4 = W at hx1 ⊢
  have hi1 : Room W ib 5 := by rw [← hW]; exact ((((h.ins.set 0 (by omega) _).set 1 (by omega) _).set 2 (by omega) _).set 3 (by omega) _).set 4 (by omega) _
  have hx2 : Fx (fun g => g = cb) W (W.setCell ⟨cb, 5, none⟩ (.int .i64 ((i : Int) + 1))).drew := (Fx.setCell (S := fun g => g = cb) (Fx.refl _ _) rfl _).drew
  have hC := h.call.fx hx1 (by omega)
  have hs1 := hx1.size
  refine h.keep (S := fun g => g = ib ∨ g = cb) ((hx1.mono fun _ _ h => .inl h).trans (hx2.mono fun _ _ h => .inr h)) (fun g hg => by rcases hg with hg | hg <;> simp [hg]) ?_ ?_ ?_ ?_ ?_
  · obtain ⟨c3, c4, c5, c7, c8, f5⟩ := hC
    refine ⟨?_, ?_, ?_, ?_, ?_, ?_⟩
    · simp [go_sem, c3]
    · simp [go_sem, c4]
    · simp [go_sem, c5]
    · simp [go_sem, c7]
    · simp [go_sem, c8]
    · simp [go_sem, f5]
  · exact (h.regs.fx hx1 (by omega) (by omega)).fx hx2 (by omega) (by omega)
  · exact (h.slots.fx hx1 (by omega) (by omega)).fx hx2 (by omega) (by omega)
  · exact (h.tank.fx hx1 (by omega) (fun g hg _ => by omega)).fx hx2 (by omega) (fun g hg _ => by omega)
  · exact hi1.fx hx2 (by omega) (by omega)

/-- a register has been written -/
theorem Mch.putReg {W : World} (h : Mch w0 K V pb rt tb rb sb cb cr ib vb B i σ w) (hx : Fx (fun _ => False) w W) (r : Nat) (hr : r < 9) (n : Int) :
    Mch w0 K V pb rt tb rb sb cb cr ib vb B i { σ with r := upd σ.r r n } (sets5 W rb (r * 5) (.int .i64 (kd n)) (.int .i64 n) (.complex .f64 0 0) (.string ⟨#[]⟩) (.slice none 0 0)) := by
  have hl := h.lay.a
  have hl2 := h.lay.b
  have hsz := h.size
  have hs1 := hx.size
  have hx2 : Fx (fun g => g = rb) W (sets5 W rb (r * 5) (.int .i64 (kd n)) (.int .i64 n) (.complex .f64 0 0) (.string ⟨#[]⟩) (.slice none 0 0)) := Fx.sets5 (S := fun g => g = rb) (Fx.refl _ _) rfl _ _ _ _ _
  have h0 : ¬ False := fun h => h
  refine h.keep (S := fun g => g = rb) ((hx.mono fun _ _ h => h.elim).trans hx2) (fun g hg => .inr (.inl hg)) ?_ ?_ ?_ ?_ ?_
  · exact (h.call.fx hx h0).fx hx2 (by omega)
  · exact (h.regs.fx hx (by omega) h0).set r hr n
  · exact (h.slots.fx hx (by omega) h0).fx hx2 (by omega) (by omega)
  · exact (h.tank.fx hx h0 (fun _ _ _ h => h)).fx hx2 (by omega) (fun g hg _ => by omega)
  · exact (h.ins.fx hx (by omega) h0).fx hx2 (by omega) (by omega)
/-- a slot has been written -/
theorem Mch.putSlot {W : World} (h : Mch w0 K V pb rt tb rb sb cb cr ib vb B i σ w) (hx : Fx (fun _ => False) w W) (s : Nat) (hs : s < 5) (n : Int) :
    Mch w0 K V pb rt tb rb sb cb cr ib vb B i { σ with s := upd σ.s s n } (sets5 W sb (s * 5) (.int .i64 (kd n)) (.int .i64 n) (.complex .f64 0 0) (.string ⟨#[]⟩) (.slice none 0 0)) := by
  have hl := h.lay.a
  have hl2 := h.lay.b
  have hsz := h.size
  have hs1 := hx.size
  have hx2 : Fx (fun g => g = sb) W (sets5 W sb (s * 5) (.int .i64 (kd n)) (.int .i64 n) (.complex .f64 0 0) (.string ⟨#[]⟩) (.slice none 0 0)) := Fx.sets5 (S := fun g => g = sb) (Fx.refl _ _) rfl _ _ _ _ _
  have h0 : ¬ False := fun h => h
  refine h.keep (S := fun g => g = sb) ((hx.mono fun _ _ h => h.elim).trans hx2) (fun g hg => .inr (.inr (.inl hg))) ?_ ?_ ?_ ?_ ?_
  · exact (h.call.fx hx h0).fx hx2 (by omega)
  · exact (h.regs.fx hx (by omega) h0).fx hx2 (by omega) (by omega)
  · exact (h.slots.fx hx (by omega) h0).set s hs n
  · exact (h.tank.fx hx h0 (fun _ _ _ h => h)).fx hx2 (by omega) (fun g hg _ => by omega)
  · exact (h.ins.fx hx (by omega) h0).fx hx2 (by omega) (by omega)
/-- a number has been put out -/
theorem Mch.putOut {w' : World} (h : Mch w0 K V pb rt tb rb sb cb cr ib vb B i σ w) (hx : Fx (fun g => g = tb ∨ B ≤ g) w w') (n : Int) (hT : Tk w' tb B (99 - (σ.e.length : Int) - 1) (σ.e ++ [n])) :
    Mch w0 K V pb rt tb rb sb cb cr ib vb B i { σ with e := σ.e ++ [n] } w' := by
  have hl := h.lay.a
  have hl2 := h.lay.b
  have hsz := h.size
  refine h.keep hx (fun g hg => by rcases hg with hg | hg <;> simp [hg]) ?_ ?_ ?_ ?_ ?_
  · exact h.call.fx hx (by omega)
  · exact h.regs.fx hx (by omega) (by omega)
  · exact h.slots.fx hx (by omega) (by omega)
  · have e : (99 - ((σ.e ++ [n]).length : Int)) = 99 - (σ.e.length : Int) - 1 := by simp; omega
    show Tk w' tb B (99 - ((σ.e ++ [n]).length : Int)) (σ.e ++ [n])
    rw [e]
    exact hT
  · exact h.ins.fx hx (by omega) (by omega)

theorem room_drew {w : World} {b n : Nat} (h : Room w b n) : Room w.drew b n := ⟨h.1, h.2⟩
/-- the answer has been laid down -/
theorem Mch.putVal (h : Mch w0 K V pb rt tb rb sb cb cr ib vb B i σ w) :
    Mch w0 K V pb rt tb rb sb cb cr ib vb B i σ (((((w.setCell ⟨vb, 0, none⟩ (.int .i64 0)).setCell ⟨vb, 1, none⟩ (.int .i64 0)).setCell ⟨vb, 2, none⟩ (.complex .f64 0 0)).setCell ⟨vb, 3, none⟩ (.string ⟨#[]⟩)).setCell ⟨vb, 4, none⟩ (.slice none 0 0)).drew ∧
    Rv (((((w.setCell ⟨vb, 0, none⟩ (.int .i64 0)).setCell ⟨vb, 1, none⟩ (.int .i64 0)).setCell ⟨vb, 2, none⟩ (.complex .f64 0 0)).setCell ⟨vb, 3, none⟩ (.string ⟨#[]⟩)).setCell ⟨vb, 4, none⟩ (.slice none 0 0)).drew vb 0 0 := by
  have hl := h.lay.a
  have hl2 := h.lay.b
  obtain ⟨z0, v0⟩ := h.val.1 0 (by omega)
  obtain ⟨z1, v1⟩ := h.val.1 1 (by omega)
  obtain ⟨z2, v2⟩ := h.val.1 2 (by omega)
  obtain ⟨z3, v3⟩ := h.val.1 3 (by omega)
  obtain ⟨z4, v4⟩ := h.val.1 4 (by omega)
  have hx1 : Fx (fun g => g = vb) w (((((w.setCell ⟨vb, 0, none⟩ (.int .i64 0)).setCell ⟨vb, 1, none⟩ (.int .i64 0)).setCell ⟨vb, 2, none⟩ (.complex .f64 0 0)).setCell ⟨vb, 3, none⟩ (.string ⟨#[]⟩)).setCell ⟨vb, 4, none⟩ (.slice none 0 0)).drew :=
    (Fx.setCell (Fx.setCell (Fx.setCell (Fx.setCell (Fx.setCell (S := fun g => g = vb) (Fx.refl _ _) rfl _) rfl _) rfl _) rfl _) rfl _).drew
  have hr : Room (((((w.setCell ⟨vb, 0, none⟩ (.int .i64 0)).setCell ⟨vb, 1, none⟩ (.int .i64 0)).setCell ⟨vb, 2, none⟩ (.complex .f64 0 0)).setCell ⟨vb, 3, none⟩ (.string ⟨#[]⟩)).setCell ⟨vb, 4, none⟩ (.slice none 0 0)).drew vb 5 :=
    room_drew (((((h.val.set 0 (by omega) (.int .i64 0)).set 1 (by omega) (.int .i64 0)).set 2 (by omega) (.complex .f64 0 0)).set 3 (by omega) (.string ⟨#[]⟩)).set 4 (by omega) (.slice none 0 0))
  have hrv : Rv (((((w.setCell ⟨vb, 0, none⟩ (.int .i64 0)).setCell ⟨vb, 1, none⟩ (.int .i64 0)).setCell ⟨vb, 2, none⟩ (.complex .f64 0 0)).setCell ⟨vb, 3, none⟩ (.string ⟨#[]⟩)).setCell ⟨vb, 4, none⟩ (.slice none 0 0)).drew vb 0 0 := by
    intro j hj
    obtain rfl | rfl | rfl | rfl | rfl : j = 0 ∨ j = 1 ∨ j = 2 ∨ j = 3 ∨ j = 4 := by omega
    all_goals simp [go_sem, v0, v1, v2, v3, v4, vc, kd0]
  generalize (((((w.setCell ⟨vb, 0, none⟩ (.int .i64 0)).setCell ⟨vb, 1, none⟩ (.int .i64 0)).setCell ⟨vb, 2, none⟩ (.complex .f64 0 0)).setCell ⟨vb, 3, none⟩ (.string ⟨#[]⟩)).setCell ⟨vb, 4, none⟩ (.slice none 0 0)).drew = W at hx1 hr hrv ⊢
  refine ⟨?_, hrv⟩
  obtain ⟨⟨la, lb⟩, hs, hbw, hc, hrg, hsl, ht, hrow, hi, hv, hres⟩ := h
  refine ⟨⟨la, lb⟩, Nat.le_trans hs hx1.size, hbw.trans (hx1.below (by omega) fun g hg hg' => by omega), hc.fx hx1 (by omega), hrg.fx hx1 (by omega) (by omega), hsl.fx hx1 (by omega) (by omega), ht.fx hx1 (by omega) (fun g hg _ => by omega), ?_, hi.fx hx1 (by omega) (by omega), hr, hres.fx hx1 (by omega) (by omega)⟩
  exact (hx1.cell (b := cr) (by omega) (by omega) 0).trans hrow

end Go.Proofs.YtplnnlnkcfappaaGreat.Rs
