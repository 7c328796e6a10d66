/- The second evaluator tells the truth, part 1: the small words; cells; the invariant; reading. -/
import Derived.Test.YtplnnlnkcfappaaGreatQb
namespace Go.Proofs.YtplnnlnkcfappaaGreat.E3
open Go Go.RowKit
set_option linter.unusedSimpArgs false
set_option linter.unusedVariables false

variable {ρ : Syms}

variable {α β : Type}

/-! ### Small words -/
theorem ob_some {o : Option α} {k : α → Option β} {y : β} (h : ob o k = some y) : ∃ a, o = some a ∧ k a = some y := by
  cases o with
  | none => cases h
  | some a => exact ⟨a, rfl, h⟩
theorem gd_some {b : Bool} {k : Option β} {y : β} (h : gd b k = some y) : b = true ∧ k = some y := by
  cases b with
  | false => cases h
  | true => exact ⟨rfl, h⟩
theorem te_eq (b : Bool) (x y : β) : te b x y = if b then x else y := by cases b <;> rfl
theorem both {a b : Bool} (h : te a b false = true) : a = true ∧ b = true := by
  cases a
  · cases h
  · exact ⟨rfl, h⟩
theorem obR_some {o : Option α} {k : α → R} {y : Out} (h : obR o k = some y) : ∃ a, o = some a ∧ k a = some y := ob_some h
theorem gdR_some {b : Bool} {k : R} {y : Out} (h : gdR b k = some y) : b = true ∧ k = some y := gd_some h
theorem teR_eq (b : Bool) (x y : R) : teR b x y = if b then x else y := by cases b <;> rfl
theorem strictN_eq (n : Nat) (k : Nat → β) : strictN n k = k n := by cases n <;> rfl
theorem strictR_eq (n : Nat) (k : Nat → R) : strictR n k = k n := by cases n <;> rfl
theorem strictI_eq (n : Int) (k : Int → β) : strictI n k = k n := by
  cases n with
  | ofNat m => exact strictN_eq m (fun n => k (.ofNat n))
  | negSucc m => exact strictN_eq m (fun n => k (.negSucc n))

theorem no {y : Out} {p : Prop} (h : (none : R) = some y) : p := nomatch h

theorem ptrR_some {v : AV} {k : Nat → Nat → R} {y : Out} (h : ptrR v k = some y) : ∃ b off, v = .ptr b off ∧ k b off = some y := by
  cases v <;> first | exact ⟨_, _, rfl, h⟩ | exact no h
theorem slR_some {v : AV} {k : Nat → Nat → Nat → Nat → R} {y : Out} (h : slR v k = some y) : ∃ b off len sz, v = .sl b off len sz ∧ k b off len sz = some y := by
  cases v <;> first | exact ⟨_, _, _, _, rfl, h⟩ | exact no h
theorem aggR_some {v : AV} {k : List AV → R} {y : Out} (h : aggR v k = some y) : ∃ l, v = .agg l ∧ k l = some y := by
  cases v <;> first | exact no h | skip
  case agg l => exact ⟨l, rfl, h⟩
theorem tupR_some {v : AV} {k : List AV → R} {y : Out} (h : tupR v k = some y) : ∃ l, v = .tup l ∧ k l = some y := by
  cases v <;> first | exact no h | skip
  case tup l => exact ⟨l, rfl, h⟩
theorem fnR_some {v : AV} {k : FuncId → List AV → R} {y : Out} (h : fnR v k = some y) : ∃ f l, v = .fn f l ∧ k f l = some y := by
  cases v <;> first | exact no h | skip
  case fn f l => exact ⟨f, l, rfl, h⟩
theorem natOr_some {v : AV} {k : Nat → R} {s : R} {y : Out} (h : natOr v k s = some y) : (∃ n, v = .nat n ∧ k n = some y) ∨ s = some y := by
  cases v <;> first | exact .inr h | skip
  case nat n => exact .inl ⟨n, rfl, h⟩
theorem boolOr_some {v : AV} {k : Bool → R} {s : R} {y : Out} (h : boolOr v k s = some y) : (∃ b, v = .bool b ∧ k b = some y) ∨ s = some y := by
  cases v <;> first | exact .inr h | skip
  case bool b => exact .inl ⟨b, rfl, h⟩
theorem cmp2_some {u v : AV} {k : Nat → Nat → R} {s : R} {y : Out} (h : cmp2 u v k s = some y) : (∃ i j, ((u = .nat i ∧ v = .nat j) ∨ (u = .byt i ∧ v = .byt j)) ∧ k i j = some y) ∨ s = some y := by
  cases u <;> first | exact .inr h | skip
  case nat i => cases v <;> first | exact .inr h | exact .inl ⟨_, _, .inl ⟨rfl, rfl⟩, h⟩
  case byt i => cases v <;> first | exact .inr h | exact .inl ⟨_, _, .inr ⟨rfl, rfl⟩, h⟩
theorem force_some {v : AV} {k : AV → R} {y : Out} (h : force v k = some y) : v ≠ .bad ∧ k v = some y := by
  cases v <;> first | exact ⟨by simp, h⟩ | exact no h

theorem asPtr_some {v : AV} {k : Nat → Nat → Option β} {y : β} (h : asPtr v k = some y) : ∃ b off, v = .ptr b off ∧ k b off = some y := by
  cases v <;> simp only [asPtr] at h
  case ptr b off => exact ⟨b, off, rfl, h⟩
  all_goals cases h
theorem asAgg_some {v : AV} {k : List AV → Option β} {y : β} (h : asAgg v k = some y) : ∃ l, v = .agg l ∧ k l = some y := by
  cases v <;> simp only [asAgg] at h
  case agg l => exact ⟨l, rfl, h⟩
  all_goals cases h

/-- what it is whatever the blocks -/
def Is (v : AV) (x : Value) : Prop := v ≠ .bad ∧ ∀ (ρ : Syms) (F : Env), den ρ F v = some x

/-! ### Texts as numbers -/
theorem rawBytes_some (ρ : Syms) : ∀ (n q : Nat) (l : List UInt8), rawBytes n q = some l → bytesOf ρ n q = l
  | 0, q, l, h => by obtain rfl := Option.some.inj (show some [] = some l from h); rfl
  | n + 1, q, l, h => by
    obtain ⟨h1, h⟩ := gd_some (show gd (Nat.blt (Nat.mod q 256) 128) (strictN (Nat.div q 256) fun r => ob (rawBytes n r) fun l => strictN (Nat.mod q 256) fun b => some (UInt8.ofNat b :: l)) = some l from h)
    rw [strictN_eq] at h
    obtain ⟨l', h2, h⟩ := ob_some h
    rw [strictN_eq] at h
    obtain rfl := Option.some.inj h
    have h1' : q % 256 < 128 := Nat.le_of_ble_eq_true h1
    show byteOf ρ (q % 256) :: bytesOf ρ n (q / 256) = _
    rw [rawBytes_some ρ n (q / 256) l' h2]
    unfold byteOf
    rw [if_pos h1']
    rfl
theorem encB_some (ρ : Syms) : ∀ (l : List UInt8) (p : Nat × Nat), encB l = some p → bytesOf ρ p.1 p.2 = l
  | [], p, h => by obtain rfl := Option.some.inj (show some (0, 0) = some p from h); rfl
  | x :: l, p, h => by
    obtain ⟨p', h1, h⟩ := ob_some (show ob (encB l) (fun p => gd (Nat.blt x.toNat 128) (strictN (Nat.add x.toNat (Nat.mul 256 p.2)) fun q => strictN (Nat.succ p.1) fun n => some (n, q))) = some p from h)
    obtain ⟨h2, h⟩ := gd_some h
    rw [strictN_eq, strictN_eq] at h
    obtain rfl := Option.some.inj h
    have h2' : x.toNat < 128 := Nat.le_of_ble_eq_true h2
    have e1 : Nat.add x.toNat (Nat.mul 256 p'.2) = x.toNat + 256 * p'.2 := rfl
    show bytesOf ρ (p'.1 + 1) (x.toNat + 256 * p'.2) = _
    have e2 : (x.toNat + 256 * p'.2) % 256 = x.toNat := by omega
    have e3 : (x.toNat + 256 * p'.2) / 256 = p'.2 := by omega
    show byteOf ρ ((x.toNat + 256 * p'.2) % 256) :: bytesOf ρ p'.1 ((x.toNat + 256 * p'.2) / 256) = _
    rw [e2, e3, encB_some ρ l p' h1]
    unfold byteOf
    rw [if_pos h2']
    simp
theorem strAV_is (s : ByteArray) : Is (strAV s) (.string s) := by
  unfold strAV
  split
  · rename_i p hp
    refine ⟨by simp, fun ρ F => ?_⟩
    simp only [den, strOf, encB_some ρ _ _ hp]
  · exact ⟨by simp, fun _ F => by simp [den]⟩
theorem bytesOf_length (ρ : Syms) : ∀ n q, (bytesOf ρ n q).length = n
  | 0, q => rfl
  | n + 1, q => by show (bytesOf ρ n _).length + 1 = _; rw [bytesOf_length ρ n]
theorem bytesOf_get (ρ : Syms) : ∀ n q i, i < n → (bytesOf ρ n q)[i]? = some (byteOf ρ (q / 256 ^ i % 256))
  | 0, q, i, h => absurd h (Nat.not_lt_zero _)
  | n + 1, q, 0, h => by
    show some (byteOf ρ (q % 256)) = _
    rw [Nat.pow_zero, Nat.div_one]
  | n + 1, q, i + 1, h => by
    show (bytesOf ρ n (q / 256))[i]? = _
    rw [bytesOf_get ρ n _ i (Nat.lt_of_succ_lt_succ h), Nat.div_div_eq_div_mul, ← Nat.pow_succ']
theorem bytesOf_mod (ρ : Syms) : ∀ n q, bytesOf ρ n (q % 256 ^ n) = bytesOf ρ n q
  | 0, q => rfl
  | n + 1, q => by
    show byteOf ρ (q % 256 ^ (n + 1) % 256) :: bytesOf ρ n (q % 256 ^ (n + 1) / 256) = byteOf ρ (q % 256) :: bytesOf ρ n (q / 256)
    have h1 : q % 256 ^ (n + 1) % 256 = q % 256 := Nat.mod_mod_of_dvd q (by rw [Nat.pow_succ']; exact Nat.dvd_mul_right _ _)
    have h2 : q % 256 ^ (n + 1) / 256 = q / 256 % 256 ^ n := by rw [Nat.pow_succ', Nat.mod_mul_right_div_self]
    rw [h1, h2, bytesOf_mod ρ n]
theorem bytesOf_drop (ρ : Syms) : ∀ l n q, l ≤ n → (bytesOf ρ n q).drop l = bytesOf ρ (n - l) (q / 256 ^ l)
  | 0, n, q, h => by rw [Nat.pow_zero, Nat.div_one]; rfl
  | l + 1, 0, q, h => absurd h (Nat.not_succ_le_zero _)
  | l + 1, n + 1, q, h => by
    show (bytesOf ρ n (q / 256)).drop l = _
    rw [bytesOf_drop ρ l n _ (Nat.le_of_succ_le_succ h), Nat.div_div_eq_div_mul, ← Nat.pow_succ', Nat.succ_sub_succ]
theorem bytesOf_take (ρ : Syms) : ∀ k n q, k ≤ n → (bytesOf ρ n q).take k = bytesOf ρ k q
  | 0, n, q, h => by simp [bytesOf]
  | k + 1, 0, q, h => absurd h (Nat.not_succ_le_zero _)
  | k + 1, n + 1, q, h => by
    show byteOf ρ (q % 256) :: (bytesOf ρ n (q / 256)).take k = byteOf ρ (q % 256) :: bytesOf ρ k (q / 256)
    rw [bytesOf_take ρ k n _ (Nat.le_of_succ_le_succ h)]
theorem bytesOf_append (ρ : Syms) : ∀ n q m r, bytesOf ρ n q ++ bytesOf ρ m r = bytesOf ρ (n + m) (q % 256 ^ n + r * 256 ^ n)
  | 0, q, m, r => by
    rw [Nat.pow_zero, Nat.mod_one, Nat.zero_add, Nat.zero_add, Nat.mul_one]
    rfl
  | n + 1, q, m, r => by
    have hp : 256 ^ (n + 1) = 256 * 256 ^ n := Nat.pow_succ'
    have e0 : n + 1 + m = (n + m) + 1 := by omega
    rw [e0]
    show byteOf ρ (q % 256) :: (bytesOf ρ n (q / 256) ++ bytesOf ρ m r) = byteOf ρ ((q % 256 ^ (n + 1) + r * 256 ^ (n + 1)) % 256) :: bytesOf ρ (n + m) ((q % 256 ^ (n + 1) + r * 256 ^ (n + 1)) / 256)
    have h1 : q % 256 ^ (n + 1) % 256 = q % 256 := Nat.mod_mod_of_dvd q (by rw [hp]; exact Nat.dvd_mul_right _ _)
    have h2 : q % 256 ^ (n + 1) / 256 = q / 256 % 256 ^ n := by rw [hp, Nat.mod_mul_right_div_self]
    have e1 : r * 256 ^ (n + 1) = 256 * (r * 256 ^ n) := by rw [hp]; exact Nat.mul_left_comm _ _ _
    have h3 : (q % 256 ^ (n + 1) + r * 256 ^ (n + 1)) % 256 = q % 256 := by rw [e1, Nat.add_mul_mod_self_left, h1]
    have h4 : (q % 256 ^ (n + 1) + r * 256 ^ (n + 1)) / 256 = q / 256 % 256 ^ n + r * 256 ^ n := by
      rw [e1, Nat.add_mul_div_left _ _ (by decide : 0 < 256), h2]
    rw [h3, h4, bytesOf_append ρ n]

theorem asRaw_some {v : AV} {k : Value → Option β} {y : β} (h : asRaw v k = some y) : ∃ x, Is v x ∧ k x = some y := by
  cases v <;> simp only [asRaw] at h
  case raw x => exact ⟨x, ⟨by simp, fun _ F => by simp [den]⟩, h⟩
  case nat n => exact ⟨_, ⟨by simp, fun _ F => by simp [den]⟩, h⟩
  case bool n => exact ⟨_, ⟨by simp, fun _ F => by simp [den]⟩, h⟩
  case byt n => exact ⟨_, ⟨by simp, fun _ F => by simp [den]⟩, h⟩
  case str n q =>
    obtain ⟨l, hl, h⟩ := ob_some h
    refine ⟨_, ⟨by simp, fun ρ F => ?_⟩, h⟩
    simp only [den, strOf, rawBytes_some ρ n q l hl]
  all_goals cases h
theorem asNat_some {v : AV} {k : Nat → Option β} {y : β} (h : asNat v k = some y) : ∃ q n, Is v (.int q (.ofNat n)) ∧ k n = some y := by
  cases v <;> simp only [asNat] at h
  case raw x =>
    cases x <;> simp only [asNatV] at h
    case int q n =>
      cases n <;> simp only [asNatI] at h
      case ofNat n => exact ⟨q, n, ⟨by simp, fun _ F => by simp [den]⟩, h⟩
      all_goals cases h
    all_goals cases h
  case nat n => exact ⟨.i64, n, ⟨by simp, fun _ F => by simp [den]⟩, h⟩
  case byt n => exact ⟨.u8, n, ⟨by simp, fun _ F => by simp [den]⟩, h⟩
  all_goals cases h
theorem natR_some {v : AV} {k : Nat → R} {y : Out} (h : natR v k = some y) : ∃ q n, Is v (.int q (.ofNat n)) ∧ k n = some y := by
  rcases natOr_some h with ⟨n, rfl, h⟩ | h
  · exact ⟨.i64, n, ⟨by simp, fun _ F => by simp [den]⟩, h⟩
  · exact asNat_some h

theorem boolAV_eq (b : Bool) : boolAV b = some (.bool b) := by cases b <;> rfl

theorem avI_den (q : IntKind) (n : Int) (F : Env) : den ρ F (avI q n) = some (.int q n) := by
  unfold avI
  split <;> simp [den]
theorem avI_ne (q : IntKind) (n : Int) : avI q n ≠ .bad := by
  unfold avI
  split <;> simp
theorem avOf_is (v : Value) : Is (avOf v) v := by
  cases v <;> simp only [avOf] <;> first | exact ⟨avI_ne _ _, fun ρ F => avI_den _ _ F⟩ | exact strAV_is _ | exact ⟨by simp, fun _ F => by simp [den]⟩

theorem u8s_eq : ∀ (l : List UInt8) (k : List UInt8 → Option AV), u8s l k = k l
  | [], k => rfl
  | x :: l, k => by
    show strictN x.toNat (fun n => u8s l fun l => k (UInt8.ofNat n :: l)) = _
    rw [strictN_eq, u8s_eq l]
    simp
theorem strictV_some {v : Value} {x : AV} (h : strictV v = some x) : Is x v := by
  cases v <;> simp only [strictV] at h
  case string s =>
    rw [u8s_eq] at h
    obtain rfl := Option.some.inj h
    exact strAV_is _
  case int q n =>
    unfold strictIK at h
    split at h
    · rw [strictN_eq] at h
      obtain rfl := Option.some.inj h
      exact ⟨by simp, fun _ F => by simp [den]⟩
    · rw [strictN_eq] at h
      obtain rfl := Option.some.inj h
      exact ⟨by simp, fun _ F => by simp [den]⟩
    · rw [strictI_eq] at h
      obtain rfl := Option.some.inj h
      exact ⟨by simp, fun _ F => by simp [den]⟩
  case bool b =>
    rw [boolAV_eq] at h
    obtain rfl := Option.some.inj h
    exact ⟨by simp, fun _ F => by simp [den]⟩
  all_goals
    obtain rfl := Option.some.inj h
    exact ⟨by simp, fun _ F => by simp [den]⟩

theorem purely_run {P : Program} : ∀ (s : Sem α) (a : α) (w : World), purely P s = some a → s.run P w = .ok a w
  | .pure a, _, w, h => by simp only [purely, Option.some.injEq] at h; subst h; rfl
  | .program k, a, w, h => by simp only [purely] at h; exact purely_run (k P) a w h
  | .mark _ k, a, w, h => by simp only [purely] at h; exact purely_run k a w h
  | .load .., _, _, h => by simp [purely] at h
  | .store .., _, _, h => by simp [purely] at h
  | .new .., _, _, h => by simp [purely] at h
  | .shape .., _, _, h => by simp [purely] at h
  | .freeze .., _, _, h => by simp [purely] at h
  | .frozen .., _, _, h => by simp [purely] at h
  | .getObj .., _, _, h => by simp [purely] at h
  | .setObj .., _, _, h => by simp [purely] at h
  | .choose .., _, _, h => by simp [purely] at h
  | .sys .., _, _, h => by simp [purely] at h
  | .halt .., _, _, h => by simp [purely] at h

theorem evPlain_some {P : Program} {s : Sem Value} {x : AV} (h : evPlain P s = some x) : ∃ v, Is x v ∧ ∀ w, s.run P w = .ok v w := by
  obtain ⟨v, hv, h2⟩ := ob_some h
  exact ⟨v, strictV_some h2, fun w => purely_run _ _ w hv⟩

/-! ### What stands in a list of values -/
theorem dens_nil (F : Env) : dens ρ F [] = some [] := by simp [dens]
theorem dens_cons {F : Env} {x : AV} {l : List AV} {vs : List Value} (h : dens ρ F (x :: l) = some vs) : ∃ v us, den ρ F x = some v ∧ dens ρ F l = some us ∧ vs = v :: us := by
  simp only [dens] at h
  cases h1 : den ρ F x with
  | none => rw [h1] at h; simp at h
  | some v =>
    cases h2 : dens ρ F l with
    | none => rw [h1, h2] at h; simp at h
    | some us => rw [h1, h2] at h; exact ⟨v, us, rfl, rfl, (Option.some.inj h).symm⟩
theorem dens_cons_mk {F : Env} {x : AV} {l : List AV} {v : Value} {us : List Value} (h1 : den ρ F x = some v) (h2 : dens ρ F l = some us) : dens ρ F (x :: l) = some (v :: us) := by
  simp [dens, h1, h2]
theorem dens_append {F : Env} : ∀ {l r : List AV} {us vs : List Value}, dens ρ F l = some us → dens ρ F r = some vs → dens ρ F (l ++ r) = some (us ++ vs)
  | [], r, us, vs, h1, h2 => by rw [dens_nil] at h1; obtain rfl := Option.some.inj h1; simpa using h2
  | x :: l, r, us, vs, h1, h2 => by
    obtain ⟨v, ws, hx, hl, rfl⟩ := dens_cons h1
    exact dens_cons_mk hx (dens_append hl h2)
theorem dens_length {F : Env} : ∀ {l : List AV} {vs : List Value}, dens ρ F l = some vs → vs.length = l.length
  | [], vs, h => by rw [dens_nil] at h; obtain rfl := Option.some.inj h; rfl
  | x :: l, vs, h => by
    obtain ⟨v, us, _, hl, rfl⟩ := dens_cons h
    simp [dens_length hl]
theorem dens_avOf (F : Env) : ∀ l : List Value, dens ρ F (l.map avOf) = some l
  | [] => by simp [dens]
  | v :: l => by simp [dens, (avOf_is v).2 ρ F, dens_avOf F l]

def Ext (F F' : Env) : Prop := ∀ b x, F b = some x → F' b = some x
theorem mapName_some {F : Env} {l : List AV} {v : Value} (h : mapName F l = some v) : ∃ b off x, l = [.ptr b off] ∧ F b = some x ∧ v = .map (some x.1) := by
  unfold mapName at h
  split at h
  · simp only [Option.map_eq_some_iff] at h
    obtain ⟨x, hx, rfl⟩ := h
    exact ⟨_, _, x, rfl, hx, rfl⟩
  · cases h
theorem Ext.refl (F : Env) : Ext F F := fun _ _ h => h
theorem Ext.trans {F G K : Env} (h : Ext F G) (k : Ext G K) : Ext F K := fun b x e => k b x (h b x e)

mutual
theorem den_ext {F F' : Env} (h : Ext F F') : ∀ (x : AV) (v : Value), den ρ F x = some v → den ρ F' x = some v
  | .raw _, _, e => by simpa [den] using e
  | .nat _, _, e => by simpa [den] using e
  | .bool _, _, e => by simpa [den] using e
  | .bad, _, e => by simp [den] at e
  | .sym k, _, e => by simpa [den] using e
  | .str _ _, _, e => by simpa [den] using e
  | .byt _, _, e => by simpa [den] using e
  | .hol _ _, _, e => by simpa [den] using e
  | .ptr b off, v, e => by
    simp only [den, Option.map_eq_some_iff] at e ⊢
    obtain ⟨x, hx, rfl⟩ := e
    exact ⟨x, h _ _ hx, rfl⟩
  | .sl b off len sz, v, e => by
    simp only [den, Option.map_eq_some_iff] at e ⊢
    obtain ⟨x, hx, rfl⟩ := e
    exact ⟨x, h _ _ hx, rfl⟩
  | .agg l, v, e => by
    simp only [den, Option.map_eq_some_iff] at e ⊢
    obtain ⟨x, hx, rfl⟩ := e
    exact ⟨x, dens_ext h l x hx, rfl⟩
  | .tup l, v, e => by
    simp only [den, Option.map_eq_some_iff] at e ⊢
    obtain ⟨x, hx, rfl⟩ := e
    exact ⟨x, dens_ext h l x hx, rfl⟩
  | .fn f l, v, e => by
    simp only [den] at e ⊢
    rw [te_eq] at e ⊢
    by_cases hf : Nat.blt f mapId = true
    · rw [if_pos hf] at e ⊢
      simp only [Option.map_eq_some_iff] at e ⊢
      obtain ⟨x, hx, rfl⟩ := e
      exact ⟨x, dens_ext h l x hx, rfl⟩
    · rw [if_neg hf] at e ⊢
      obtain ⟨b, off, x, rfl, hx, rfl⟩ := mapName_some e
      simp [mapName, h _ _ hx]
theorem dens_ext {F F' : Env} (h : Ext F F') : ∀ (l : List AV) (vs : List Value), dens ρ F l = some vs → dens ρ F' l = some vs
  | [], vs, e => by simpa [dens] using e
  | x :: l, vs, e => by
    obtain ⟨v, us, hx, hl, rfl⟩ := dens_cons e
    exact dens_cons_mk (den_ext h x v hx) (dens_ext h l us hl)
end

/-- the cells of a value -/
theorem dens_one {F : Env} {x : AV} {v : Value} (h : den ρ F x = some v) : dens ρ F [x] = some [v] := dens_cons_mk h (dens_nil F)
theorem dens_cellsV (F : Env) (v : Value) : dens ρ F (cellsV v) = some v.cells.toList := by
  cases v <;> simp only [cellsV, Value.cells]
  case agg cs => exact dens_avOf F _
  all_goals exact dens_one ((avOf_is _).2 ρ F)
theorem den_ptr {F : Env} {b off : Nat} {v : Value} (h : den ρ F (.ptr b off) = some v) : ∃ g c, F b = some (g, c) ∧ v = .pointer (some ⟨g, c.2 + off, none⟩) := by
  simp only [den, Option.map_eq_some_iff] at h
  obtain ⟨⟨g, c⟩, h1, h2⟩ := h
  exact ⟨g, c, h1, h2.symm⟩
theorem den_sl {F : Env} {b off len sz : Nat} {v : Value} (h : den ρ F (.sl b off len sz) = some v) : ∃ g c, F b = some (g, c) ∧ v = .slice (some ⟨g, c.2 + slOff off len c.1, none⟩) len ((c.1 - off) / sz) := by
  simp only [den, Option.map_eq_some_iff] at h
  obtain ⟨⟨g, c⟩, h1, h2⟩ := h
  exact ⟨g, c, h1, h2.symm⟩
theorem den_agg {F : Env} {l : List AV} {v : Value} (h : den ρ F (.agg l) = some v) : ∃ vs, dens ρ F l = some vs ∧ v = .agg vs.toArray := by
  simp only [den, Option.map_eq_some_iff] at h
  obtain ⟨vs, h1, h2⟩ := h
  exact ⟨vs, h1, h2.symm⟩
theorem den_tup {F : Env} {l : List AV} {v : Value} (h : den ρ F (.tup l) = some v) : ∃ vs, dens ρ F l = some vs ∧ v = .tuple vs.toArray := by
  simp only [den, Option.map_eq_some_iff] at h
  obtain ⟨vs, h1, h2⟩ := h
  exact ⟨vs, h1, h2.symm⟩
theorem den_fn {F : Env} {f : FuncId} {l : List AV} {v : Value} (hf : Nat.blt f mapId = true) (h : den ρ F (.fn f l) = some v) : ∃ vs, dens ρ F l = some vs ∧ v = .func (.func f) #[] vs.toArray := by
  simp only [den] at h
  rw [te_eq, if_pos hf] at h
  simp only [Option.map_eq_some_iff] at h
  obtain ⟨vs, h1, h2⟩ := h
  exact ⟨vs, h1, h2.symm⟩
theorem den_fn_mk {F : Env} {f : FuncId} {l : List AV} {vs : List Value} (hf : Nat.blt f mapId = true) (h : dens ρ F l = some vs) : den ρ F (.fn f l) = some (.func (.func f) #[] vs.toArray) := by
  simp only [den]
  rw [te_eq, if_pos hf, h]
  rfl
theorem den_map {F : Env} {f : FuncId} {l : List AV} {v : Value} (hf : Nat.ble mapId f = true) (h : den ρ F (.fn f l) = some v) : ∃ b off x, l = [.ptr b off] ∧ F b = some x ∧ v = .map (some x.1) := by
  have hf' : ¬ Nat.blt f mapId = true := fun h1 => by
    have h2 := Nat.le_of_ble_eq_true hf
    have h3 : f < mapId := Nat.le_of_ble_eq_true h1
    exact Nat.lt_irrefl _ (Nat.lt_of_lt_of_le h3 h2)
  simp only [den] at h
  rw [te_eq, if_neg hf'] at h
  exact mapName_some h
theorem den_fn_any {F : Env} {f : FuncId} {l : List AV} {v : Value} (h : den ρ F (.fn f l) = some v) : (∃ vs : List Value, v = .func (.func f) #[] vs.toArray) ∨ ∃ g, v = .map (some g) := by
  simp only [den] at h
  rw [te_eq] at h
  split at h
  · simp only [Option.map_eq_some_iff] at h
    obtain ⟨vs, h1, h2⟩ := h
    exact .inl ⟨vs, h2.symm⟩
  · obtain ⟨b, off, x, _, _, rfl⟩ := mapName_some h
    exact .inr ⟨_, rfl⟩
theorem dens_cellsAV {F : Env} {x : AV} {v : Value} (h : den ρ F x = some v) : dens ρ F (cellsAV x) = some v.cells.toList := by
  cases x with
  | raw u =>
    simp only [den, Option.some.injEq] at h
    subst h
    exact dens_cellsV F u
  | agg l => obtain ⟨vs, h1, rfl⟩ := den_agg h; simpa [cellsAV, Value.cells] using h1
  | nat n => have h' := h; simp only [den, Option.some.injEq] at h; subst h; exact dens_one h'
  | bool n => have h' := h; simp only [den, Option.some.injEq] at h; subst h; exact dens_one h'
  | ptr b off => have h' := h; obtain ⟨_, _, _, rfl⟩ := den_ptr h; exact dens_one h'
  | sl b off len sz => have h' := h; obtain ⟨_, _, _, rfl⟩ := den_sl h; exact dens_one h'
  | tup l => have h' := h; obtain ⟨_, _, rfl⟩ := den_tup h; exact dens_one h'
  | fn f l =>
    have h' := h
    rcases den_fn_any h with ⟨_, rfl⟩ | ⟨_, rfl⟩ <;> exact dens_one h'
  | bad => simp [den] at h
  | sym k =>
    have h' := h
    simp only [den, Option.some.injEq] at h
    subst h
    have hc : (ρ.val k).cells.toList = [ρ.val k] := by
      have := ρ.one k
      generalize ρ.val k = v at this
      cases v <;> first | rfl | (simp [Value.oneCell'] at this)
    rw [hc]
    exact dens_one h'
  | str n q => have h' := h; simp only [den, Option.some.injEq] at h; subst h; exact dens_one h'
  | byt n => have h' := h; simp only [den, Option.some.injEq] at h; subst h; exact dens_one h'
  | hol t j =>
    have h' := h
    simp only [den, Option.some.injEq] at h
    subst h
    have hc : (holOf ρ t j).cells.toList = [holOf ρ t j] := by unfold holOf; split <;> rfl
    rw [hc]
    exact dens_one h'

theorem one_den {F : Env} {x : AV} {v : Value} (h : den ρ F x = some v) (h1 : oneAV x = true) : v.oneCell' = true := by
  cases x with
  | raw u =>
    simp only [den, Option.some.injEq] at h
    subst h
    have h1' : oneV u = true := h1
    cases u <;> simp_all [oneV, Value.oneCell']
  | agg l => exact nomatch (show false = true from h1)
  | tup l => exact nomatch (show false = true from h1)
  | nat n => simp only [den, Option.some.injEq] at h; subst h; rfl
  | bool n => simp only [den, Option.some.injEq] at h; subst h; rfl
  | ptr b off => obtain ⟨_, _, _, rfl⟩ := den_ptr h; rfl
  | sl b off len sz => obtain ⟨_, _, _, rfl⟩ := den_sl h; rfl
  | fn f l => rcases den_fn_any h with ⟨_, rfl⟩ | ⟨_, rfl⟩ <;> rfl
  | bad => simp [den] at h
  | sym k => simp only [den, Option.some.injEq] at h; subst h; exact ρ.one k
  | str n q => simp only [den, Option.some.injEq] at h; subst h; rfl
  | byt n => simp only [den, Option.some.injEq] at h; subst h; rfl
  | hol t j => simp only [den, Option.some.injEq] at h; subst h; unfold holOf; split <;> rfl

theorem lenAV_eq : ∀ l : List AV, lenAV l = l.length
  | [] => rfl
  | _ :: l => by show Nat.succ (lenAV l) = _; rw [lenAV_eq l]; rfl

/-! ### Cells -/
theorem Cells.putK_spec (c : Cells) (i : Nat) (v : AV) (k : Cells → R) : c.putK i v k = k (c.put i v) := by
  cases c
  · exact A1.putK_spec _ _ _ _
  · exact A2.putK_spec _ _ _ _
  · exact A4.putK_spec _ _ _ _
theorem Cells.cap_put (c : Cells) (i : Nat) (v : AV) : (c.put i v).cap = c.cap := by cases c <;> rfl
theorem Cells.get_same (c : Cells) (i : Nat) (v : AV) : (c.put i v).get i = v := by
  cases c
  · exact A1.get_same _ _ _
  · exact A2.get_same _ _ _
  · exact A4.get_same _ _ _
theorem Cells.get_other (c : Cells) (i j : Nat) (v : AV) (hi : i < c.cap) (hj : j < c.cap) (h : j ≠ i) : (c.put i v).get j = c.get j := by
  cases c
  · exact A1.get_other _ _ _ _ hi hj h
  · exact A2.get_other _ _ _ _ hi hj h
  · exact A4.get_other _ _ _ _ hi hj h
theorem Cells.cap_grow (c : Cells) : c.cap ≤ c.grow.cap := by
  cases c
  · exact (by decide : 8 ≤ 64)
  · exact (by decide : 64 ≤ 4096)
  · exact Nat.le_refl 4096
theorem Cells.get_grow (c : Cells) (i : Nat) (h : i < c.cap) : c.grow.get i = c.get i := by
  cases c with
  | c1 r =>
    have h' : i < 8 := h
    show A2.at2 (dig (i / 8 % 8)) (dig (i % 8)) _ = A1.at1 (dig (i % 8)) r
    rw [Nat.div_eq_of_lt h']
    rfl
  | c2 r =>
    have h' : i < 64 := h
    show A4.at4 (dig (i / 512 % 8)) (dig (i / 64 % 8)) (dig (i / 8 % 8)) (dig (i % 8)) _ = A2.at2 (dig (i / 8 % 8)) (dig (i % 8)) r
    rw [Nat.div_eq_of_lt h', Nat.div_eq_of_lt (show i < 512 by omega)]
    rfl
  | c4 r => rfl

theorem again_eq (c : Cells) (k : Cells → R) : Cells.rec (motive := fun _ => (Cells → R) → R) (fun r k => k (.c1 r)) (fun r k => k (.c2 r)) (fun r k => k (.c4 r)) c k = k c := by cases c <;> rfl

theorem fit_some {c : Cells} {n : Nat} {k : Cells → R} {y : Out} (h : Cells.fit c n k = some y) : ∃ c' : Cells, n ≤ c'.cap ∧ c.cap ≤ c'.cap ∧ (∀ i, i < c.cap → c'.get i = c.get i) ∧ k c' = some y := by
  unfold Cells.fit at h
  rw [teR_eq] at h
  by_cases h1 : Nat.ble n c.cap = true
  · rw [if_pos h1] at h
    exact ⟨c, Nat.le_of_ble_eq_true h1, Nat.le_refl _, fun _ _ => rfl, h⟩
  · rw [if_neg h1, teR_eq] at h
    by_cases h2 : Nat.ble n c.grow.cap = true
    · rw [if_pos h2, again_eq] at h
      exact ⟨c.grow, Nat.le_of_ble_eq_true h2, c.cap_grow, fun i hi => c.get_grow i hi, h⟩
    · rw [if_neg h2, teR_eq] at h
      by_cases h3 : Nat.ble n c.grow.grow.cap = true
      · rw [if_pos h3, again_eq] at h
        exact ⟨c.grow.grow, Nat.le_of_ble_eq_true h3, Nat.le_trans c.cap_grow c.grow.cap_grow, fun i hi => (c.grow.get_grow i (Nat.lt_of_lt_of_le hi c.cap_grow)).trans (c.get_grow i hi), h⟩
      · rw [if_neg h3] at h
        cases h

/-! ### Cells by leaves -/
theorem one1_some {v : AV} {k : AV → R} {y : Out} (h : one1 v k = some y) : (oneAV v = true ∧ v ≠ .bad) ∧ k v = some y := by
  cases v <;> first | exact no h | exact ⟨⟨rfl, by intro e; cases e⟩, h⟩ | skip
  obtain ⟨h1, h2⟩ := gdR_some h
  exact ⟨⟨h1, by intro e; cases e⟩, h2⟩
theorem one1_eq {v : AV} (h : oneAV v = true ∧ v ≠ .bad) (k : AV → R) : one1 v k = k v := by
  cases v <;> first | rfl | exact absurd rfl h.2 | (cases h.1) | skip
  rename_i v
  have h1 : oneV v = true := h.1
  show gdR (oneV v) _ = _
  rw [h1]; rfl
/-- it may stand in a cell -/
def Ok1 (x : AV) : Prop := oneAV x = true ∧ x ≠ .bad
noncomputable def A1.puts (j : Nat) (r : A1) (l : List AV) : A1 := List.rec (motive := fun _ => Nat → A1 → A1) (fun _ r => r) (fun a _ ih j r => bif Nat.blt j 8 then ih (j + 1) (A1.set (dig j) r a) else r) l j r
theorem A1.puts8 (r : A1) (l : List AV) : A1.puts 8 r l = r := by cases l <;> rfl

theorem fill8_some {y0 y1 y2 y3 y4 y5 y6 y7 : AV} {l : List AV} {k : A1 → List AV → R} {y : Out} (h : fill8 y0 y1 y2 y3 y4 y5 y6 y7 l k = some y) : (∀ x ∈ l.take 0, Ok1 x) ∧ ∀ k : A1 → List AV → R, fill8 y0 y1 y2 y3 y4 y5 y6 y7 l k = k (A1.puts 8 ⟨y0, y1, y2, y3, y4, y5, y6, y7⟩ l) (l.drop 0) :=
  ⟨by simp, fun k => by rw [A1.puts8]; rfl⟩
theorem fill7_some {y0 y1 y2 y3 y4 y5 y6 y7 : AV} {l : List AV} {k : A1 → List AV → R} {y : Out} (h : fill7 y0 y1 y2 y3 y4 y5 y6 y7 l k = some y) : (∀ x ∈ l.take 1, Ok1 x) ∧ ∀ k : A1 → List AV → R, fill7 y0 y1 y2 y3 y4 y5 y6 y7 l k = k (A1.puts 7 ⟨y0, y1, y2, y3, y4, y5, y6, y7⟩ l) (l.drop 1) := by
  cases l with
  | nil => exact ⟨by simp, fun k => rfl⟩
  | cons a l =>
    obtain ⟨h1, h2⟩ := one1_some (show one1 a (fun a => fill8 y0 y1 y2 y3 y4 y5 y6 a l k) = some y from h)
    obtain ⟨h3, h4⟩ := fill8_some h2
    refine ⟨fun x hx => ?_, fun k => ?_⟩
    · rcases List.mem_cons.1 (show x ∈ a :: l.take 0 from hx) with rfl | hx
      · exact h1
      · exact h3 x hx
    · show one1 a (fun a => fill8 y0 y1 y2 y3 y4 y5 y6 a l k) = _
      rw [one1_eq h1]
      exact h4 k
theorem fill6_some {y0 y1 y2 y3 y4 y5 y6 y7 : AV} {l : List AV} {k : A1 → List AV → R} {y : Out} (h : fill6 y0 y1 y2 y3 y4 y5 y6 y7 l k = some y) : (∀ x ∈ l.take 2, Ok1 x) ∧ ∀ k : A1 → List AV → R, fill6 y0 y1 y2 y3 y4 y5 y6 y7 l k = k (A1.puts 6 ⟨y0, y1, y2, y3, y4, y5, y6, y7⟩ l) (l.drop 2) := by
  cases l with
  | nil => exact ⟨by simp, fun k => rfl⟩
  | cons a l =>
    obtain ⟨h1, h2⟩ := one1_some (show one1 a (fun a => fill7 y0 y1 y2 y3 y4 y5 a y7 l k) = some y from h)
    obtain ⟨h3, h4⟩ := fill7_some h2
    refine ⟨fun x hx => ?_, fun k => ?_⟩
    · rcases List.mem_cons.1 (show x ∈ a :: l.take 1 from hx) with rfl | hx
      · exact h1
      · exact h3 x hx
    · show one1 a (fun a => fill7 y0 y1 y2 y3 y4 y5 a y7 l k) = _
      rw [one1_eq h1]
      exact h4 k
theorem fill5_some {y0 y1 y2 y3 y4 y5 y6 y7 : AV} {l : List AV} {k : A1 → List AV → R} {y : Out} (h : fill5 y0 y1 y2 y3 y4 y5 y6 y7 l k = some y) : (∀ x ∈ l.take 3, Ok1 x) ∧ ∀ k : A1 → List AV → R, fill5 y0 y1 y2 y3 y4 y5 y6 y7 l k = k (A1.puts 5 ⟨y0, y1, y2, y3, y4, y5, y6, y7⟩ l) (l.drop 3) := by
  cases l with
  | nil => exact ⟨by simp, fun k => rfl⟩
  | cons a l =>
    obtain ⟨h1, h2⟩ := one1_some (show one1 a (fun a => fill6 y0 y1 y2 y3 y4 a y6 y7 l k) = some y from h)
    obtain ⟨h3, h4⟩ := fill6_some h2
    refine ⟨fun x hx => ?_, fun k => ?_⟩
    · rcases List.mem_cons.1 (show x ∈ a :: l.take 2 from hx) with rfl | hx
      · exact h1
      · exact h3 x hx
    · show one1 a (fun a => fill6 y0 y1 y2 y3 y4 a y6 y7 l k) = _
      rw [one1_eq h1]
      exact h4 k
theorem fill4_some {y0 y1 y2 y3 y4 y5 y6 y7 : AV} {l : List AV} {k : A1 → List AV → R} {y : Out} (h : fill4 y0 y1 y2 y3 y4 y5 y6 y7 l k = some y) : (∀ x ∈ l.take 4, Ok1 x) ∧ ∀ k : A1 → List AV → R, fill4 y0 y1 y2 y3 y4 y5 y6 y7 l k = k (A1.puts 4 ⟨y0, y1, y2, y3, y4, y5, y6, y7⟩ l) (l.drop 4) := by
  cases l with
  | nil => exact ⟨by simp, fun k => rfl⟩
  | cons a l =>
    obtain ⟨h1, h2⟩ := one1_some (show one1 a (fun a => fill5 y0 y1 y2 y3 a y5 y6 y7 l k) = some y from h)
    obtain ⟨h3, h4⟩ := fill5_some h2
    refine ⟨fun x hx => ?_, fun k => ?_⟩
    · rcases List.mem_cons.1 (show x ∈ a :: l.take 3 from hx) with rfl | hx
      · exact h1
      · exact h3 x hx
    · show one1 a (fun a => fill5 y0 y1 y2 y3 a y5 y6 y7 l k) = _
      rw [one1_eq h1]
      exact h4 k
theorem fill3_some {y0 y1 y2 y3 y4 y5 y6 y7 : AV} {l : List AV} {k : A1 → List AV → R} {y : Out} (h : fill3 y0 y1 y2 y3 y4 y5 y6 y7 l k = some y) : (∀ x ∈ l.take 5, Ok1 x) ∧ ∀ k : A1 → List AV → R, fill3 y0 y1 y2 y3 y4 y5 y6 y7 l k = k (A1.puts 3 ⟨y0, y1, y2, y3, y4, y5, y6, y7⟩ l) (l.drop 5) := by
  cases l with
  | nil => exact ⟨by simp, fun k => rfl⟩
  | cons a l =>
    obtain ⟨h1, h2⟩ := one1_some (show one1 a (fun a => fill4 y0 y1 y2 a y4 y5 y6 y7 l k) = some y from h)
    obtain ⟨h3, h4⟩ := fill4_some h2
    refine ⟨fun x hx => ?_, fun k => ?_⟩
    · rcases List.mem_cons.1 (show x ∈ a :: l.take 4 from hx) with rfl | hx
      · exact h1
      · exact h3 x hx
    · show one1 a (fun a => fill4 y0 y1 y2 a y4 y5 y6 y7 l k) = _
      rw [one1_eq h1]
      exact h4 k
theorem fill2_some {y0 y1 y2 y3 y4 y5 y6 y7 : AV} {l : List AV} {k : A1 → List AV → R} {y : Out} (h : fill2 y0 y1 y2 y3 y4 y5 y6 y7 l k = some y) : (∀ x ∈ l.take 6, Ok1 x) ∧ ∀ k : A1 → List AV → R, fill2 y0 y1 y2 y3 y4 y5 y6 y7 l k = k (A1.puts 2 ⟨y0, y1, y2, y3, y4, y5, y6, y7⟩ l) (l.drop 6) := by
  cases l with
  | nil => exact ⟨by simp, fun k => rfl⟩
  | cons a l =>
    obtain ⟨h1, h2⟩ := one1_some (show one1 a (fun a => fill3 y0 y1 a y3 y4 y5 y6 y7 l k) = some y from h)
    obtain ⟨h3, h4⟩ := fill3_some h2
    refine ⟨fun x hx => ?_, fun k => ?_⟩
    · rcases List.mem_cons.1 (show x ∈ a :: l.take 5 from hx) with rfl | hx
      · exact h1
      · exact h3 x hx
    · show one1 a (fun a => fill3 y0 y1 a y3 y4 y5 y6 y7 l k) = _
      rw [one1_eq h1]
      exact h4 k
theorem fill1_some {y0 y1 y2 y3 y4 y5 y6 y7 : AV} {l : List AV} {k : A1 → List AV → R} {y : Out} (h : fill1 y0 y1 y2 y3 y4 y5 y6 y7 l k = some y) : (∀ x ∈ l.take 7, Ok1 x) ∧ ∀ k : A1 → List AV → R, fill1 y0 y1 y2 y3 y4 y5 y6 y7 l k = k (A1.puts 1 ⟨y0, y1, y2, y3, y4, y5, y6, y7⟩ l) (l.drop 7) := by
  cases l with
  | nil => exact ⟨by simp, fun k => rfl⟩
  | cons a l =>
    obtain ⟨h1, h2⟩ := one1_some (show one1 a (fun a => fill2 y0 a y2 y3 y4 y5 y6 y7 l k) = some y from h)
    obtain ⟨h3, h4⟩ := fill2_some h2
    refine ⟨fun x hx => ?_, fun k => ?_⟩
    · rcases List.mem_cons.1 (show x ∈ a :: l.take 6 from hx) with rfl | hx
      · exact h1
      · exact h3 x hx
    · show one1 a (fun a => fill2 y0 a y2 y3 y4 y5 y6 y7 l k) = _
      rw [one1_eq h1]
      exact h4 k
theorem fill0_some {y0 y1 y2 y3 y4 y5 y6 y7 : AV} {l : List AV} {k : A1 → List AV → R} {y : Out} (h : fill0 y0 y1 y2 y3 y4 y5 y6 y7 l k = some y) : (∀ x ∈ l.take 8, Ok1 x) ∧ ∀ k : A1 → List AV → R, fill0 y0 y1 y2 y3 y4 y5 y6 y7 l k = k (A1.puts 0 ⟨y0, y1, y2, y3, y4, y5, y6, y7⟩ l) (l.drop 8) := by
  cases l with
  | nil => exact ⟨by simp, fun k => rfl⟩
  | cons a l =>
    obtain ⟨h1, h2⟩ := one1_some (show one1 a (fun a => fill1 a y1 y2 y3 y4 y5 y6 y7 l k) = some y from h)
    obtain ⟨h3, h4⟩ := fill1_some h2
    refine ⟨fun x hx => ?_, fun k => ?_⟩
    · rcases List.mem_cons.1 (show x ∈ a :: l.take 7 from hx) with rfl | hx
      · exact h1
      · exact h3 x hx
    · show one1 a (fun a => fill1 a y1 y2 y3 y4 y5 y6 y7 l k) = _
      rw [one1_eq h1]
      exact h4 k
theorem fillA_some {d : D8} {r : A1} {l : List AV} {k : A1 → List AV → R} {y : Out} (h : fillA d r l k = some y) : (∀ x ∈ l.take (8 - d.toNat), Ok1 x) ∧ ∀ k : A1 → List AV → R, fillA d r l k = k (A1.puts d.toNat r l) (l.drop (8 - d.toNat)) := by
  cases r with | mk y0 y1 y2 y3 y4 y5 y6 y7 =>
  cases d
  · exact fill0_some h
  · exact fill1_some h
  · exact fill2_some h
  · exact fill3_some h
  · exact fill4_some h
  · exact fill5_some h
  · exact fill6_some h
  · exact fill7_some h
noncomputable def A1.list (r : A1) : List AV := [r.x0, r.x1, r.x2, r.x3, r.x4, r.x5, r.x6, r.x7]
theorem A1.list_get (r : A1) (j : Nat) (h : j < 8) : r.list[j]? = some (A1.sel (dig j) r) := by
  match j, h with
  | 0, _ => rfl
  | 1, _ => rfl
  | 2, _ => rfl
  | 3, _ => rfl
  | 4, _ => rfl
  | 5, _ => rfl
  | 6, _ => rfl
  | 7, _ => rfl
  | j + 8, h => omega
theorem some7_eq (y7 : AV) (n : Nat) (k : List AV → R) : some7 y7 n k = k ([y7].take n) := by
  cases n with
  | zero => rfl
  | succ n => show k [y7] = k (y7 :: List.take n []); rw [List.take_nil]
theorem some6_eq (y6 y7 : AV) (n : Nat) (k : List AV → R) : some6 y6 y7 n k = k ([y6, y7].take n) := by
  cases n with
  | zero => rfl
  | succ n => exact some7_eq y7 n (fun l => k (y6 :: l))
theorem some5_eq (y5 y6 y7 : AV) (n : Nat) (k : List AV → R) : some5 y5 y6 y7 n k = k ([y5, y6, y7].take n) := by
  cases n with
  | zero => rfl
  | succ n => exact some6_eq y6 y7 n (fun l => k (y5 :: l))
theorem some4_eq (y4 y5 y6 y7 : AV) (n : Nat) (k : List AV → R) : some4 y4 y5 y6 y7 n k = k ([y4, y5, y6, y7].take n) := by
  cases n with
  | zero => rfl
  | succ n => exact some5_eq y5 y6 y7 n (fun l => k (y4 :: l))
theorem some3_eq (y3 y4 y5 y6 y7 : AV) (n : Nat) (k : List AV → R) : some3 y3 y4 y5 y6 y7 n k = k ([y3, y4, y5, y6, y7].take n) := by
  cases n with
  | zero => rfl
  | succ n => exact some4_eq y4 y5 y6 y7 n (fun l => k (y3 :: l))
theorem some2_eq (y2 y3 y4 y5 y6 y7 : AV) (n : Nat) (k : List AV → R) : some2 y2 y3 y4 y5 y6 y7 n k = k ([y2, y3, y4, y5, y6, y7].take n) := by
  cases n with
  | zero => rfl
  | succ n => exact some3_eq y3 y4 y5 y6 y7 n (fun l => k (y2 :: l))
theorem some1_eq (y1 y2 y3 y4 y5 y6 y7 : AV) (n : Nat) (k : List AV → R) : some1 y1 y2 y3 y4 y5 y6 y7 n k = k ([y1, y2, y3, y4, y5, y6, y7].take n) := by
  cases n with
  | zero => rfl
  | succ n => exact some2_eq y2 y3 y4 y5 y6 y7 n (fun l => k (y1 :: l))
theorem some0_eq (y0 y1 y2 y3 y4 y5 y6 y7 : AV) (n : Nat) (k : List AV → R) : some0 y0 y1 y2 y3 y4 y5 y6 y7 n k = k ([y0, y1, y2, y3, y4, y5, y6, y7].take n) := by
  cases n with
  | zero => rfl
  | succ n => exact some1_eq y1 y2 y3 y4 y5 y6 y7 n (fun l => k (y0 :: l))
theorem takeA_eq (d : D8) (r : A1) (n : Nat) (k : List AV → R) (more : Nat → (List AV → R) → R) : takeA d r n k more = teR (Nat.ble (8 - d.toNat) n) (more (n - (8 - d.toNat)) fun l => k (r.list.drop d.toNat ++ l)) (k ((r.list.drop d.toNat).take n)) := by
  cases r with | mk y0 y1 y2 y3 y4 y5 y6 y7 =>
  cases d
  · show all0 y0 y1 y2 y3 y4 y5 y6 y7 n k more = _
    unfold all0
    rw [strictR_eq, some0_eq]
    rfl
  · show all1 y0 y1 y2 y3 y4 y5 y6 y7 n k more = _
    unfold all1
    rw [strictR_eq, some1_eq]
    rfl
  · show all2 y0 y1 y2 y3 y4 y5 y6 y7 n k more = _
    unfold all2
    rw [strictR_eq, some2_eq]
    rfl
  · show all3 y0 y1 y2 y3 y4 y5 y6 y7 n k more = _
    unfold all3
    rw [strictR_eq, some3_eq]
    rfl
  · show all4 y0 y1 y2 y3 y4 y5 y6 y7 n k more = _
    unfold all4
    rw [strictR_eq, some4_eq]
    rfl
  · show all5 y0 y1 y2 y3 y4 y5 y6 y7 n k more = _
    unfold all5
    rw [strictR_eq, some5_eq]
    rfl
  · show all6 y0 y1 y2 y3 y4 y5 y6 y7 n k more = _
    unfold all6
    rw [strictR_eq, some6_eq]
    rfl
  · show all7 y0 y1 y2 y3 y4 y5 y6 y7 n k more = _
    unfold all7
    rw [strictR_eq, some7_eq]
    rfl

theorem A2.setset (d : D8) (r : A2) (x y : A1) : A2.set d (A2.set d r x) y = A2.set d r y := by cases d <;> rfl
theorem A3.setset (d : D8) (r : A3) (x y : A2) : A3.set d (A3.set d r x) y = A3.set d r y := by cases d <;> rfl
theorem A4.setset (d : D8) (r : A4) (x y : A3) : A4.set d (A4.set d r x) y = A4.set d r y := by cases d <;> rfl
theorem A2.setself (d : D8) (r : A2) : A2.set d r (A2.sel d r) = r := by cases d <;> rfl
theorem A3.setself (d : D8) (r : A3) : A3.set d r (A3.sel d r) = r := by cases d <;> rfl
theorem A4.setself (d : D8) (r : A4) : A4.set d r (A4.sel d r) = r := by cases d <;> rfl

theorem Cells.putLeafK_eq (c : Cells) (q : Nat) (y : A1) (k : Cells → R) : c.putLeafK q y k = k (c.putLeaf q y) := by
  cases c with
  | c1 r => rfl
  | c2 r => exact A2.upd_eq _ _ _ _
  | c4 r =>
    show A4.upd _ r (fun r k => A3.upd _ r (fun r k => A2.upd _ r (fun _ k => k y) k) k) (fun r => k (.c4 r)) = _
    rw [A4.upd_eq, A3.upd_eq, A2.upd_eq]
    rfl
theorem Cells.leaf_put (c : Cells) (q : Nat) (y : A1) : (c.putLeaf q y).leaf q = y := by
  cases c with
  | c1 r => rfl
  | c2 r => exact A2.same _ _ _
  | c4 r =>
    show A2.sel _ (A3.sel _ (A4.sel _ (A4.set _ _ _))) = y
    rw [A4.same, A3.same, A2.same]
theorem Cells.putLeaf_twice (c : Cells) (q : Nat) (x y : A1) : (c.putLeaf q x).putLeaf q y = c.putLeaf q y := by
  cases c with
  | c1 r => rfl
  | c2 r => exact congrArg Cells.c2 (A2.setset _ _ _ _)
  | c4 r =>
    refine congrArg Cells.c4 ?_
    show A4.set _ (A4.set _ _ _) (A3.set _ (A4.sel _ (A4.set _ _ _)) (A2.set _ (A3.sel _ (A4.sel _ (A4.set _ _ _))) y)) = _
    rw [A4.setset, A4.same, A3.setset, A3.same, A2.setset]
theorem Cells.putLeaf_self (c : Cells) (q : Nat) : c.putLeaf q (c.leaf q) = c := by
  cases c with
  | c1 r => rfl
  | c2 r => exact congrArg Cells.c2 (A2.setself _ _)
  | c4 r =>
    refine congrArg Cells.c4 ?_
    show A4.set _ r (A3.set _ (A4.sel _ r) (A2.set _ (A3.sel _ (A4.sel _ r)) (A2.sel _ (A3.sel _ (A4.sel _ r))))) = r
    rw [A2.setself, A3.setself, A4.setself]
theorem Cells.put_leaf (c : Cells) (q j : Nat) (hj : j < 8) (v : AV) : c.put (8 * q + j) v = c.putLeaf q (A1.set (dig j) (c.leaf q) v) := by
  have e0 : Nat.mod (8 * q + j) 8 = j := by show (8 * q + j) % 8 = j; omega
  have e1 : Nat.div (8 * q + j) 8 = q := by show (8 * q + j) / 8 = q; omega
  have e2 : Nat.div (8 * q + j) 64 = Nat.div q 8 := by show (8 * q + j) / 64 = q / 8; omega
  have e3 : Nat.div (8 * q + j) 512 = Nat.div q 64 := by show (8 * q + j) / 512 = q / 64; omega
  cases c with
  | c1 r =>
    show Cells.c1 (A1.put1 (dig (Nat.mod (8 * q + j) 8)) r v) = _
    rw [e0]; rfl
  | c2 r =>
    show Cells.c2 (A2.put2 (dig (Nat.mod (Nat.div (8 * q + j) 8) 8)) (dig (Nat.mod (8 * q + j) 8)) r v) = _
    rw [e0, e1]; rfl
  | c4 r =>
    show Cells.c4 (A4.put4 (dig (Nat.mod (Nat.div (8 * q + j) 512) 8)) (dig (Nat.mod (Nat.div (8 * q + j) 64) 8)) (dig (Nat.mod (Nat.div (8 * q + j) 8) 8)) (dig (Nat.mod (8 * q + j) 8)) r v) = _
    rw [e0, e1, e2, e3]; rfl
theorem Cells.get_leaf (c : Cells) (q j : Nat) (hj : j < 8) : c.get (8 * q + j) = A1.sel (dig j) (c.leaf q) := by
  have e0 : Nat.mod (8 * q + j) 8 = j := by show (8 * q + j) % 8 = j; omega
  have e1 : Nat.div (8 * q + j) 8 = q := by show (8 * q + j) / 8 = q; omega
  have e2 : Nat.div (8 * q + j) 64 = Nat.div q 8 := by show (8 * q + j) / 64 = q / 8; omega
  have e3 : Nat.div (8 * q + j) 512 = Nat.div q 64 := by show (8 * q + j) / 512 = q / 64; omega
  cases c with
  | c1 r =>
    show A1.at1 (dig (Nat.mod (8 * q + j) 8)) r = _
    rw [e0]; rfl
  | c2 r =>
    show A2.at2 (dig (Nat.mod (Nat.div (8 * q + j) 8) 8)) (dig (Nat.mod (8 * q + j) 8)) r = _
    rw [e0, e1]; rfl
  | c4 r =>
    show A4.at4 (dig (Nat.mod (Nat.div (8 * q + j) 512) 8)) (dig (Nat.mod (Nat.div (8 * q + j) 64) 8)) (dig (Nat.mod (Nat.div (8 * q + j) 8) 8)) (dig (Nat.mod (8 * q + j) 8)) r = _
    rw [e0, e1, e2, e3]; rfl

noncomputable def Cells.puts : Cells → Nat → List AV → Cells
  | c, _, [] => c
  | c, i, a :: l => (c.put i a).puts (i + 1) l
theorem Cells.puts_leaf : ∀ (l : List AV) (c : Cells) (q j : Nat), j < 8 → c.puts (8 * q + j) l = (c.putLeaf q (A1.puts j (c.leaf q) l)).puts (8 * (q + 1)) (l.drop (8 - j))
  | [], c, q, j, _ => by
    show c = (c.putLeaf q (c.leaf q)).puts _ (List.drop _ [])
    rw [Cells.putLeaf_self, List.drop_nil]
    rfl
  | a :: l, c, q, j, hj => by
    show (c.put (8 * q + j) a).puts (8 * q + j + 1) l = _
    rw [Cells.put_leaf c q j hj]
    have hb : Nat.blt j 8 = true := Nat.ble_eq_true_of_le hj
    have e : A1.puts j (c.leaf q) (a :: l) = A1.puts (j + 1) (A1.set (dig j) (c.leaf q) a) l := by
      show (bif Nat.blt j 8 then _ else _) = _
      rw [hb]; rfl
    rw [e]
    have hd : (a :: l).drop (8 - j) = l.drop (8 - (j + 1)) := by rw [show 8 - j = 8 - (j + 1) + 1 by omega]; rfl
    rw [hd]
    by_cases h7 : j + 1 < 8
    · have := Cells.puts_leaf l (c.putLeaf q (A1.set (dig j) (c.leaf q) a)) q (j + 1) h7
      rw [Cells.leaf_put, Cells.putLeaf_twice] at this
      exact this
    · obtain rfl : j = 7 := by omega
      rw [A1.puts8, show 8 * q + 7 + 1 = 8 * (q + 1) by omega]
      rfl

theorem fillC_some : ∀ (f : Nat) (l : List AV) (q : Nat) (d : D8) (c : Cells) (k : Cells → R) (y : Out), fillC f l q d c k = some y → (∀ x ∈ l, Ok1 x) ∧ k (c.puts (8 * q + d.toNat) l) = some y ∧ ∀ k' : Cells → R, fillC f l q d c k' = k' (c.puts (8 * q + d.toNat) l)
  | 0, l, q, d, c, k, y, h => no h
  | f + 1, [], q, d, c, k, y, h => ⟨by simp, h, fun _ => rfl⟩
  | f + 1, a :: l, q, d, c, k, y, h => by
    have hd : d.toNat < 8 := by cases d <;> decide
    obtain ⟨h0, he⟩ := fillA_some (show fillA d (c.leaf q) (a :: l) (fun y l => c.putLeafK q y fun c => strictR (Nat.succ q) fun q => fillC f l q .o0 c k) = some y from h)
    have e : ∀ k : Cells → R, fillC (f + 1) (a :: l) q d c k = fillC f ((a :: l).drop (8 - d.toNat)) (q + 1) .o0 (c.putLeaf q (A1.puts d.toNat (c.leaf q) (a :: l))) k := fun k => by
      show fillA d (c.leaf q) (a :: l) (fun y l => c.putLeafK q y fun c => strictR (Nat.succ q) fun q => fillC f l q .o0 c k) = _
      rw [he, Cells.putLeafK_eq, strictR_eq]
    rw [e] at h
    obtain ⟨h3, h1, h2⟩ := fillC_some f _ _ _ _ _ _ h
    rw [Cells.puts_leaf _ _ _ _ hd]
    refine ⟨fun x hx => ?_, h1, fun k' => (e k').trans (h2 k')⟩
    rw [← List.take_append_drop (8 - d.toNat) (a :: l)] at hx
    rcases List.mem_append.1 hx with hx | hx
    · exact h0 x hx
    · exact h3 x hx

theorem getC_some : ∀ (f n q : Nat) (d : D8) (c : Cells) (k : List AV → R) (y : Out), getC f n q d c k = some y → ∃ l : List AV, k l = some y ∧ l.length = n ∧ ∀ j (h : j < l.length), c.get (8 * q + d.toNat + j) = l[j]
  | 0, n, q, d, c, k, y, h => no h
  | f + 1, 0, q, d, c, k, y, h => ⟨[], h, rfl, fun j h => by simp at h⟩
  | f + 1, n + 1, q, d, c, k, y, h => by
    have hd : d.toNat < 8 := by cases d <;> decide
    have e : getC (f + 1) (n + 1) q d c k = takeA d (c.leaf q) (n + 1) k fun n k => strictR (Nat.succ q) fun q => getC f n q .o0 c k := rfl
    rw [e, takeA_eq, teR_eq] at h
    have hlen : ((c.leaf q).list.drop d.toNat).length = 8 - d.toNat := by rw [List.length_drop]; rfl
    have hget : ∀ j, j < 8 - d.toNat → ((c.leaf q).list.drop d.toNat)[j]? = some (c.get (8 * q + d.toNat + j)) := fun j hj => by
      rw [List.getElem?_drop, A1.list_get _ _ (by omega), Nat.add_assoc, Cells.get_leaf _ _ _ (by omega)]
    split at h
    · rename_i hb
      have hb' : 8 - d.toNat ≤ n + 1 := Nat.le_of_ble_eq_true hb
      rw [strictR_eq] at h
      obtain ⟨l, h1, h2, h3⟩ := getC_some f _ _ _ _ _ _ h
      refine ⟨_, h1, by rw [List.length_append, hlen, h2]; omega, fun j hj => ?_⟩
      rw [List.length_append, hlen] at hj
      apply Option.some.inj
      rw [← List.getElem?_eq_getElem, List.getElem?_append]
      split
      · rename_i hlt
        rw [hlen] at hlt
        rw [hget j hlt]
      · rename_i hge
        rw [hlen] at hge ⊢
        rw [List.getElem?_eq_getElem (by omega), ← h3 _ (by omega)]
        congr 2
        show 8 * q + d.toNat + j = 8 * (q + 1) + 0 + (j - (8 - d.toNat))
        omega
    · rename_i hb
      have hb' : ¬ 8 - d.toNat ≤ n + 1 := fun hle => hb (Nat.ble_eq_true_of_le hle)
      refine ⟨_, h, by rw [List.length_take, hlen]; omega, fun j hj => ?_⟩
      rw [List.length_take, hlen] at hj
      apply Option.some.inj
      rw [← List.getElem?_eq_getElem, List.getElem?_take, if_pos (by omega), hget j (by omega)]

theorem D8.mod (i : Nat) : 8 * Nat.div i 8 + (dig (Nat.mod i 8)).toNat = i := by
  have e := dig_toNat (Nat.mod i 8) (Nat.mod_lt i (by decide))
  rw [e]
  show 8 * (i / 8) + i % 8 = i
  omega
/-- what is put does not depend on what follows -/
theorem putAll_puts {l : List AV} {i : Nat} {c : Cells} {k : Cells → R} {y : Out} (h : putAll l i c k = some y) : (∀ x ∈ l, oneAV x = true ∧ x ≠ .bad) ∧ k (c.puts i l) = some y ∧ ∀ k' : Cells → R, putAll l i c k' = k' (c.puts i l) := by
  unfold putAll at h
  rw [strictR_eq] at h
  obtain ⟨h1, h2, h3⟩ := fillC_some _ _ _ _ _ _ _ h
  rw [D8.mod] at h2 h3
  refine ⟨h1, h2, fun k' => ?_⟩
  unfold putAll
  rw [strictR_eq]
  exact h3 k'
/-- good cells are put -/
theorem fill8_ok (y0 y1 y2 y3 y4 y5 y6 y7 : AV) (l : List AV) (k : A1 → List AV → R) : fill8 y0 y1 y2 y3 y4 y5 y6 y7 l k = k (A1.puts 8 ⟨y0, y1, y2, y3, y4, y5, y6, y7⟩ l) (l.drop 0) := by rw [A1.puts8]; rfl
theorem fill7_ok (y0 y1 y2 y3 y4 y5 y6 y7 : AV) (l : List AV) (hl : ∀ x ∈ l, Ok1 x) (k : A1 → List AV → R) : fill7 y0 y1 y2 y3 y4 y5 y6 y7 l k = k (A1.puts 7 ⟨y0, y1, y2, y3, y4, y5, y6, y7⟩ l) (l.drop 1) := by
  cases l with
  | nil => rfl
  | cons a l =>
    show one1 a (fun a => fill8 y0 y1 y2 y3 y4 y5 y6 a l k) = _
    rw [one1_eq (hl a (List.mem_cons_self ..))]
    exact fill8_ok y0 y1 y2 y3 y4 y5 y6 a l k
theorem fill6_ok (y0 y1 y2 y3 y4 y5 y6 y7 : AV) (l : List AV) (hl : ∀ x ∈ l, Ok1 x) (k : A1 → List AV → R) : fill6 y0 y1 y2 y3 y4 y5 y6 y7 l k = k (A1.puts 6 ⟨y0, y1, y2, y3, y4, y5, y6, y7⟩ l) (l.drop 2) := by
  cases l with
  | nil => rfl
  | cons a l =>
    show one1 a (fun a => fill7 y0 y1 y2 y3 y4 y5 a y7 l k) = _
    rw [one1_eq (hl a (List.mem_cons_self ..))]
    exact fill7_ok y0 y1 y2 y3 y4 y5 a y7 l (fun x hx => hl x (List.mem_cons_of_mem _ hx)) k
theorem fill5_ok (y0 y1 y2 y3 y4 y5 y6 y7 : AV) (l : List AV) (hl : ∀ x ∈ l, Ok1 x) (k : A1 → List AV → R) : fill5 y0 y1 y2 y3 y4 y5 y6 y7 l k = k (A1.puts 5 ⟨y0, y1, y2, y3, y4, y5, y6, y7⟩ l) (l.drop 3) := by
  cases l with
  | nil => rfl
  | cons a l =>
    show one1 a (fun a => fill6 y0 y1 y2 y3 y4 a y6 y7 l k) = _
    rw [one1_eq (hl a (List.mem_cons_self ..))]
    exact fill6_ok y0 y1 y2 y3 y4 a y6 y7 l (fun x hx => hl x (List.mem_cons_of_mem _ hx)) k
theorem fill4_ok (y0 y1 y2 y3 y4 y5 y6 y7 : AV) (l : List AV) (hl : ∀ x ∈ l, Ok1 x) (k : A1 → List AV → R) : fill4 y0 y1 y2 y3 y4 y5 y6 y7 l k = k (A1.puts 4 ⟨y0, y1, y2, y3, y4, y5, y6, y7⟩ l) (l.drop 4) := by
  cases l with
  | nil => rfl
  | cons a l =>
    show one1 a (fun a => fill5 y0 y1 y2 y3 a y5 y6 y7 l k) = _
    rw [one1_eq (hl a (List.mem_cons_self ..))]
    exact fill5_ok y0 y1 y2 y3 a y5 y6 y7 l (fun x hx => hl x (List.mem_cons_of_mem _ hx)) k
theorem fill3_ok (y0 y1 y2 y3 y4 y5 y6 y7 : AV) (l : List AV) (hl : ∀ x ∈ l, Ok1 x) (k : A1 → List AV → R) : fill3 y0 y1 y2 y3 y4 y5 y6 y7 l k = k (A1.puts 3 ⟨y0, y1, y2, y3, y4, y5, y6, y7⟩ l) (l.drop 5) := by
  cases l with
  | nil => rfl
  | cons a l =>
    show one1 a (fun a => fill4 y0 y1 y2 a y4 y5 y6 y7 l k) = _
    rw [one1_eq (hl a (List.mem_cons_self ..))]
    exact fill4_ok y0 y1 y2 a y4 y5 y6 y7 l (fun x hx => hl x (List.mem_cons_of_mem _ hx)) k
theorem fill2_ok (y0 y1 y2 y3 y4 y5 y6 y7 : AV) (l : List AV) (hl : ∀ x ∈ l, Ok1 x) (k : A1 → List AV → R) : fill2 y0 y1 y2 y3 y4 y5 y6 y7 l k = k (A1.puts 2 ⟨y0, y1, y2, y3, y4, y5, y6, y7⟩ l) (l.drop 6) := by
  cases l with
  | nil => rfl
  | cons a l =>
    show one1 a (fun a => fill3 y0 y1 a y3 y4 y5 y6 y7 l k) = _
    rw [one1_eq (hl a (List.mem_cons_self ..))]
    exact fill3_ok y0 y1 a y3 y4 y5 y6 y7 l (fun x hx => hl x (List.mem_cons_of_mem _ hx)) k
theorem fill1_ok (y0 y1 y2 y3 y4 y5 y6 y7 : AV) (l : List AV) (hl : ∀ x ∈ l, Ok1 x) (k : A1 → List AV → R) : fill1 y0 y1 y2 y3 y4 y5 y6 y7 l k = k (A1.puts 1 ⟨y0, y1, y2, y3, y4, y5, y6, y7⟩ l) (l.drop 7) := by
  cases l with
  | nil => rfl
  | cons a l =>
    show one1 a (fun a => fill2 y0 a y2 y3 y4 y5 y6 y7 l k) = _
    rw [one1_eq (hl a (List.mem_cons_self ..))]
    exact fill2_ok y0 a y2 y3 y4 y5 y6 y7 l (fun x hx => hl x (List.mem_cons_of_mem _ hx)) k
theorem fill0_ok (y0 y1 y2 y3 y4 y5 y6 y7 : AV) (l : List AV) (hl : ∀ x ∈ l, Ok1 x) (k : A1 → List AV → R) : fill0 y0 y1 y2 y3 y4 y5 y6 y7 l k = k (A1.puts 0 ⟨y0, y1, y2, y3, y4, y5, y6, y7⟩ l) (l.drop 8) := by
  cases l with
  | nil => rfl
  | cons a l =>
    show one1 a (fun a => fill1 a y1 y2 y3 y4 y5 y6 y7 l k) = _
    rw [one1_eq (hl a (List.mem_cons_self ..))]
    exact fill1_ok a y1 y2 y3 y4 y5 y6 y7 l (fun x hx => hl x (List.mem_cons_of_mem _ hx)) k
theorem fillA_ok (d : D8) (r : A1) (l : List AV) (hl : ∀ x ∈ l, Ok1 x) (k : A1 → List AV → R) : fillA d r l k = k (A1.puts d.toNat r l) (l.drop (8 - d.toNat)) := by
  cases r with | mk y0 y1 y2 y3 y4 y5 y6 y7 =>
  cases d
  · exact fill0_ok y0 y1 y2 y3 y4 y5 y6 y7 l hl k
  · exact fill1_ok y0 y1 y2 y3 y4 y5 y6 y7 l hl k
  · exact fill2_ok y0 y1 y2 y3 y4 y5 y6 y7 l hl k
  · exact fill3_ok y0 y1 y2 y3 y4 y5 y6 y7 l hl k
  · exact fill4_ok y0 y1 y2 y3 y4 y5 y6 y7 l hl k
  · exact fill5_ok y0 y1 y2 y3 y4 y5 y6 y7 l hl k
  · exact fill6_ok y0 y1 y2 y3 y4 y5 y6 y7 l hl k
  · exact fill7_ok y0 y1 y2 y3 y4 y5 y6 y7 l hl k
theorem fillC_ok : ∀ (f : Nat) (l : List AV) (q : Nat) (d : D8) (c : Cells) (k : Cells → R), (∀ x ∈ l, Ok1 x) → l.length < f → fillC f l q d c k = k (c.puts (8 * q + d.toNat) l)
  | 0, l, q, d, c, k, _, h => absurd h (Nat.not_lt_zero _)
  | f + 1, [], q, d, c, k, _, _ => rfl
  | f + 1, a :: l, q, d, c, k, hl, h => by
    have hd : d.toNat < 8 := by cases d <;> decide
    show fillA d (c.leaf q) (a :: l) (fun y l => c.putLeafK q y fun c => strictR (Nat.succ q) fun q => fillC f l q .o0 c k) = _
    rw [fillA_ok _ _ _ hl, Cells.putLeafK_eq, strictR_eq, Cells.puts_leaf _ _ _ _ hd]
    refine fillC_ok f _ _ _ _ _ (fun x hx => hl x (List.mem_of_mem_drop hx)) ?_
    rw [List.length_drop]
    simp only [List.length_cons] at h ⊢
    omega
theorem putAll_ok1 {l : List AV} (hl : ∀ x ∈ l, Ok1 x) (hn : l.length < 10000) (i : Nat) (c : Cells) (k : Cells → R) : putAll l i c k = k (c.puts i l) := by
  unfold putAll
  rw [strictR_eq, fillC_ok _ _ _ _ _ _ hl hn, D8.mod]
theorem putAll_one {x : AV} (hx : x ≠ .bad) (i : Nat) (c : Cells) (k : Cells → R) : putAll [x] i c k = gdR (oneAV x) (k (c.put i x)) := by
  by_cases h1 : oneAV x = true
  · rw [putAll_ok1 (by simp [Ok1, h1, hx]) (by simp), h1]
    rfl
  · have h0 : oneAV x = false := by simpa using h1
    rw [h0]
    show putAll [x] i c k = none
    cases hp : putAll [x] i c k with
    | none => rfl
    | some y => exact absurd ((putAll_puts hp).1 x (List.mem_singleton.2 rfl)).1 h1

theorem Cells.puts_spec : ∀ (l : List AV) (i : Nat) (c : Cells), i + l.length ≤ c.cap →
    (c.puts i l).cap = c.cap ∧ (∀ j, j < i → (c.puts i l).get j = c.get j) ∧ (∀ j (h : j < l.length), (c.puts i l).get (i + j) = l[j]) ∧ (∀ j, i + l.length ≤ j → j < c.cap → (c.puts i l).get j = c.get j)
  | [], i, c, _ => ⟨rfl, fun _ _ => rfl, fun j h => by simp at h, fun _ _ _ => rfl⟩
  | x :: l, i, c, hc => by
    simp only [List.length_cons] at hc
    obtain ⟨p1, p3, p4, p5⟩ := Cells.puts_spec l (i + 1) (c.put i x) (by rw [Cells.cap_put]; omega)
    rw [Cells.cap_put] at p1 p5
    have other := fun j (hj : j < c.cap) (hne : j ≠ i) => Cells.get_other c i j x (by omega) hj hne
    show ((c.put i x).puts (i + 1) l).cap = _ ∧ (∀ j, j < i → ((c.put i x).puts (i + 1) l).get j = _) ∧ (∀ j (h : j < (x :: l).length), ((c.put i x).puts (i + 1) l).get (i + j) = (x :: l)[j]) ∧ (∀ j, i + (x :: l).length ≤ j → j < c.cap → ((c.put i x).puts (i + 1) l).get j = c.get j)
    refine ⟨p1, ?_, ?_, ?_⟩
    · intro j hj
      rw [p3 j (by omega), other j (by omega) (by omega)]
    · intro j hj
      cases j with
      | zero => exact (p3 i (by omega)).trans (Cells.get_same _ _ _)
      | succ j =>
        have := p4 j (by simpa using hj)
        rw [show i + (j + 1) = i + 1 + j by omega, this]
        rfl
    · intro j hj hjc
      simp only [List.length_cons] at hj
      rw [p5 j (by omega) hjc, other j hjc (by omega)]

theorem putAll_some (l : List AV) (i : Nat) (c : Cells) (k : Cells → R) (y : Out) (h : putAll l i c k = some y) (hc : i + l.length ≤ c.cap) :
    ∃ c' : Cells, k c' = some y ∧ c'.cap = c.cap ∧ (∀ x ∈ l, oneAV x = true) ∧ (∀ j, j < i → c'.get j = c.get j) ∧ (∀ j (h : j < l.length), c'.get (i + j) = l[j]) ∧ (∀ j, i + l.length ≤ j → j < c.cap → c'.get j = c.get j) := by
  obtain ⟨h1, h2, _⟩ := putAll_puts h
  obtain ⟨p1, p3, p4, p5⟩ := Cells.puts_spec l i c hc
  exact ⟨_, h2, p1, fun x hx => (h1 x hx).1, p3, p4, p5⟩

theorem getAll_some (n : Nat) (c : Cells) (i : Nat) (k : List AV → R) (y : Out) (h : getAll c n i k = some y) : ∃ l : List AV, k l = some y ∧ l.length = n ∧ ∀ j (h : j < l.length), c.get (i + j) = l[j] := by
  unfold getAll at h
  rw [strictR_eq, strictR_eq] at h
  obtain ⟨l, h1, h2, h3⟩ := getC_some _ _ _ _ _ _ _ h
  rw [D8.mod] at h3
  exact ⟨l, h1, h2, h3⟩

/-! ### The heap -/
theorem blkR_some {o : Option Blk} {k : TypeId → Nat → Nat → Cells → R} {y : Out} (h : blkR o k = some y) : ∃ e z n c, o = some ⟨e, z, n, c⟩ ∧ z ≠ mapZ ∧ k e z n c = some y := by
  cases o with
  | none => exact no h
  | some b =>
    cases b with | mk e z n c =>
    have h' : teR (Nat.beq z mapZ) none (k e z n c) = some y := h
    rw [teR_eq] at h'
    by_cases hz : Nat.beq z mapZ = true
    · rw [if_pos hz] at h'; cases h'
    · rw [if_neg hz] at h'
      exact ⟨e, z, n, c, rfl, fun e' => hz (by rw [e']; rfl), h'⟩
theorem memR_eq (H : B5) (nx wr : Nat) (k : B5 → Nat → Nat → R) : memR ⟨H, nx, wr⟩ k = k H nx wr := rfl

theorem heapPut_some {H : B5} {b : Nat} {x : Option Blk} {k : B5 → R} {y : Out} (h : heapPut H b x k = some y) : b < 32768 ∧ k (H.put b x) = some y := by
  obtain ⟨h1, h⟩ := gdR_some h
  rw [B5.putK_spec] at h
  exact ⟨Nat.le_of_ble_eq_true h1, h⟩
theorem at_eq (H : B5) (nx wr b : Nat) : (⟨H, nx, wr⟩ : Mem).at b = if b < 32768 then H.get b else none := by
  show te (Nat.blt b 32768) (H.get b) none = _
  rw [te_eq]
  by_cases hb : b < 32768
  · have : Nat.blt b 32768 = true := Nat.ble_eq_true_of_le hb
    rw [if_pos this, if_pos hb]
  · have : ¬ Nat.blt b 32768 = true := fun h => hb (Nat.le_of_ble_eq_true h)
    rw [if_neg this, if_neg hb]
theorem at_same {H : B5} {nx wr b : Nat} {x : Option Blk} (hb : b < 32768) : (⟨H.put b x, nx, wr⟩ : Mem).at b = x := by
  rw [at_eq, if_pos hb, B5.get_same]
theorem at_other {H : B5} {nx wr nx' wr' b j : Nat} {x : Option Blk} (hb : b < 32768) (h : j ≠ b) : (⟨H.put b x, nx, wr⟩ : Mem).at j = (⟨H, nx', wr'⟩ : Mem).at j := by
  rw [at_eq, at_eq]
  by_cases hj : j < 32768
  · rw [if_pos hj, if_pos hj, B5.get_other _ _ _ _ hb hj h]
  · rw [if_neg hj, if_neg hj]

/-! ### The invariant -/
/-- a row of grain z; z = 0: all of it is known -/
def ZOk (z n : Nat) (c : Nat × Nat) : Prop := (z = 0 → c.1 = n ∧ c.2 = 0) ∧ (z ≠ 0 → c.1 % z = 0)
/-- what an abstract row says of the row where it lies -/
def RowOk (ρ : Syms) (F : Env) (k : Blk) (g : Nat) (c : Nat × Nat) (w : World) : Prop :=
  ∃ cs : Array Value, w.heap[g]? = some (.cells cs k.e) ∧ c.2 + c.1 ≤ cs.size ∧ k.n ≤ c.1 ∧ ZOk k.z k.n c ∧ c.1 / k.z ≤ maxLen ∧ k.n ≤ k.c.cap ∧
    ∀ i, i < k.n → ∃ v, den ρ F (k.c.get i) = some v ∧ v.oneCell' = true ∧ cs[c.2 + i]? = some v
/-- and a map -/
def MapOk (k : Blk) (g : Nat) (w : World) : Prop :=
  ∃ l vs n, k.c.get 0 = .agg l ∧ toVs l = some vs ∧ vs.length = 2 * n ∧ w.heap[g]? = some (.map (decE vs 0).toArray (decE vs 0).length)
/-- what an abstract block says of the block where it lies -/
def BlkOk (ρ : Syms) (F : Env) (k : Blk) (g : Nat) (c : Nat × Nat) (w : World) : Prop := (k.z ≠ mapZ → RowOk ρ F k g c w) ∧ (k.z = mapZ → MapOk k g w)

structure Inv (ρ : Syms) (base : Nat) (F : Env) (m : Mem) (w : World) : Prop where
  live : ∀ b k, m.at b = some k → ∃ g c, F b = some (g, c) ∧ (m.wr ≤ b → base ≤ g) ∧ (b < m.wr → g < base) ∧ BlkOk ρ F k g c w
  apart : ∀ b b' k k' x x', m.at b = some k → m.at b' = some k' → m.wr ≤ b → m.wr ≤ b' → F b = some x → F b' = some x' → x.1 = x'.1 → b = b'
  fresh : ∀ b, m.nx ≤ b → F b = none
  size : base ≤ w.heap.size
  wrnx : m.wr ≤ m.nx

theorem BlkOk.ext {F F' : Env} {k : Blk} {g : Nat} {c : Nat × Nat} {w w' : World} (h : BlkOk ρ F k g c w) (he : Ext F F') (hw : w'.heap[g]? = w.heap[g]?) : BlkOk ρ F' k g c w' := by
  refine ⟨fun hz => ?_, fun hz => ?_⟩
  · obtain ⟨cs, h1, h2, h3, h4, h5, h7, h6⟩ := h.1 hz
    refine ⟨cs, hw.trans h1, h2, h3, h4, h5, h7, fun i hi => ?_⟩
    obtain ⟨v, b, o, d⟩ := h6 i hi
    exact ⟨v, den_ext he _ v b, o, d⟩
  · obtain ⟨l, vs, n, h1, h2, h3, h4⟩ := h.2 hz
    exact ⟨l, vs, n, h1, h2, h3, hw.trans h4⟩

theorem BlkOk.lt {F : Env} {k : Blk} {g : Nat} {c : Nat × Nat} {w : World} (h : BlkOk ρ F k g c w) : g < w.heap.size := by
  by_cases hz : k.z = mapZ
  · obtain ⟨l, vs, _, _, _, _, h1⟩ := h.2 hz
    exact (Array.getElem?_eq_some_iff.1 h1).1
  · obtain ⟨cs, h1, _⟩ := h.1 hz
    exact (Array.getElem?_eq_some_iff.1 h1).1

/-- a row that is live -/
theorem Inv.row {base : Nat} {F : Env} {m : Mem} {w : World} (h : Inv ρ base F m w) (b : Nat) (k : Blk) (hk : m.at b = some k) (hz : k.z ≠ mapZ) : ∃ g c, F b = some (g, c) ∧ (m.wr ≤ b → base ≤ g) ∧ (b < m.wr → g < base) ∧ RowOk ρ F k g c w := by
  obtain ⟨g, c, h1, h2, h3, h4⟩ := h.live b k hk
  exact ⟨g, c, h1, h2, h3, h4.1 hz⟩

/-- what lies above does not matter -/
theorem Inv.below {base : Nat} {F : Env} {m : Mem} {w w' : World} (h : Inv ρ base F m w) (hb : Below w.heap.size w w') : Inv ρ base F m w' where
  live b k hk := by
    obtain ⟨g, c, h1, h2, h3, h4⟩ := h.live b k hk
    exact ⟨g, c, h1, h2, h3, h4.ext (Ext.refl F) (hb.block g h4.lt)⟩
  apart := h.apart
  fresh := h.fresh
  size := Nat.le_trans h.size hb.size
  wrnx := h.wrnx

/-- all that is there becomes read-only -/
theorem Inv.inner {base : Nat} {F : Env} {H : B5} {nx wr : Nat} {w : World} (h : Inv ρ base F ⟨H, nx, wr⟩ w) : Inv ρ w.heap.size F ⟨H, nx, nx⟩ w where
  live b k hk := by
    obtain ⟨g, c, h1, h2, h3, h4⟩ := h.live b k hk
    refine ⟨g, c, h1, fun hle => ?_, fun _ => h4.lt, h4⟩
    rw [h.fresh b hle] at h1
    cases h1
  apart b b' k k' x x' _ _ hb _ hx := by
    rw [h.fresh b hb] at hx
    cases hx
  fresh := h.fresh
  size := Nat.le_refl _
  wrnx := Nat.le_refl _

/-- no abstract block lies there -/
def Away (F : Env) (m : Mem) (g : Nat) : Prop := ∀ b k x, m.at b = some k → F b = some x → x.1 ≠ g

/-- what goes on leaves all that lies below, and all blocks that no abstract block names -/
structure Fares (base : Nat) (F : Env) (m : Mem) (w : World) (F' : Env) (m' : Mem) (w' : World) : Prop where
  below : Below base w w'
  kept : ∀ g, g < w.heap.size → Away F m g → Away F' m' g ∧ w'.heap[g]? = w.heap[g]?

theorem Fares.refl (base : Nat) (F : Env) (m : Mem) (w : World) : Fares base F m w F m w := ⟨Below.refl _ _, fun _ _ h => ⟨h, rfl⟩⟩
theorem Fares.trans {base : Nat} {F F1 F2 : Env} {m m1 m2 : Mem} {w w1 w2 : World} (h : Fares base F m w F1 m1 w1) (k : Fares base F1 m1 w1 F2 m2 w2) : Fares base F m w F2 m2 w2 :=
  ⟨h.below.trans k.below, fun g hg ha => by
    obtain ⟨h1, h2⟩ := h.kept g hg ha
    obtain ⟨k1, k2⟩ := k.kept g (Nat.lt_of_lt_of_le hg h.below.size) h1
    exact ⟨k1, k2.trans h2⟩⟩
/-- nothing that was there changes -/
theorem Fares.above {base : Nat} {F : Env} {m : Mem} {w w' : World} (hs : base ≤ w.heap.size) (h : Below w.heap.size w w') : Fares base F m w F m w' := ⟨h.mono hs, fun g hg ha => ⟨ha, h.block g hg⟩⟩

theorem add_eq (g off k : Nat) : (⟨g, off, none⟩ : Addr).add k = ⟨g, off + k, none⟩ := by unfold Addr.add; split <;> simp_all

/-- reading -/
theorem read_some {m : Mem} {b off n : Nat} {k : List AV → R} {y : Out} (hr : m.read b off n k = some y) :
    ∃ l, k l = some y ∧ l.length = n ∧ ∀ (base : Nat) (F : Env) (w : World), Inv ρ base F m w →
      ∃ g c vs, F b = some (g, c) ∧ dens ρ F l = some vs ∧ (∀ v ∈ vs, v.oneCell' = true) ∧ ∀ j v, vs[j]? = some v → w.cell? ((⟨g, c.2 + off, none⟩ : Addr).add j) = some v := by
  obtain ⟨e, z, q, ce, hk, hz, hr⟩ := blkR_some hr
  obtain ⟨hle, hr⟩ := gdR_some hr
  have hle' : off + n ≤ q := Nat.le_of_ble_eq_true hle
  obtain ⟨l, hl, hn, hg⟩ := getAll_some _ _ _ _ _ hr
  refine ⟨l, hl, hn, fun base F w h => ?_⟩
  obtain ⟨g, c, hF, _, _, cs, hh, hcs, hnc, _, _, _, hcell⟩ := h.row b _ hk hz
  have key : ∀ (l' : List AV) (i : Nat), (∀ j (hj : j < l'.length), ce.get (i + j) = l'[j]) → i + l'.length ≤ q →
      ∃ vs, dens ρ F l' = some vs ∧ (∀ v ∈ vs, v.oneCell' = true) ∧ ∀ j v, vs[j]? = some v → cs[c.2 + (i + j)]? = some v := by
    intro l'
    induction l' with
    | nil => intro i _ _; exact ⟨[], dens_nil F, by simp, fun j v hv => by simp at hv⟩
    | cons x l' ih =>
      intro i hj hi
      simp only [List.length_cons] at hi
      obtain ⟨vs, h1, h2, h3⟩ := ih (i + 1) (fun j hj' => by
        have := hj (j + 1) (by simpa using hj')
        rw [show i + 1 + j = i + (j + 1) by omega, this]; rfl) (by omega)
      obtain ⟨v, hv, ho, hc⟩ := hcell i (by show i < q; omega)
      have h0 : ce.get i = x := hj 0 (by simp)
      rw [show (⟨e, z, q, ce⟩ : Blk).c.get i = x from h0] at hv
      refine ⟨v :: vs, dens_cons_mk hv h1, ?_, fun j u hu => ?_⟩
      · intro u hu
        rcases List.mem_cons.1 hu with rfl | hu
        · exact ho
        · exact h2 u hu
      · cases j with
        | zero => simp at hu; subst hu; simpa using hc
        | succ j => simp at hu; rw [show c.2 + (i + (j + 1)) = c.2 + (i + 1 + j) by omega]; exact h3 j u hu
  obtain ⟨vs, h1, h2, h3⟩ := key l off hg (by omega)
  refine ⟨g, c, vs, hF, h1, h2, fun j v hv => ?_⟩
  rw [add_eq]
  simp only [World.cell?, hh]
  simpa [Nat.add_assoc] using h3 j v hv

theorem read1_some {m : Mem} {b off : Nat} {k : AV → R} {y : Out} (hr : m.read1 b off k = some y) :
    ∃ x, k x = some y ∧ ∀ (base : Nat) (F : Env) (w : World), Inv ρ base F m w → ∃ g c v, F b = some (g, c) ∧ den ρ F x = some v ∧ v.oneCell' = true ∧ w.cell? ⟨g, c.2 + off, none⟩ = some v := by
  obtain ⟨e, z, q, ce, hk, hz, hr⟩ := blkR_some hr
  obtain ⟨hle, hr⟩ := gdR_some hr
  obtain ⟨_, hr⟩ := force_some hr
  have hle' : off < q := Nat.le_of_ble_eq_true hle
  refine ⟨_, hr, fun base F w h => ?_⟩
  obtain ⟨g, c, hF, _, _, cs, hh, hcs, hnc, _, _, _, hcell⟩ := h.row b _ hk hz
  obtain ⟨v, hv, ho, hc⟩ := hcell off hle'
  exact ⟨g, c, v, hF, hv, ho, by simp only [World.cell?, hh]; simpa using hc⟩

end Go.Proofs.YtplnnlnkcfappaaGreat.E3
