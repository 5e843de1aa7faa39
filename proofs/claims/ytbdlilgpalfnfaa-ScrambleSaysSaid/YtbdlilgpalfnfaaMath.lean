/- Plain facts on the 16-bit shift register of package scramble: its step is linear and one-to-one, comes again behind 65535 steps and not ahead; no condition, no program. -/
namespace Go.Proofs.Ytbdlilgpalfnfaa.Scr
def st (x : BitVec 16) : BitVec 16 := (x >>> 1) ||| ((x ^^^ (x >>> 2) ^^^ (x >>> 3) ^^^ (x >>> 5)) <<< 15)
def unst (y : BitVec 16) : BitVec 16 := (y <<< 1) ||| ((y >>> 15 ^^^ y >>> 1 ^^^ y >>> 2 ^^^ y >>> 4) &&& 1#16)

theorem xor8 (a b c d e f g h : Bool) : ((a ^^ e) ^^ (b ^^ f) ^^ (c ^^ g) ^^ (d ^^ h)) = ((a ^^ b ^^ c ^^ d) ^^ (e ^^ f ^^ g ^^ h)) := by
  cases a <;> cases b <;> cases c <;> cases d <;> cases e <;> cases f <;> cases g <;> cases h <;> rfl
theorem st_bit (x : BitVec 16) (i : Nat) (hi : i < 16) : (st x).getLsbD i = if i < 15 then x.getLsbD (i + 1) else (((x.getLsbD 0 ^^ x.getLsbD 2) ^^ x.getLsbD 3) ^^ x.getLsbD 5) := by
  unfold st
  rw [BitVec.getLsbD_or, BitVec.getLsbD_ushiftRight, BitVec.getLsbD_shiftLeft]
  simp only [BitVec.getLsbD_xor, BitVec.getLsbD_ushiftRight]
  by_cases h : i < 15
  · simp [h, hi, Nat.add_comm]
  · obtain rfl : i = 15 := by omega
    simp
theorem st_xor (x y : BitVec 16) : st (x ^^^ y) = st x ^^^ st y := by
  apply BitVec.eq_of_getLsbD_eq
  intro i hi
  rw [BitVec.getLsbD_xor, st_bit _ _ hi, st_bit _ _ hi, st_bit _ _ hi]
  simp only [BitVec.getLsbD_xor]
  by_cases h : i < 15
  · simp [h]
  · simp only [h, if_false]
    generalize x.getLsbD 0 = a; generalize x.getLsbD 2 = b; generalize x.getLsbD 3 = c; generalize x.getLsbD 5 = d
    generalize y.getLsbD 0 = e; generalize y.getLsbD 2 = f; generalize y.getLsbD 3 = g; generalize y.getLsbD 5 = h
    cases a <;> cases b <;> cases c <;> cases d <;> cases e <;> cases f <;> cases g <;> cases h <;> rfl
theorem st_inj (x : BitVec 16) (h : st x = 0#16) : x = 0#16 := by
  have hb : ∀ i, i < 16 → (st x).getLsbD i = false := fun i _ => by rw [h]; simp
  have hs : ∀ i, i < 15 → x.getLsbD (i + 1) = false := fun i hi => by
    have := hb i (by omega); rw [st_bit _ _ (by omega), if_pos hi] at this; exact this
  have h0 : x.getLsbD 0 = false := by
    have := hb 15 (by omega); rw [st_bit _ _ (by omega), if_neg (by omega), hs 1 (by omega), hs 2 (by omega), hs 4 (by omega)] at this
    simpa using this
  apply BitVec.eq_of_getLsbD_eq
  intro i hi
  match i with
  | 0 => rw [h0]; simp
  | i + 1 => rw [hs i (by omega)]; simp
def it : Nat → BitVec 16 → BitVec 16
  | 0, x => x
  | n + 1, x => it n (st x)
theorem it_add (m n : Nat) (x : BitVec 16) : it (m + n) x = it n (it m x) := by
  induction m generalizing x with
  | zero => simp [it]
  | succ m ih => rw [Nat.succ_add]; exact ih _
theorem it_succ (n : Nat) (x : BitVec 16) : it (n + 1) x = st (it n x) := it_add n 1 x
theorem it_xor (n : Nat) (x y : BitVec 16) : it n (x ^^^ y) = it n x ^^^ it n y := by
  induction n generalizing x y with
  | zero => rfl
  | succ n ih => simp only [it, st_xor, ih]
theorem xor_eq_zero {x y : BitVec 16} (h : x ^^^ y = 0#16) : x = y := by
  have : (x ^^^ y) ^^^ y = 0#16 ^^^ y := by rw [h]
  simpa [BitVec.xor_assoc] using this
theorem it_inj0 (n : Nat) (x : BitVec 16) (h : it n x = 0#16) : x = 0#16 := by
  induction n generalizing x with
  | zero => exact h
  | succ n ih => exact st_inj _ (ih _ h)
theorem it_inj (n : Nat) {x y : BitVec 16} (h : it n x = it n y) : x = y := by
  apply xor_eq_zero
  apply it_inj0 n
  rw [it_xor, h]; simp
theorem it_zero (n : Nat) : it n 0#16 = 0#16 := by
  induction n with
  | zero => rfl
  | succ n ih => rw [it_succ, ih]; decide
/-- linear maps that agree at the 16 basis vectors -/
theorem lin_ext (f g : BitVec 16 → BitVec 16) (hf : ∀ x y, f (x ^^^ y) = f x ^^^ f y) (hg : ∀ x y, g (x ^^^ y) = g x ^^^ g y)
    (h : ∀ i, i < 16 → f (BitVec.twoPow 16 i) = g (BitVec.twoPow 16 i)) (x : BitVec 16) : f x = g x := by
  have f0 : f 0#16 = 0#16 := by have := hf 0#16 0#16; simpa using this
  have g0 : g 0#16 = 0#16 := by have := hg 0#16 0#16; simpa using this
  have key : ∀ n, n ≤ 16 → ∀ x : BitVec 16, (∀ i, n ≤ i → x.getLsbD i = false) → f x = g x := by
    intro n
    induction n with
    | zero =>
      intro _ x hx
      obtain rfl : x = 0#16 := by apply BitVec.eq_of_getLsbD_eq; intro i _; rw [hx i (Nat.zero_le _)]; simp
      rw [f0, g0]
    | succ n ih =>
      intro hn x hx
      by_cases hb : x.getLsbD n = true
      · have e : x = (x ^^^ BitVec.twoPow 16 n) ^^^ BitVec.twoPow 16 n := by rw [BitVec.xor_assoc]; simp
        rw [e, hf, hg, h n (by omega), ih (by omega)]
        intro i hi
        rw [BitVec.getLsbD_xor, BitVec.getLsbD_twoPow]
        by_cases hi' : n = i
        · subst hi'; simp [hb]; omega
        · rw [hx i (by omega)]; simp [hi']
      · refine ih (by omega) x fun i hi => ?_
        by_cases hi' : n = i
        · subst hi'; simpa using hb
        · exact hx i (by omega)
  exact key 16 (Nat.le_refl _) x (fun i hi => BitVec.getLsbD_of_ge _ _ hi)
/-- a table applied -/
def app : List (BitVec 16) → BitVec 16 → BitVec 16
  | [], _ => 0#16
  | t :: r, x => (if x.getLsbD 0 then t else 0#16) ^^^ app r (x >>> 1)
def TT : List (List (BitVec 16)) := [
  [32768, 1, 32770, 32772, 8, 32784, 32, 64, 128, 256, 512, 1024, 2048, 4096, 8192, 16384],
  [16384, 32768, 16385, 49154, 32772, 16392, 32784, 32, 64, 128, 256, 512, 1024, 2048, 4096, 8192],
  [4096, 8192, 20480, 45056, 24577, 53250, 40964, 16392, 32784, 32, 64, 128, 256, 512, 1024, 2048],
  [256, 512, 1280, 2816, 5632, 11520, 23040, 46080, 26625, 53250, 40964, 16392, 32784, 32, 64, 128],
  [26625, 53250, 51205, 63499, 61462, 34861, 4186, 8372, 16744, 33488, 1440, 2880, 5760, 11520, 23040, 46080],
  [5185, 10370, 17732, 40648, 15761, 28514, 57029, 48522, 31508, 63016, 60497, 55458, 45380, 25224, 50448, 35360],
  [38801, 12066, 51668, 1080, 2161, 34674, 3813, 7627, 15255, 30511, 61022, 56508, 47481, 29426, 58852, 52168],
  [21116, 42232, 7052, 25957, 51915, 51178, 36820, 8105, 16210, 32420, 64841, 64147, 62759, 59983, 54431, 43326],
  [41728, 17921, 12034, 64773, 64010, 22292, 44584, 23633, 47267, 28998, 57996, 50456, 35376, 5216, 10432, 20864],
  [35845, 6154, 48144, 62501, 59466, 23697, 47395, 29254, 58508, 51480, 37424, 9312, 18624, 37248, 8961, 17922],
  [49223, 32911, 49496, 17143, 34287, 52120, 38704, 11872, 23744, 47488, 29441, 58882, 52228, 38920, 12305, 24611],
  [18066, 36132, 23770, 65318, 65101, 47624, 29713, 59427, 53318, 41101, 16666, 33332, 1129, 2258, 4516, 9033],
  [27513, 55027, 50846, 58949, 52362, 62061, 58586, 51637, 37739, 9942, 19885, 39771, 14007, 28015, 56030, 46524],
  [52822, 40108, 63246, 8267, 16535, 20345, 40691, 15847, 31694, 63388, 61241, 56946, 48357, 31178, 62357, 59179],
  [26543, 53086, 63763, 38280, 11025, 12684, 25369, 50739, 35943, 6351, 12702, 25405, 50810, 36085, 6635, 13271],
  [1021, 2042, 3081, 7151, 14302, 27712, 55424, 45313, 25091, 50183, 34831, 4127, 8255, 16511, 33023, 510]]

theorem app_xor (t : List (BitVec 16)) (x y : BitVec 16) : app t (x ^^^ y) = app t x ^^^ app t y := by
  induction t generalizing x y with
  | nil => simp [app]
  | cons t r ih =>
    simp only [app, BitVec.getLsbD_xor]
    rw [show (x ^^^ y) >>> 1 = (x >>> 1) ^^^ (y >>> 1) from BitVec.ushiftRight_xor_distrib x y 1, ih]
    generalize app r (x >>> 1) = a
    generalize app r (y >>> 1) = b
    cases x.getLsbD 0 <;> cases y.getLsbD 0 <;> simp
    · rw [← BitVec.xor_assoc, BitVec.xor_comm t, BitVec.xor_assoc]
    · rw [BitVec.xor_assoc]
    · rw [BitVec.xor_comm t a, BitVec.xor_assoc, ← BitVec.xor_assoc t, BitVec.xor_self, BitVec.zero_xor]
def tabOk (s t : List (BitVec 16)) : Bool := (List.range 16).all fun i => app s (app s (BitVec.twoPow 16 i)) == app t (BitVec.twoPow 16 i)
def tabsOk : List (List (BitVec 16)) → Bool
  | s :: t :: r => tabOk s t && tabsOk (t :: r)
  | _ => true
theorem tab_step {n : Nat} {s t : List (BitVec 16)} (h : ∀ x, it n x = app s x) (hk : tabOk s t = true) (x : BitVec 16) : it (n + n) x = app t x := by
  refine lin_ext _ _ (it_xor _) (app_xor _) (fun i hi => ?_) x
  have := List.all_eq_true.1 hk i (List.mem_range.2 hi)
  rw [it_add, h, h]
  exact eq_of_beq this
def head16 (l : List (List (BitVec 16))) (x : BitVec 16) : BitVec 16 := match l with | [] => x | t :: _ => app t x
/-- the steps whose number has the bits of 'm', by the tables -/
def ev : List (List (BitVec 16)) → Nat → BitVec 16 → BitVec 16
  | [], _, x => x
  | t :: r, m, x => ev r (m / 2) (if m % 2 = 1 then app t x else x)
theorem ev_eq (l : List (List (BitVec 16))) (n m : Nat) (hm : m < 2 ^ l.length) (h : ∀ t r, l = t :: r → ∀ x, it n x = app t x) (hk : tabsOk l = true) (x : BitVec 16) : ev l m x = it (n * m) x := by
  induction l generalizing n m x with
  | nil => obtain rfl : m = 0 := by simpa using hm
           rfl
  | cons t r ih =>
    have ht := h t r rfl
    have hr : ∀ t' r', r = t' :: r' → ∀ x, it (n + n) x = app t' x := by
      rintro t' r' rfl x
      simp only [tabsOk, Bool.and_eq_true] at hk
      exact tab_step ht hk.1 x
    have hk' : tabsOk r = true := by
      cases r with
      | nil => rfl
      | cons t' r' => simp only [tabsOk, Bool.and_eq_true] at hk; exact hk.2
    have hm' : m / 2 < 2 ^ r.length := by simp only [List.length_cons, Nat.pow_succ] at hm; omega
    rw [ev, ih (n + n) (m / 2) hm' hr hk']
    by_cases ho : m % 2 = 1
    · rw [if_pos ho, ← ht, ← it_add]
      congr 1
      have : m = 2 * (m / 2) + 1 := by omega
      generalize m / 2 = q at *
      subst this
      rw [Nat.mul_add, ← Nat.mul_assoc, Nat.add_mul, Nat.mul_one]
      rw [show n * 2 = n + n by omega, Nat.add_mul]; omega
    · rw [if_neg ho]
      congr 1
      have : m = 2 * (m / 2) := by omega
      generalize m / 2 = q at *
      subst this
      rw [← Nat.mul_assoc]
      rw [show n * 2 = n + n by omega]
theorem TT_ok : tabsOk TT = true := by decide +kernel
theorem it_ev (m : Nat) (hm : m < 65536) (x : BitVec 16) : it m x = ev TT m x := by
  rw [ev_eq TT 1 m hm ?_ TT_ok x, Nat.one_mul]
  rintro t r h x
  have e : t = [32768, 1, 32770, 32772, 8, 32784, 32, 64, 128, 256, 512, 1024, 2048, 4096, 8192, 16384] := by
    have := congrArg List.head? h; simpa [TT] using this.symm
  subst e
  exact lin_ext _ _ (it_xor _) (app_xor _) (fun i hi => by
    have : (List.range 16).all (fun i => it 1 (BitVec.twoPow 16 i) == app [32768, 1, 32770, 32772, 8, 32784, 32, 64, 128, 256, 512, 1024, 2048, 4096, 8192, 16384] (BitVec.twoPow 16 i)) = true := by decide +kernel
    exact eq_of_beq (List.all_eq_true.1 this i (List.mem_range.2 hi))) x
theorem it_all (d j : Nat) (hd : d < 65536) (hj : j < 65536) (h : ((List.range 16).all fun i => ev TT d (BitVec.twoPow 16 i) ^^^ BitVec.twoPow 16 i == ev TT j (BitVec.twoPow 16 i)) = true) (x : BitVec 16) :
    it d x ^^^ x = it j x := by
  refine lin_ext (fun x => it d x ^^^ x) _ (fun x y => ?_) (it_xor j) (fun i hi => ?_) x
  · simp only [it_xor]
    rw [BitVec.xor_assoc, BitVec.xor_assoc]; congr 1
    rw [← BitVec.xor_assoc, ← BitVec.xor_assoc, BitVec.xor_comm (it d y)]
  · have := eq_of_beq (List.all_eq_true.1 h i (List.mem_range.2 hi))
    rw [← it_ev _ hd, ← it_ev _ hj] at this
    exact this
theorem it_round (x : BitVec 16) : it 65535 x = x := by
  refine lin_ext (it 65535) (fun x => x) (it_xor _) (fun _ _ => rfl) (fun i hi => ?_) x
  have h : ((List.range 16).all fun i => ev TT 65535 (BitVec.twoPow 16 i) == BitVec.twoPow 16 i) = true := by decide +kernel
  rw [it_ev _ (by omega)]
  exact eq_of_beq (List.all_eq_true.1 h i (List.mem_range.2 hi))
theorem not_fix (d j : Nat) (h : ∀ x, it d x ^^^ x = it j x) {x : BitVec 16} (hx : x ≠ 0#16) : it d x ≠ x := by
  intro e
  have := h x
  rw [e] at this
  exact hx (it_inj0 j x (by rw [← this]; simp))
theorem nf3 {x : BitVec 16} (hx : x ≠ 0#16) : it 21845 x ≠ x := not_fix 21845 43690 (it_all _ _ (by omega) (by omega) (by decide +kernel)) hx
theorem nf5 {x : BitVec 16} (hx : x ≠ 0#16) : it 13107 x ≠ x := not_fix 13107 61166 (it_all _ _ (by omega) (by omega) (by decide +kernel)) hx
theorem nf17 {x : BitVec 16} (hx : x ≠ 0#16) : it 3855 x ≠ x := not_fix 3855 8481 (it_all _ _ (by omega) (by omega) (by decide +kernel)) hx
theorem nf257 {x : BitVec 16} (hx : x ≠ 0#16) : it 255 x ≠ x := not_fix 255 12849 (it_all _ _ (by omega) (by omega) (by decide +kernel)) hx
theorem it_mul (n k : Nat) {x : BitVec 16} (h : it n x = x) : it (n * k) x = x := by
  induction k with
  | zero => rfl
  | succ k ih => rw [Nat.mul_succ, it_add, ih, h]
theorem it_sub {m n : Nat} {x : BitVec 16} (hm : it m x = x) (hn : it n x = x) (hle : n ≤ m) : it (m - n) x = x := by
  apply it_inj n
  rw [← it_add, Nat.sub_add_cancel hle, hm, hn]
theorem it_mod {m n : Nat} {x : BitVec 16} (hm : it m x = x) (hn : it n x = x) : it (m % n) x = x := by
  have h : n * (m / n) + m % n = m := Nat.div_add_mod m n
  have := it_sub hm (it_mul n (m / n) hn) (by omega)
  rwa [show m - n * (m / n) = m % n by omega] at this
theorem it_gcd (m n : Nat) {x : BitVec 16} (hm : it m x = x) (hn : it n x = x) : it (Nat.gcd m n) x = x := by
  induction m, n using Nat.gcd.induction with
  | H0 n => simpa using hn
  | H1 m n hlt ih => rw [Nat.gcd_rec]; exact ih (it_mod hn hm) hm
theorem prime_or {p : Nat} (h0 : 0 < p) (hp : ∀ d, d < p + 1 → p % d = 0 → d = 1 ∨ d = p) (q : Nat) : p ∣ q ∨ Nat.Coprime p q := by
  have h1 : Nat.gcd p q ∣ p := Nat.gcd_dvd_left p q
  have h2 := hp (Nat.gcd p q) (by have := Nat.le_of_dvd (by omega) h1; omega) (Nat.mod_eq_zero_of_dvd h1)
  rcases h2 with h2 | h2
  · exact .inr h2
  · left; rw [← h2]; exact Nat.gcd_dvd_right p q
theorem not_back {m : Nat} (h0 : 0 < m) (h1 : m < 65535) {x : BitVec 16} (hx : x ≠ 0#16) : it m x ≠ x := by
  intro hm
  have hg := it_gcd m 65535 hm (it_round x)
  obtain ⟨q, hq⟩ := Nat.gcd_dvd_right m 65535
  have hgm : Nat.gcd m 65535 ≤ m := Nat.le_of_dvd h0 (Nat.gcd_dvd_left m 65535)
  generalize Nat.gcd m 65535 = g at *
  have fin : ∀ p e : Nat, 65535 = e * p → 0 < p → p ∣ q → it e x = x := by
    rintro p e he hp ⟨r, rfl⟩
    have e2 : e = g * r := by
      have : e * p = (g * r) * p := by rw [← he, hq, Nat.mul_comm p r, Nat.mul_assoc]
      exact Nat.eq_of_mul_eq_mul_right hp this
    rw [e2]; exact it_mul g r hg
  have c3 : Nat.Coprime q 3 := by
    rcases prime_or (p := 3) (by omega) (by decide) q with h | h
    · exact absurd (fin 3 21845 (by omega) (by omega) h) (nf3 hx)
    · exact h.symm
  have c5 : Nat.Coprime q 5 := by
    rcases prime_or (p := 5) (by omega) (by decide) q with h | h
    · exact absurd (fin 5 13107 (by omega) (by omega) h) (nf5 hx)
    · exact h.symm
  have c17 : Nat.Coprime q 17 := by
    rcases prime_or (p := 17) (by omega) (by decide) q with h | h
    · exact absurd (fin 17 3855 (by omega) (by omega) h) (nf17 hx)
    · exact h.symm
  have c257 : Nat.Coprime q 257 := by
    rcases prime_or (p := 257) (by omega) (by decide +kernel) q with h | h
    · exact absurd (fin 257 255 (by omega) (by omega) h) (nf257 hx)
    · exact h.symm
  have d1 : q ∣ 3 * (5 * (17 * 257)) := ⟨g, by rw [Nat.mul_comm q g, ← hq]⟩
  have d5 := c257.dvd_of_dvd_mul_left (n := 1) (by simpa using c17.dvd_of_dvd_mul_left (c5.dvd_of_dvd_mul_left (c3.dvd_of_dvd_mul_left d1)))
  have : q = 1 := by simpa using d5
  subst this
  omega
/-- the low bits come out first -/
theorem it_bit (k i : Nat) (h : i + k < 16) (x : BitVec 16) : (it k x).getLsbD i = x.getLsbD (i + k) := by
  induction k generalizing x with
  | zero => rfl
  | succ k ih => rw [it, ih (by omega), st_bit _ _ (by omega), if_pos (by omega)]; rfl
end Go.Proofs.Ytbdlilgpalfnfaa.Scr
