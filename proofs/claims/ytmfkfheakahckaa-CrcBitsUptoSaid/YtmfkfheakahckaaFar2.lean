/- What far computes: so many steps of the register, for 0 to 2^30 bits. -/
import Derived.Test.YtmfkfheakahckaaFar
import Derived.Laws.CopyOwn
set_option linter.unusedVariables false
namespace Go.Proofs.Ytmfkfheakahckaa
open Go.RowKit

def zeros : List (BitVec 32) := List.replicate 32 0#32
def zobj : Obj := .cells (zeros.map fun x => Value.int .u32 (nv x)).toArray 47
theorem zeros_new (w : World) : Ar (w.alloc zobj) w.heap.size zeros := ⟨rfl, heap_alloc_new w _⟩
theorem pow_nv (k : Nat) : (2 : Int) ^ k % 4294967296 = nv (1#32 <<< k) := by
  unfold nv
  rw [BitVec.toNat_shiftLeft, Nat.shiftLeft_eq]
  simp
theorem step_pow (k : Nat) (w : World) : Calls Try.prog 18 #[.int .u32 (2 ^ k % 4294967296)] w fun e w' => e = .returned (.int .u32 (nv (Crc.zt (1#32 <<< k)))) ∧ w = w' := by
  rw [pow_nv]; exact step_any _ w
theorem info47 : (Try.prog.info? 47).map (·.size) = some 32 := by kernel_rfl
theorem words_one (L : List (BitVec 32)) : (L.map fun x => Value.int .u32 (nv x)).toArray.all (·.oneCell') = true :=
  Array.all_eq_true_iff_forall_mem.2 (fun v hv => by simp at hv; obtain ⟨x, _, rfl⟩ := hv; rfl)
theorem far_odd {p n : Nat} {X T : BitVec 32} (h : Crc.it (p * n) X = T) (ho : n % 2 = 1) : Crc.it ((p + p) * (n / 2)) (Crc.it p X) = T := by
  rw [← h, ← Crc.it_add]
  congr 1
  obtain ⟨q, hq⟩ : ∃ q, n = 2 * q + 1 := ⟨n / 2, by omega⟩
  subst hq
  rw [show (2 * q + 1) / 2 = q by omega, Nat.add_mul, Nat.mul_add, Nat.mul_one, ← Nat.mul_assoc, Nat.mul_comm p 2, Nat.two_mul, Nat.add_mul]
  omega
theorem far_even {p n : Nat} {X T : BitVec 32} (h : Crc.it (p * n) X = T) (ho : n % 2 = 0) : Crc.it ((p + p) * (n / 2)) X = T := by
  rw [← h]
  congr 1
  obtain ⟨q, hq⟩ : ∃ q, n = 2 * q := ⟨n / 2, by omega⟩
  subst hq
  rw [show (2 * q) / 2 = q by omega, Nat.add_mul, ← Nat.mul_assoc, Nat.mul_comm p 2, Nat.two_mul, Nat.add_mul]
theorem far_any (x : BitVec 32) (B : Nat) (w : World) (hB : (B : Int) ≤ 1073741824) :
    Calls Try.prog 19 #[.int .u32 (nv x), .int .i64 B] w fun e w' => e = .returned (.int .u32 (nv (Crc.it B x))) ∧ Below w.heap.size w w' := by
  go_enter Try.func19, Try.ntmps19
  go_wp2
  have hA0 := zeros_new w
  have hB0 := (Below.refl w.heap.size w).alloc (Nat.le_refl _) zobj
  have HA0 := Lib.hid hA0
  have HB0 := Lib.hid hB0
  clear hA0 hB0
  go_loopg [9] 32 (fun gk s9 wr => ∃ (k : Nat) (L : List (BitVec 32)), k + gk = 32 ∧ s9 = .int .i64 k ∧ Upto 1 k L ∧ Ar wr w.heap.size L ∧ Below w.heap.size w wr)
  case atStart => exact ⟨0, zeros, rfl, rfl, ⟨rfl, fun j h => by omega⟩, HA0.out, HB0.out⟩
  case round =>
    obtain ⟨k, L, hk, rfl, hu, ha, hb⟩ := hrel
    by_cases hlt : k < 32
    · have hc := ha.cell k hlt
      have hf := ha.free k
      have HA := Lib.hid ha
      have HU := Lib.hid hu
      have HB := Lib.hid hb
      clear ha hu hb
      go_wp2_with fail
      refine (step_pow k _).mono ?_
      rintro e w1 ⟨rfl, rfl⟩
      go_wp2
      go_roundg (gk - 1)
      case measure => omega
      case rel => exact ⟨k + 1, L.set k (Crc.it 1 (1#32 <<< k)), by omega, by go_num, HU.out.step hlt, HA.out.set k _, HB.out.setCell (Nat.le_refl _) _⟩
    · obtain rfl : k = 32 := by omega
      rw [hu.all] at ha
      clear hk hu L HA0 HB0
      obtain ⟨T, HT⟩ : ∃ T, Hid (Crc.it (1 * B) x = T) := ⟨_, rfl⟩
      have HTB : Hid (T = Crc.it B x) := by rw [← HT.out, Nat.one_mul]; rfl
      have HA := Lib.hid ha
      have HB := Lib.hid hb
      clear ha hb
      go_wp2
      go_loopg [0, 1] B (fun gk s0 s1 wr => ∃ (p n : Nat) (X : BitVec 32), n ≤ gk ∧ n ≤ B ∧ s0 = .int .u32 (nv X) ∧ s1 = .int .i64 n ∧ Crc.it (p * n) X = T ∧ Ar wr w.heap.size (col p) ∧ Below w.heap.size w wr)
      case atStart => exact ⟨1, B, x, Nat.le_refl _, Nat.le_refl _, rfl, rfl, HT.out, HA.out, HB.out⟩
      case round =>
        clear HT HA HB
        obtain ⟨p, n, X, hng, hnB, rfl, rfl, hit, ha, hb⟩ := hrel
        obtain ⟨wo, rfl⟩ : ∃ wo : World, wo = wr := ⟨_, rfl⟩
        have HA := Lib.hid ha
        have HB := Lib.hid hb
        have HI := Lib.hid hit
        clear hit hb
        by_cases h0 : n ≤ 0
        · clear ha
          go_wp2
          go_ret
          exact ⟨by rw [← HTB.out, ← HI.out, show n = 0 by omega]; rfl, HB.out⟩
        · have h1 : 1 ≤ (n : Int) := by omega
          rcases (show n % 2 = 1 ∨ n % 2 = 0 by omega) with hodd | hodd
          · have hm : (0 : Int) < (n : Int) % 2 := by omega
            go_wp2_with (go_at_call 20; refine (times_any _ _ _ _ HA.out).mono ?_; rintro e w1 ⟨rfl, rfl⟩; rw [tm_col p X])
            have HA1 := Lib.hid (HA.out.kept (World.grownBy_alloc wo zobj none) (by simp))
            have HT1 := Lib.hid (zeros_new wo)
            have HB1 := Lib.hid (HB.out.alloc HB.out.size zobj)
            have hsz := HB.out.size
            have hne := Lib.hid (ne_of_lt' HA.out.lt)
            go_loopg [27] 32 (fun gk s27 wz => ∃ (k : Nat) (L : List (BitVec 32)), k + gk = 32 ∧ s27 = .int .i64 k ∧ Upto (p + p) k L ∧ Ar wz wo.heap.size L ∧ Ar wz w.heap.size (col p) ∧ Below w.heap.size w wz)
            case atStart => exact ⟨0, zeros, rfl, rfl, ⟨rfl, fun j h => by omega⟩, HT1.out, HA1.out, HB1.out⟩
            case round =>
              clear HA1 HT1 HB1
              obtain ⟨k, L, hk, rfl, hu, ht, ha, hb⟩ := hrel
              by_cases hlt : k < 32
              · have hcm := ha.cell k hlt
                have hct := ht.cell k hlt
                have hft := ht.free k
                have HU := Lib.hid hu
                have HT2 := Lib.hid ht
                have HA2 := Lib.hid ha
                have HB2 := Lib.hid hb
                have htm := Lib.hid (col_twice p k hlt)
                clear hu ht ha hb
                go_wp2_with (go_at_call 20; refine (times_any _ _ _ _ HA2.out).mono ?_; rintro e w1 ⟨rfl, rfl⟩)
                go_roundg (gk - 1)
                case measure => omega
                case rel =>
                  refine ⟨k + 1, L.set k (Crc.it (p + p) (1#32 <<< k)), by omega, by go_num, HU.out.step hlt, ?_, HA2.out.kept (gset _ _ _ _) hne.out, HB2.out.setCell hsz _⟩
                  rw [htm.out]
                  exact HT2.out.set k _
              · obtain rfl : k = 32 := by omega
                have hL := hu.all
                subst hL
                have hms : (Try.prog.info? 47).map (·.size) = some ((col (p + p)).map fun x => Value.int .u32 (nv x)).toArray.size := by rw [info47]; simp [col_length]
                have hms0 : ((col p).map fun x => Value.int .u32 (nv x)).toArray.size = ((col (p + p)).map fun x => Value.int .u32 (nv x)).toArray.size := by simp [col_length]
                have HT2 := Lib.hid ht
                have HA2 := Lib.hid ha
                have HB2 := Lib.hid hb
                have HS := Lib.hid hms
                have HS0 := Lib.hid hms0
                clear hu ht ha hb hms hms0
                go_wp2_with (first
                  | (refine wpList_load_row rfl 47 _ rfl wo.heap.size rfl 47 _ (0, 0) _ HT2.out.2 Try.underlying47 rfl HS.out ?_)
                  | (refine wpList_store_row rfl 47 _ _ rfl w.heap.size _ rfl rfl 47 _ HA2.out.2 HS.out HS0.out (words_one _) ?_))
                go_roundg (n / 2)
                case measure => omega
                case rel => exact ⟨p + p, n / 2, Crc.it p X, Nat.le_refl _, by omega, rfl, by go_num, far_odd HI.out hodd, ⟨col_length _, setRow_heap _ _ _ _ _ _ HA2.out.2⟩, below_setRow HB2.out (Nat.le_refl _) _⟩
          · have hm : (n : Int) % 2 ≤ 0 := by omega
            go_wp2_with fail
            have HA1 := Lib.hid (HA.out.kept (World.grownBy_alloc wo zobj none) (by simp))
            have HT1 := Lib.hid (zeros_new wo)
            have HB1 := Lib.hid (HB.out.alloc HB.out.size zobj)
            have hsz := HB.out.size
            have hne := Lib.hid (ne_of_lt' HA.out.lt)
            rw [show ((32 : Nat) : Int) = 32 from rfl, show decide (0 < n) = true from decide_eq_true (by omega)]
            go_loopg [27] 32 (fun gk s27 wz => ∃ (k : Nat) (L : List (BitVec 32)), k + gk = 32 ∧ s27 = .int .i64 k ∧ Upto (p + p) k L ∧ Ar wz wo.heap.size L ∧ Ar wz w.heap.size (col p) ∧ Below w.heap.size w wz)
            case atStart => exact ⟨0, zeros, rfl, rfl, ⟨rfl, fun j h => by omega⟩, HT1.out, HA1.out, HB1.out⟩
            case round =>
              clear HA1 HT1 HB1
              obtain ⟨k, L, hk, rfl, hu, ht, ha, hb⟩ := hrel
              by_cases hlt : k < 32
              · have hcm := ha.cell k hlt
                have hct := ht.cell k hlt
                have hft := ht.free k
                have HU := Lib.hid hu
                have HT2 := Lib.hid ht
                have HA2 := Lib.hid ha
                have HB2 := Lib.hid hb
                have htm := Lib.hid (col_twice p k hlt)
                clear hu ht ha hb
                go_wp2_with (go_at_call 20; refine (times_any _ _ _ _ HA2.out).mono ?_; rintro e w1 ⟨rfl, rfl⟩)
                go_roundg (gk - 1)
                case measure => omega
                case rel =>
                  refine ⟨k + 1, L.set k (Crc.it (p + p) (1#32 <<< k)), by omega, by go_num, HU.out.step hlt, ?_, HA2.out.kept (gset _ _ _ _) hne.out, HB2.out.setCell hsz _⟩
                  rw [htm.out]
                  exact HT2.out.set k _
              · obtain rfl : k = 32 := by omega
                have hL := hu.all
                subst hL
                have hms : (Try.prog.info? 47).map (·.size) = some ((col (p + p)).map fun x => Value.int .u32 (nv x)).toArray.size := by rw [info47]; simp [col_length]
                have hms0 : ((col p).map fun x => Value.int .u32 (nv x)).toArray.size = ((col (p + p)).map fun x => Value.int .u32 (nv x)).toArray.size := by simp [col_length]
                have HT2 := Lib.hid ht
                have HA2 := Lib.hid ha
                have HB2 := Lib.hid hb
                have HS := Lib.hid hms
                have HS0 := Lib.hid hms0
                clear hu ht ha hb hms hms0
                go_wp2_with (first
                  | (refine wpList_load_row rfl 47 _ rfl wo.heap.size rfl 47 _ (0, 0) _ HT2.out.2 Try.underlying47 rfl HS.out ?_)
                  | (refine wpList_store_row rfl 47 _ _ rfl w.heap.size _ rfl rfl 47 _ HA2.out.2 HS.out HS0.out (words_one _) ?_))
                go_roundg (n / 2)
                case measure => omega
                case rel => exact ⟨p + p, n / 2, X, Nat.le_refl _, by omega, rfl, by go_num, far_even HI.out hodd, ⟨col_length _, setRow_heap _ _ _ _ _ _ HA2.out.2⟩, below_setRow HB2.out (Nat.le_refl _) _⟩
end Go.Proofs.Ytmfkfheakahckaa
