/- Hashes: what they are; turned words. -/
import Derived.Test.YtpjikjhaljennaaPgB
set_option maxRecDepth 100000
set_option linter.unusedVariables false
set_option linter.unusedSimpArgs false
namespace Go.Proofs.Ytpjikjhaljennaa
open Go Go.Sx
attribute [local irreducible] Go.Sx.xrun

/-! What a hash is. -/
def w32 (x : Int) : Int := IntKind.wrap .u32 x
def rotr32 (x n : Int) : Int := ior .u32 (x.fdiv (2 ^ n.toNat)) (w32 (x * 2 ^ (32 - n).toNat))
def kTab : List Int := [1116352408, 1899447441, 3049323471, 3921009573, 961987163, 1508970993, 2453635748, 2870763221, 3624381080, 310598401, 607225278, 1426881987, 1925078388, 2162078206, 2614888103, 3248222580, 3835390401, 4022224774, 264347078, 604807628, 770255983, 1249150122, 1555081692, 1996064986, 2554220882, 2821834349, 2952996808, 3210313671, 3336571891, 3584528711, 113926993, 338241895, 666307205, 773529912, 1294757372, 1396182291, 1695183700, 1986661051, 2177026350, 2456956037, 2730485921, 2820302411, 3259730800, 3345764771, 3516065817, 3600352804, 4094571909, 275423344, 430227734, 506948616, 659060556, 883997877, 958139571, 1322822218, 1537002063, 1747873779, 1955562222, 2024104815, 2227730452, 2361852424, 2428436474, 2756734187, 3204031479, 3329325298]
def wordF (bs : List Int) (i : Nat) : Int := ior .u32 (ior .u32 (ior .u32 (w32 (w32 (bs.getD (4 * i) 0) * 2 ^ 24)) (w32 (w32 (bs.getD (4 * i + 1) 0) * 2 ^ 16))) (w32 (w32 (bs.getD (4 * i + 2) 0) * 2 ^ 8))) (w32 (bs.getD (4 * i + 3) 0))
def sg1 (x : Int) : Int := ixor .u32 (ixor .u32 (rotr32 x 17) (rotr32 x 19)) (x.fdiv (2 ^ 10))
def sg0 (x : Int) : Int := ixor .u32 (ixor .u32 (rotr32 x 7) (rotr32 x 18)) (x.fdiv (2 ^ 3))
def wNext (w : List Int) (t : Nat) : Int := w32 (w32 (w32 (sg1 (w.getD (t - 2) 0) + w.getD (t - 7) 0) + sg0 (w.getD (t - 15) 0)) + w.getD (t - 16) 0)
def wGo : Nat → List Int → List Int
  | 0, w => w
  | k + 1, w => wGo k (w ++ [wNext w w.length])
def wTab (bs : List Int) : List Int := wGo 48 ((List.range 16).map (wordF bs))
def bS1 (e : Int) : Int := ixor .u32 (ixor .u32 (rotr32 e 6) (rotr32 e 11)) (rotr32 e 25)
def bS0 (a : Int) : Int := ixor .u32 (ixor .u32 (rotr32 a 2) (rotr32 a 13)) (rotr32 a 22)
def chF (e f g : Int) : Int := ixor .u32 (iand .u32 e f) (iand .u32 (ixor .u32 4294967295 e) g)
def majF (a b c : Int) : Int := ixor .u32 (ixor .u32 (iand .u32 a b) (iand .u32 a c)) (iand .u32 b c)
def t1F (a : List Int) (k w : Int) : Int := w32 (w32 (w32 (w32 (a.getD 7 0 + bS1 (a.getD 4 0)) + chF (a.getD 4 0) (a.getD 5 0) (a.getD 6 0)) + k) + w)
def t2F (a : List Int) : Int := w32 (bS0 (a.getD 0 0) + majF (a.getD 0 0) (a.getD 1 0) (a.getD 2 0))
def rndF (a : List Int) (k w : Int) : List Int := [w32 (t1F a k w + t2F a), a.getD 0 0, a.getD 1 0, a.getD 2 0, w32 (a.getD 3 0 + t1F a k w), a.getD 4 0, a.getD 5 0, a.getD 6 0]
def rndsF (ws : List Int) : Nat → List Int → List Int
  | 0, a => a
  | n + 1, a => rndF (rndsF ws n a) (kTab.getD n 0) (ws.getD n 0)
def blockF (s bs : List Int) : List Int := (List.range 8).map fun i => w32 (s.getD i 0 + (rndsF (wTab bs) 64 s).getD i 0)
noncomputable def rtGoal (x n : Int) (L : Blks) (R : Value → Prop) : Prop := xrun Go.Proofs.Try.prog [] [] [] 9 [] 90 [.val (.int .u32 x), .val (.int .i64 n)] [.chunk L] fun s h => R (den (locs h) s) ∧ headIs h L
noncomputable def tuGoal (x n : Int) (L : Blks) (R : Value → Prop) : Prop := xrun Go.Proofs.Try.prog [] [] [] 9 [] 62 [.val (.int .u32 x), .val (.int .u64 n)] [.chunk L] fun s h => R (den (locs h) s) ∧ headIs h L
noncomputable def rdsGoal (L : Blks) (R : Value → Prop) : Prop := xrun Go.Proofs.Try.prog [] [] [] 9 [] 92 [] [.chunk L] fun s h => R (den (locs h) s) ∧ headIs h L

theorem SoundT.imp {P : Program} {f : FuncId} {T T' : Trans} (hs : SoundT P f T') (h : ∀ args hp K, T args hp K → T' args hp K) : SoundT P f T := fun F hp w args vs K c ha hx => hs F hp w args vs K c ha (h _ _ _ hx)
theorem enters90 : Enters Go.Proofs.Try.prog 90 := ⟨Go.Proofs.Try.f90, Go.Proofs.Try.func90, by kernel_rfl, by kernel_rfl⟩
theorem enters92 : Enters Go.Proofs.Try.prog 92 := ⟨Go.Proofs.Try.f92, Go.Proofs.Try.func92, by kernel_rfl, by kernel_rfl⟩
theorem enters62 : Enters Go.Proofs.Try.prog 62 := ⟨Go.Proofs.Try.f62, Go.Proofs.Try.func62, by kernel_rfl, by kernel_rfl⟩
theorem ior_comm (k : IntKind) (a b : Int) : ior k a b = ior k b a := by unfold ior; rw [BitVec.or_comm]
theorem wrap_u64a (x : Int) : IntKind.wrap .u64 x = x % 18446744073709551616 := by simp [IntKind.wrap, IntKind.signed, IntKind.bits]
theorem iand31 (n : Nat) : iand .u64 (n : Int) 31 = ((n % 32 : Nat) : Int) := by
  unfold iand
  have e : (BitVec.ofInt IntKind.u64.bits (n : Int) &&& BitVec.ofInt IntKind.u64.bits 31).toNat = (n % 18446744073709551616) &&& 31 := by
    rw [BitVec.toNat_and]
    simp [IntKind.bits, BitVec.ofInt_natCast]
  rw [e]
  have : (n % 18446744073709551616) &&& 31 = n % 32 := by
    rw [show (31 : Nat) = 2 ^ 5 - 1 from rfl, Nat.and_two_pow_sub_one_eq_mod]
    omega
  rw [this, wrap_u64a]
  omega
theorem rot_s {n : Int} (h : 1 ≤ n ∧ n ≤ 31) : iand .u64 (IntKind.wrap .u64 (IntKind.wrap .i64 (0 - n))) 31 = 32 - n := by
  have e : IntKind.wrap .u64 (IntKind.wrap .i64 (0 - n)) = ((18446744073709551616 - n).toNat : Int) := by
    rw [IntKind.wrap_i64, wrap_u64a]; omega
  rw [e, iand31]
  omega
def RtPre (x : Int × Int) (vs : List Value) (_ : Blks) : Prop := vs = [.int .u32 x.1, .int .i64 x.2] ∧ 1 ≤ x.2 ∧ x.2 ≤ 31
theorem rt_goal (x n : Int) (L : Blks) (R : Value → Prop) (hn : 1 ≤ n ∧ n ≤ 31) (hR : R (.int .u32 (rotr32 x n))) : rtGoal x n L R :=
  Eq.mpr (by kernel_rfl) (show
  (0 : Int) ≤ iand IntKind.u64 (IntKind.wrap IntKind.u64 (IntKind.wrap IntKind.i64 ((0 : Int) - n))) (31 : Int) ∧ (0 : Int) ≤ IntKind.wrap IntKind.u64 ((32 : Int) - iand IntKind.u64 (IntKind.wrap IntKind.u64 (IntKind.wrap IntKind.i64 ((0 : Int) - n))) (31 : Int)) ∧ R (Value.int IntKind.u32 (ior IntKind.u32 (IntKind.wrap IntKind.u32 (x * (2 : Int) ^ Min.min (Int.toNat (iand IntKind.u64 (IntKind.wrap IntKind.u64 (IntKind.wrap IntKind.i64 ((0 : Int) - n))) (31 : Int))) (IntKind.bits IntKind.u32))) (Int.fdiv x ((2 : Int) ^ Min.min
  (Int.toNat (IntKind.wrap IntKind.u64 ((32 : Int) - iand IntKind.u64 (IntKind.wrap IntKind.u64 (IntKind.wrap IntKind.i64 ((0 : Int) - n))) (31 : Int)))) (IntKind.bits IntKind.u32))))) ∧ L = L from by
  have e32 : IntKind.u32.bits = 32 := rfl
  have es := rot_s hn
  have e2 : IntKind.wrap .u64 (32 - (32 - n)) = n := by rw [wrap_u64a]; omega
  have e3 : min (32 - n).toNat 32 = (32 - n).toNat := by omega
  have e4 : min n.toNat 32 = n.toNat := by omega
  simp only [es, e2, e32, e3, e4]
  refine ⟨by omega, by omega, ?_, trivial⟩
  rw [ior_comm]
  exact hR)
theorem right0_sound : SoundT Go.Proofs.Try.prog 90 (readT (fun x : Int × Int => .val (.int .u32 (rotr32 x.1 x.2))) RtPre) :=
  readT_sound (val := fun x => .int .u32 (rotr32 x.1 x.2)) enters90 (fun a ρ => by simp only [den]) (fun a => by simp) (fun x vs L L' _ h => h) fun x vs L ⟨h1, h2⟩ => by
    subst h1
    exact pure_of_run (args := [.val (.int .u32 x.1), .val (.int .i64 x.2)]) (run_with no_contracts _ _ _ _ _) (fun r => rfl) (rt_goal x.1 x.2 L (fun v => v = .int .u32 (rotr32 x.1 x.2)) h2 rfl) fun s h' h => h
noncomputable def rightT : Trans := fun args h K => match args with
  | [.val (.int .u32 x), .val (.int .i64 n)] => (1 ≤ n ∧ n ≤ 31) ∧ K (.val (.int .u32 (rotr32 x n))) h
  | _ => False
theorem rightT_sound : SoundT Go.Proofs.Try.prog 90 rightT := SoundT.imp right0_sound fun args h K hx => by
  unfold rightT at hx
  split at hx
  · rename_i x n
    exact ⟨(x, n), ⟨rfl, hx.1⟩, hx.2⟩
  · exact hx.elim
def TuPre (x : Int × Int) (vs : List Value) (_ : Blks) : Prop := vs = [.int .u32 x.1, .int .u64 x.2] ∧ 1 ≤ x.2 ∧ x.2 ≤ 31
theorem tu_goal (x n : Int) (L : Blks) (R : Value → Prop) (hn : 1 ≤ n ∧ n ≤ 31) (hR : R (.int .u32 (rotr32 x n))) : tuGoal x n L R :=
  Eq.mpr (by kernel_rfl) (show
  (0 : Int) ≤ n ∧ (0 : Int) ≤ IntKind.wrap IntKind.u64 ((32 : Int) - n) ∧ R (Value.int IntKind.u32 (ior IntKind.u32 (Int.fdiv x ((2 : Int) ^ Min.min (Int.toNat n) (IntKind.bits IntKind.u32))) (IntKind.wrap IntKind.u32 (x * (2 : Int) ^ Min.min (Int.toNat (IntKind.wrap IntKind.u64 ((32 : Int) - n))) (IntKind.bits IntKind.u32))))) ∧ L = L from by
  have e32 : IntKind.u32.bits = 32 := rfl
  have e2 : IntKind.wrap .u64 (32 - n) = 32 - n := by rw [wrap_u64a]; omega
  have e3 : min (32 - n).toNat 32 = (32 - n).toNat := by omega
  have e4 : min n.toNat 32 = n.toNat := by omega
  simp only [e2, e32, e3, e4]
  exact ⟨by omega, by omega, hR, trivial⟩)
theorem tu0_sound : SoundT Go.Proofs.Try.prog 62 (readT (fun x : Int × Int => .val (.int .u32 (rotr32 x.1 x.2))) TuPre) :=
  readT_sound (val := fun x => .int .u32 (rotr32 x.1 x.2)) enters62 (fun a ρ => by simp only [den]) (fun a => by simp) (fun x vs L L' _ h => h) fun x vs L ⟨h1, h2⟩ => by
    subst h1
    exact pure_of_run (args := [.val (.int .u32 x.1), .val (.int .u64 x.2)]) (run_with no_contracts _ _ _ _ _) (fun r => rfl) (tu_goal x.1 x.2 L (fun v => v = .int .u32 (rotr32 x.1 x.2)) h2 rfl) fun s h' h => h
noncomputable def tuT : Trans := fun args h K => match args with
  | [.val (.int .u32 x), .val (.int .u64 n)] => (1 ≤ n ∧ n ≤ 31) ∧ K (.val (.int .u32 (rotr32 x n))) h
  | _ => False
theorem tuT_sound : SoundT Go.Proofs.Try.prog 62 tuT := SoundT.imp tu0_sound fun args h K hx => by
  unfold tuT at hx
  split at hx
  · rename_i x n
    exact ⟨(x, n), ⟨rfl, hx.1⟩, hx.2⟩
  · exact hx.elim
def arrV (k : IntKind) (l : List Int) : Value := .agg (l.map (Value.int k)).toArray
theorem rds_goal (L : Blks) (R : Value → Prop) (hR : R (arrV .u32 kTab)) : rdsGoal L R :=
  Eq.mpr (by kernel_rfl) (show
  ∀ (b : Nat), ((64 : Nat) = (64 : Nat) ∧ (64 : Nat) ≤ (64 : Nat)) ∧ (64 : Nat) ≤ (64 : Nat) ∧ R (Value.agg (List.toArray (List.map (Value.int IntKind.u32) (List.take (64 : Nat) (List.take (0 : Nat) (List.replicate (64 : Nat) (0 : Int)) ++ [(1116352408 : Int), (1899447441 : Int), (3049323471 : Int), (3921009573 : Int), (961987163 : Int), (1508970993 : Int), (2453635748 : Int), (2870763221 : Int), (3624381080 : Int), (310598401 : Int), (607225278 : Int), (1426881987 : Int), (1925078388 : Int), (2162078206 : Int), (2614888103 : Int), (3248222580 : Int),
  (3835390401 : Int), (4022224774 : Int), (264347078 : Int), (604807628 : Int), (770255983 : Int), (1249150122 : Int), (1555081692 : Int), (1996064986 : Int), (2554220882 : Int), (2821834349 : Int), (2952996808 : Int), (3210313671 : Int), (3336571891 : Int), (3584528711 : Int), (113926993 : Int), (338241895 : Int), (666307205 : Int), (773529912 : Int), (1294757372 : Int), (1396182291 : Int), (1695183700 : Int), (1986661051 : Int), (2177026350 : Int), (2456956037 : Int), (2730485921 : Int), (2820302411 : Int),
  (3259730800 : Int), (3345764771 : Int), (3516065817 : Int), (3600352804 : Int), (4094571909 : Int), (275423344 : Int), (430227734 : Int), (506948616 : Int), (659060556 : Int), (883997877 : Int), (958139571 : Int), (1322822218 : Int), (1537002063 : Int), (1747873779 : Int), (1955562222 : Int), (2024104815 : Int), (2227730452 : Int), (2361852424 : Int), (2428436474 : Int), (2756734187 : Int), (3204031479 : Int), (3329325298 : Int)] ++ List.drop (64 : Nat) (List.replicate (64 : Nat) (0 : Int))))))) ∧ L = L from by
  exact fun b => ⟨⟨rfl, Nat.le_refl _⟩, Nat.le_refl _, hR, rfl⟩)
theorem rds0_sound : SoundT Go.Proofs.Try.prog 92 (readT (fun _ : Unit => .arr .u32 kTab) fun _ vs _ => vs = []) :=
  readT_sound (val := fun _ => arrV .u32 kTab) enters92 (fun a ρ => by simp only [den, arrV]) (fun a => by simp) (fun x vs L L' _ h => h) fun x vs L h1 => by
    subst h1
    exact pure_of_run (args := []) (run_with no_contracts _ _ _ _ _) (fun r => rfl) (rds_goal L (fun v => v = arrV .u32 kTab) rfl) fun s h' h => h
noncomputable def roundsT : Trans := fun args h K => match args with
  | [] => K (.arr .u32 kTab) h
  | _ => False
theorem roundsT_sound : SoundT Go.Proofs.Try.prog 92 roundsT := SoundT.imp rds0_sound fun args h K hx => by
  unfold roundsT at hx
  split at hx
  · exact ⟨(), rfl, hx⟩
  · exact hx.elim
end Go.Proofs.Ytpjikjhaljennaa
