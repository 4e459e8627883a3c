/-
  SHA-256 as the program has it: the constants, the sum of two states, the loading of a block, a block's rounds.
-/
import Derived.Test.YtlgpipdeckdmjaaSha1
set_option linter.unusedVariables false
set_option linter.unusedSimpArgs false
namespace Go.Proofs.Ytlgpipdeckdmjaa.Sha
open Go.RowKit Base Reg Types
attribute [local go_sem high] wrap_ad bits_xo bits_an bits_orr bits_nt unary_nt

/-- The constants of the rounds, and the first state. -/
def kon : List Nat := [1116352408, 1899447441, 3049323471, 3921009573, 961987163, 1508970993, 2453635748, 2870763221, 3624381080, 310598401, 607225278, 1426881987, 1925078388, 2162078206, 2614888103, 3248222580, 3835390401, 4022224774, 264347078, 604807628, 770255983, 1249150122, 1555081692, 1996064986, 2554220882, 2821834349, 2952996808, 3210313671, 3336571891, 3584528711, 113926993, 338241895, 666307205, 773529912, 1294757372, 1396182291, 1695183700, 1986661051, 2177026350, 2456956037, 2730485921, 2820302411, 3259730800, 3345764771, 3516065817, 3600352804, 4094571909, 275423344, 430227734, 506948616, 659060556, 883997877, 958139571, 1322822218, 1537002063, 1747873779, 1955562222, 2024104815, 2227730452, 2361852424, 2428436474, 2756734187, 3204031479, 3329325298]
def ini : List Nat := [1779033703, 3144134277, 1013904242, 2773480762, 1359893119, 2600822924, 528734635, 1541459225]
theorem initial (w : World) : Calls Try.prog 136 #[] w fun e w' => e = .returned (agg .u32 ini) ∧ Below w.heap.size w w' := by
  go_enter Try.func136, Try.ntmps136
  go_wp2
  exact ret_words rfl rfl (blk_new w (cl .u32 ini) _) rfl rfl ⟨rfl, (Below.refl _ _).alloc (Nat.le_refl _) _⟩
/-- The sum of two states. -/
def addS (s t : List Nat) : List Nat := [ad (s.getD 0 0) (t.getD 0 0), ad (s.getD 1 0) (t.getD 1 0), ad (s.getD 2 0) (t.getD 2 0), ad (s.getD 3 0) (t.getD 3 0), ad (s.getD 4 0) (t.getD 4 0), ad (s.getD 5 0) (t.getD 5 0), ad (s.getD 6 0) (t.getD 6 0), ad (s.getD 7 0) (t.getD 7 0)]
theorem plus (a b c d e f g h a' b' c' d' e' f' g' h' : Nat) (w : World) : Calls Try.prog 145 #[agg .u32 [a, b, c, d, e, f, g, h], agg .u32 [a', b', c', d', e', f', g', h']] w fun e0 w' => e0 = .returned (agg .u32 (addS [a, b, c, d, e, f, g, h] [a', b', c', d', e', f', g', h'])) ∧ Below w.heap.size w w' := by
  go_enter Try.func145, Try.ntmps145
  go_wp2
  refine ret_words rfl rfl (blk_at _ (cl .u32 (addS [a, b, c, d, e, f, g, h] [a', b', c', d', e', f', g', h'])) 197 (by simp)) rfl rfl ⟨rfl, ?_⟩
  exact ((((Below.refl _ _).alloc (Nat.le_refl _) _).alloc (by simp) _).alloc (by simp; omega) _)
theorem build_kon (w : World) : (blA 152 #[(0, .int .u32 1116352408), (1, .int .u32 1899447441), (2, .int .u32 3049323471), (3, .int .u32 3921009573), (4, .int .u32 961987163), (5, .int .u32 1508970993), (6, .int .u32 2453635748), (7, .int .u32 2870763221), (8, .int .u32 3624381080), (9, .int .u32 310598401), (10, .int .u32 607225278), (11, .int .u32 1426881987), (12, .int .u32 1925078388), (13, .int .u32 2162078206), (14, .int .u32 2614888103), (15, .int .u32 3248222580), (16, .int .u32 3835390401), (17, .int .u32 4022224774), (18, .int .u32 264347078), (19, .int .u32 604807628), (20, .int .u32 770255983), (21, .int .u32 1249150122), (22, .int .u32 1555081692), (23, .int .u32 1996064986), (24, .int .u32 2554220882), (25, .int .u32 2821834349), (26, .int .u32 2952996808), (27, .int .u32 3210313671), (28, .int .u32 3336571891), (29, .int .u32 3584528711), (30, .int .u32 113926993), (31, .int .u32 338241895), (32, .int .u32 666307205), (33, .int .u32 773529912), (34, .int .u32 1294757372), (35, .int .u32 1396182291), (36, .int .u32 1695183700), (37, .int .u32 1986661051), (38, .int .u32 2177026350), (39, .int .u32 2456956037), (40, .int .u32 2730485921), (41, .int .u32 2820302411), (42, .int .u32 3259730800), (43, .int .u32 3345764771), (44, .int .u32 3516065817), (45, .int .u32 3600352804), (46, .int .u32 4094571909), (47, .int .u32 275423344), (48, .int .u32 430227734), (49, .int .u32 506948616), (50, .int .u32 659060556), (51, .int .u32 883997877), (52, .int .u32 958139571), (53, .int .u32 1322822218), (54, .int .u32 1537002063), (55, .int .u32 1747873779), (56, .int .u32 1955562222), (57, .int .u32 2024104815), (58, .int .u32 2227730452), (59, .int .u32 2361852424), (60, .int .u32 2428436474), (61, .int .u32 2756734187), (62, .int .u32 3204031479), (63, .int .u32 3329325298)]).run Try.prog w = .ok (agg .u32 kon) w := by kernel_rfl
set_option maxRecDepth 100000 in
theorem constants (w : World) : Calls Try.prog 142 #[] w fun e w' => e = .returned (agg .u32 kon) ∧ Below w.heap.size w w' := by
  have hb := build_kon
  have hl : kon.length = 64 := rfl
  go_enter Try.func142, Try.ntmps142
  go_wp2
  exact ret_w64 rfl rfl (blk_new w (cl .u32 kon) _) rfl rfl ⟨rfl, (Below.refl _ _).alloc (Nat.le_refl _) _⟩
end Go.Proofs.Ytlgpipdeckdmjaa.Sha
