/- The program for the interpreter: the functions' codes (written by program: mkq.py). Conditions: none. -/
import Derived.Test.YtjjcfcbhelecgaaGreatLitC
import Derived.Test.YtjjcfcbhelecgaaGreatAbsEv
import Derived.Test.YtjjcfcbhelecgaaGreatAbsSort
import Derived.KernelRfl
namespace Go.Abs
def look {α : Type} : List (Nat × α) → Nat → Option α
  | [], _ => none
  | (k, x) :: l, f => bif Nat.beq k f then some x else look l f
def codes : List (Nat × Func1) := [(3, c3), (5, c5), (6, c6), (7, c7), (12, c12), (13, c13), (14, c14), (15, c15), (16, c16), (19, c19), (22, c22), (23, c23), (25, c25), (26, c26), (27, c27), (28, c28), (29, c29), (30, c30), (31, c31), (32, c32), (33, c33), (34, c34), (35, c35), (36, c36), (37, c37), (40, c40), (44, c44), (47, c47), (50, c50), (51, c51), (52, c52), (53, c53), (54, c54), (65, c65), (66, c66), (67, c67), (68, c68), (69, c69), (72, c72), (73, c73), (74, c74), (75, c75), (76, c76), (77, c77), (78, c78), (79, c79), (80, c80), (81, c81), (82, c82), (83, c83), (87, c87), (93, c93), (94, c94), (95, c95), (96, c96), (99, c99), (100, c100), (101, c101), (102, c102), (104, c104), (105, c105), (106, c106), (107, c107), (110, c110), (116, c116), (117, c117), (118, c118), (121, c121), (122, c122), (123, c123), (124, c124), (125, c125), (127, c127), (143, c143), (144, c144), (145, c145), (148, c148), (149, c149), (150, c150), (151, c151), (152, c152), (153, c153), (154, c154), (155, c155), (156, c156), (157, c157), (158, c158), (159, c159), (160, c160), (164, c164), (165, c165), (188, c188), (189, c189), (190, c190), (191, c191), (192, c192), (193, c193), (194, c194), (208, c208), (209, c209), (211, c211), (212, c212), (213, c213), (214, c214), (230, c230), (235, c235), (252, c252), (265, c265), (268, c268), (269, c269), (275, c275), (350, c350), (351, c351), (352, c352), (353, c353), (354, c354), (355, c355), (356, c356), (357, c357), (358, c358), (359, c359), (360, c360), (363, c363), (364, c364), (385, c385), (386, c386), (389, c389), (390, c390), (392, c392), (393, c393), (394, c394), (412, c412), (413, c413), (416, c416), (417, c417), (419, c419), (420, c420)]
def prims : List (Nat × (List AV → Heap → Option (AV × Heap))) := [(126, sortPrim)]
def Q : Prog1 := { code := fun f => look codes f, prim := fun f => look prims f }
theorem look_mem {α : Type} : ∀ {l : List (Nat × α)} {f : Nat} {x : α}, look l f = some x → (f, x) ∈ l
  | [], _, _, h => by cases h
  | (k, y) :: l, f, x, h => by
    simp only [look] at h
    cases hb : Nat.beq k f with
    | true =>
      rw [hb] at h
      simp only [cond_true, Option.some.injEq] at h
      have := Nat.eq_of_beq_eq_true hb
      subst h this
      simp
    | false =>
      rw [hb] at h
      exact List.mem_cons_of_mem _ (look_mem h)
end Go.Abs
