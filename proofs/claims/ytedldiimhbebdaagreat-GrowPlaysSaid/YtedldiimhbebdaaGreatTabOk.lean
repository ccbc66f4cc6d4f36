/- The table of the program's functions; each of them is what is made of the program's text: asked of the kernel. -/
import Derived.Test.YtedldiimhbebdaaGreatTab1
import Derived.Test.YtedldiimhbebdaaGreatProg
import Derived.KernelRfl
namespace Go.Proofs.YtedldiimhbebdaaGreat
open Go.Proofs.YtedldiimhbebdaaGreat.Ai
set_option maxRecDepth 100000
noncomputable section
theorem tf2 : tabOf Tryz.prog 2 = some af2 := by kernel_rfl
theorem tf3 : tabOf Tryz.prog 3 = some af3 := by kernel_rfl
theorem tf4 : tabOf Tryz.prog 4 = some af4 := by kernel_rfl
theorem tf5 : tabOf Tryz.prog 5 = some af5 := by kernel_rfl
theorem tf6 : tabOf Tryz.prog 6 = some af6 := by kernel_rfl
theorem tf7 : tabOf Tryz.prog 7 = some af7 := by kernel_rfl
theorem tf8 : tabOf Tryz.prog 8 = some af8 := by kernel_rfl
theorem tf9 : tabOf Tryz.prog 9 = some af9 := by kernel_rfl
theorem tf10 : tabOf Tryz.prog 10 = some af10 := by kernel_rfl
theorem tf11 : tabOf Tryz.prog 11 = some af11 := by kernel_rfl
theorem tf12 : tabOf Tryz.prog 12 = some af12 := by kernel_rfl
theorem tf13 : tabOf Tryz.prog 13 = some af13 := by kernel_rfl
theorem tf14 : tabOf Tryz.prog 14 = some af14 := by kernel_rfl
theorem tf15 : tabOf Tryz.prog 15 = some af15 := by kernel_rfl
theorem tf16 : tabOf Tryz.prog 16 = some af16 := by kernel_rfl
theorem tf17 : tabOf Tryz.prog 17 = some af17 := by kernel_rfl
theorem tf18 : tabOf Tryz.prog 18 = some af18 := by kernel_rfl
theorem tf19 : tabOf Tryz.prog 19 = some af19 := by kernel_rfl
theorem tf20 : tabOf Tryz.prog 20 = some af20 := by kernel_rfl
theorem tf21 : tabOf Tryz.prog 21 = some af21 := by kernel_rfl
theorem tf22 : tabOf Tryz.prog 22 = some af22 := by kernel_rfl
theorem tf23 : tabOf Tryz.prog 23 = some af23 := by kernel_rfl
theorem tf24 : tabOf Tryz.prog 24 = some af24 := by kernel_rfl
theorem tf25 : tabOf Tryz.prog 25 = some af25 := by kernel_rfl
theorem tf26 : tabOf Tryz.prog 26 = some af26 := by kernel_rfl
theorem tf27 : tabOf Tryz.prog 27 = some af27 := by kernel_rfl
theorem tf28 : tabOf Tryz.prog 28 = some af28 := by kernel_rfl
theorem tf29 : tabOf Tryz.prog 29 = some af29 := by kernel_rfl
theorem tf30 : tabOf Tryz.prog 30 = some af30 := by kernel_rfl
theorem tf31 : tabOf Tryz.prog 31 = some af31 := by kernel_rfl
theorem tf32 : tabOf Tryz.prog 32 = some af32 := by kernel_rfl
theorem tf33 : tabOf Tryz.prog 33 = some af33 := by kernel_rfl
theorem tf34 : tabOf Tryz.prog 34 = some af34 := by kernel_rfl
theorem tf35 : tabOf Tryz.prog 35 = some af35 := by kernel_rfl
theorem tf36 : tabOf Tryz.prog 36 = some af36 := by kernel_rfl
theorem tf37 : tabOf Tryz.prog 37 = some af37 := by kernel_rfl
theorem tf38 : tabOf Tryz.prog 38 = some af38 := by kernel_rfl
theorem tf39 : tabOf Tryz.prog 39 = some af39 := by kernel_rfl
theorem tf40 : tabOf Tryz.prog 40 = some af40 := by kernel_rfl
theorem tf41 : tabOf Tryz.prog 41 = some af41 := by kernel_rfl
theorem tf42 : tabOf Tryz.prog 42 = some af42 := by kernel_rfl
theorem tf43 : tabOf Tryz.prog 43 = some af43 := by kernel_rfl
theorem tf44 : tabOf Tryz.prog 44 = some af44 := by kernel_rfl
theorem tf45 : tabOf Tryz.prog 45 = some af45 := by kernel_rfl
theorem tf46 : tabOf Tryz.prog 46 = some af46 := by kernel_rfl
theorem tf47 : tabOf Tryz.prog 47 = some af47 := by kernel_rfl
theorem tf48 : tabOf Tryz.prog 48 = some af48 := by kernel_rfl
theorem tf49 : tabOf Tryz.prog 49 = some af49 := by kernel_rfl
theorem tf50 : tabOf Tryz.prog 50 = some af50 := by kernel_rfl
theorem tf51 : tabOf Tryz.prog 51 = some af51 := by kernel_rfl
theorem tf52 : tabOf Tryz.prog 52 = some af52 := by kernel_rfl
theorem tf53 : tabOf Tryz.prog 53 = some af53 := by kernel_rfl
theorem tf54 : tabOf Tryz.prog 54 = some af54 := by kernel_rfl
theorem tf55 : tabOf Tryz.prog 55 = some af55 := by kernel_rfl
theorem tf56 : tabOf Tryz.prog 56 = some af56 := by kernel_rfl
theorem tf57 : tabOf Tryz.prog 57 = some af57 := by kernel_rfl
theorem tf58 : tabOf Tryz.prog 58 = some af58 := by kernel_rfl
theorem tf59 : tabOf Tryz.prog 59 = some af59 := by kernel_rfl
theorem tf60 : tabOf Tryz.prog 60 = some af60 := by kernel_rfl
theorem tf61 : tabOf Tryz.prog 61 = some af61 := by kernel_rfl
theorem tf62 : tabOf Tryz.prog 62 = some af62 := by kernel_rfl
theorem tf63 : tabOf Tryz.prog 63 = some af63 := by kernel_rfl
theorem tf64 : tabOf Tryz.prog 64 = some af64 := by kernel_rfl
theorem tf65 : tabOf Tryz.prog 65 = some af65 := by kernel_rfl
theorem tf66 : tabOf Tryz.prog 66 = some af66 := by kernel_rfl
theorem tf67 : tabOf Tryz.prog 67 = some af67 := by kernel_rfl
theorem tf68 : tabOf Tryz.prog 68 = some af68 := by kernel_rfl
theorem tf69 : tabOf Tryz.prog 69 = some af69 := by kernel_rfl
theorem tf70 : tabOf Tryz.prog 70 = some af70 := by kernel_rfl
theorem tf71 : tabOf Tryz.prog 71 = some af71 := by kernel_rfl
theorem tf72 : tabOf Tryz.prog 72 = some af72 := by kernel_rfl
theorem tf73 : tabOf Tryz.prog 73 = some af73 := by kernel_rfl
theorem tf74 : tabOf Tryz.prog 74 = some af74 := by kernel_rfl
theorem tf75 : tabOf Tryz.prog 75 = some af75 := by kernel_rfl
theorem tf76 : tabOf Tryz.prog 76 = some af76 := by kernel_rfl
theorem tf77 : tabOf Tryz.prog 77 = some af77 := by kernel_rfl
theorem tf78 : tabOf Tryz.prog 78 = some af78 := by kernel_rfl
theorem tf79 : tabOf Tryz.prog 79 = some af79 := by kernel_rfl
theorem tf80 : tabOf Tryz.prog 80 = some af80 := by kernel_rfl
theorem tf81 : tabOf Tryz.prog 81 = some af81 := by kernel_rfl
theorem tf82 : tabOf Tryz.prog 82 = some af82 := by kernel_rfl
theorem tf83 : tabOf Tryz.prog 83 = some af83 := by kernel_rfl
theorem tf84 : tabOf Tryz.prog 84 = some af84 := by kernel_rfl
theorem tf85 : tabOf Tryz.prog 85 = some af85 := by kernel_rfl
theorem tf86 : tabOf Tryz.prog 86 = some af86 := by kernel_rfl
theorem tf87 : tabOf Tryz.prog 87 = some af87 := by kernel_rfl
theorem tf88 : tabOf Tryz.prog 88 = some af88 := by kernel_rfl
theorem tf89 : tabOf Tryz.prog 89 = some af89 := by kernel_rfl
theorem tf90 : tabOf Tryz.prog 90 = some af90 := by kernel_rfl
theorem tf91 : tabOf Tryz.prog 91 = some af91 := by kernel_rfl
theorem tf92 : tabOf Tryz.prog 92 = some af92 := by kernel_rfl
theorem tf93 : tabOf Tryz.prog 93 = some af93 := by kernel_rfl
theorem tf94 : tabOf Tryz.prog 94 = some af94 := by kernel_rfl
theorem tf95 : tabOf Tryz.prog 95 = some af95 := by kernel_rfl
theorem tf96 : tabOf Tryz.prog 96 = some af96 := by kernel_rfl
theorem tf97 : tabOf Tryz.prog 97 = some af97 := by kernel_rfl
theorem tf98 : tabOf Tryz.prog 98 = some af98 := by kernel_rfl
theorem tf99 : tabOf Tryz.prog 99 = some af99 := by kernel_rfl
theorem tf100 : tabOf Tryz.prog 100 = some af100 := by kernel_rfl
theorem tf101 : tabOf Tryz.prog 101 = some af101 := by kernel_rfl
theorem tf102 : tabOf Tryz.prog 102 = some af102 := by kernel_rfl
theorem tf103 : tabOf Tryz.prog 103 = some af103 := by kernel_rfl
theorem tf104 : tabOf Tryz.prog 104 = some af104 := by kernel_rfl
theorem tf105 : tabOf Tryz.prog 105 = some af105 := by kernel_rfl
theorem tf106 : tabOf Tryz.prog 106 = some af106 := by kernel_rfl
theorem tf107 : tabOf Tryz.prog 107 = some af107 := by kernel_rfl
theorem tf108 : tabOf Tryz.prog 108 = some af108 := by kernel_rfl
theorem tf109 : tabOf Tryz.prog 109 = some af109 := by kernel_rfl
theorem tf110 : tabOf Tryz.prog 110 = some af110 := by kernel_rfl
theorem tf111 : tabOf Tryz.prog 111 = some af111 := by kernel_rfl
theorem tf112 : tabOf Tryz.prog 112 = some af112 := by kernel_rfl
def tabT : T AFunc := (.node (.node (.node (.node (.node (.node (.node .nil (some af63) .nil) (some af31) (.node .nil (some af95) .nil)) (some af15) (.node (.node .nil (some af79) .nil) (some af47) (.node .nil (some af111) .nil))) (some af7) (.node (.node (.node .nil (some af71) .nil) (some af39) (.node .nil (some af103) .nil)) (some af23) (.node (.node .nil (some af87) .nil) (some af55) .nil))) (some af3) (.node (.node (.node (.node .nil (some af67) .nil) (some af35) (.node .nil (some af99) .nil)) (some af19) (.node (.node .nil (some af83) .nil) (some af51) .nil)) (some af11) (.node (.node (.node .nil (some af75) .nil) (some af43) (.node .nil (some af107) .nil)) (some af27) (.node (.node .nil (some af91) .nil) (some af59) .nil)))) none (.node (.node (.node (.node (.node .nil (some af65) .nil) (some af33) (.node .nil (some af97) .nil)) (some af17) (.node (.node .nil (some af81) .nil) (some af49) .nil)) (some af9) (.node (.node (.node .nil (some af73) .nil) (some af41) (.node .nil (some af105) .nil)) (some af25) (.node (.node .nil (some af89) .nil) (some af57) .nil))) (some af5) (.node (.node (.node (.node .nil (some af69) .nil) (some af37) (.node .nil (some af101) .nil)) (some af21) (.node (.node .nil (some af85) .nil) (some af53) .nil)) (some af13) (.node (.node (.node .nil (some af77) .nil) (some af45) (.node .nil (some af109) .nil)) (some af29) (.node (.node .nil (some af93) .nil) (some af61) .nil))))) none (.node (.node (.node (.node (.node (.node .nil (some af64) .nil) (some af32) (.node .nil (some af96) .nil)) (some af16) (.node (.node .nil (some af80) .nil) (some af48) (.node .nil (some af112) .nil))) (some af8) (.node (.node (.node .nil (some af72) .nil) (some af40) (.node .nil (some af104) .nil)) (some af24) (.node (.node .nil (some af88) .nil) (some af56) .nil))) (some af4) (.node (.node (.node (.node .nil (some af68) .nil) (some af36) (.node .nil (some af100) .nil)) (some af20) (.node (.node .nil (some af84) .nil) (some af52) .nil)) (some af12) (.node (.node (.node .nil (some af76) .nil) (some af44) (.node .nil (some af108) .nil)) (some af28) (.node (.node .nil (some af92) .nil) (some af60) .nil)))) (some af2) (.node (.node (.node (.node (.node .nil (some af66) .nil) (some af34) (.node .nil (some af98) .nil)) (some af18) (.node (.node .nil (some af82) .nil) (some af50) .nil)) (some af10) (.node (.node (.node .nil (some af74) .nil) (some af42) (.node .nil (some af106) .nil)) (some af26) (.node (.node .nil (some af90) .nil) (some af58) .nil))) (some af6) (.node (.node (.node (.node .nil (some af70) .nil) (some af38) (.node .nil (some af102) .nil)) (some af22) (.node (.node .nil (some af86) .nil) (some af54) .nil)) (some af14) (.node (.node (.node .nil (some af78) .nil) (some af46) (.node .nil (some af110) .nil)) (some af30) (.node (.node .nil (some af94) .nil) (some af62) .nil))))))
def tabL : List (Nat × AFunc) := [(112, af112), (111, af111), (110, af110), (109, af109), (108, af108), (107, af107), (106, af106), (105, af105), (104, af104), (103, af103), (102, af102), (101, af101), (100, af100), (99, af99), (98, af98), (97, af97), (96, af96), (95, af95), (94, af94), (93, af93), (92, af92), (91, af91), (90, af90), (89, af89), (88, af88), (87, af87), (86, af86), (85, af85), (84, af84), (83, af83), (82, af82), (81, af81), (80, af80), (79, af79), (78, af78), (77, af77), (76, af76), (75, af75), (74, af74), (73, af73), (72, af72), (71, af71), (70, af70), (69, af69), (68, af68), (67, af67), (66, af66), (65, af65), (64, af64), (63, af63), (62, af62), (61, af61), (60, af60), (59, af59), (58, af58), (57, af57), (56, af56), (55, af55), (54, af54), (53, af53), (52, af52), (51, af51), (50, af50), (49, af49), (48, af48), (47, af47), (46, af46), (45, af45), (44, af44), (43, af43), (42, af42), (41, af41), (40, af40), (39, af39), (38, af38), (37, af37), (36, af36), (35, af35), (34, af34), (33, af33), (32, af32), (31, af31), (30, af30), (29, af29), (28, af28), (27, af27), (26, af26), (25, af25), (24, af24), (23, af23), (22, af22), (21, af21), (20, af20), (19, af19), (18, af18), (17, af17), (16, af16), (15, af15), (14, af14), (13, af13), (12, af12), (11, af11), (10, af10), (9, af9), (8, af8), (7, af7), (6, af6), (5, af5), (4, af4), (3, af3), (2, af2)]
theorem tabT_eq : tabT = T.ofList tabL := by kernel_rfl
theorem tabOk : TabOk Tryz.prog tabT.get := tabOk_of tabT_eq ⟨tf112, tf111, tf110, tf109, tf108, tf107, tf106, tf105, tf104, tf103, tf102, tf101, tf100, tf99, tf98, tf97, tf96, tf95, tf94, tf93, tf92, tf91, tf90, tf89, tf88, tf87, tf86, tf85, tf84, tf83, tf82, tf81, tf80, tf79, tf78, tf77, tf76, tf75, tf74, tf73, tf72, tf71, tf70, tf69, tf68, tf67, tf66, tf65, tf64, tf63, tf62, tf61, tf60, tf59, tf58, tf57, tf56, tf55, tf54, tf53, tf52, tf51, tf50, tf49, tf48, tf47, tf46, tf45, tf44, tf43, tf42, tf41, tf40, tf39, tf38, tf37, tf36, tf35, tf34, tf33, tf32, tf31, tf30, tf29, tf28, tf27, tf26, tf25, tf24, tf23, tf22, tf21, tf20, tf19, tf18, tf17, tf16, tf15, tf14, tf13, tf12, tf11, tf10, tf9, tf8, tf7, tf6, tf5, tf4, tf3, tf2, trivial⟩
end
end Go.Proofs.YtedldiimhbebdaaGreat
