/- printed by a program of ours: the types and the table of this seat's machine; no statement is proved here -/
import Derived.Test.YtoipeoafcjjaeaaProg
import Derived.Test.YtoipeoafcjjaeaaCodeA
import Derived.Test.YtoipeoafcjjaeaaCodeB
import Derived.Test.YtoipeoafcjjaeaaDamA
namespace Go.Dam.S
open Go Go.Dam
def types : List ATy := [
  .other,
  .prim .nilf,
  .prim (.int .i64 0),
  .prim (.int .i64 0),
  .prim (.bool false),
  .prim (.int .u8 0),
  .prim (.int .u8 0),
  .struct [2, 3, 4, 5],
  .struct [2, 3, 4, 5],
  .prim (.str ⟨#[]⟩),
  .prim (.str ⟨#[]⟩),
  .prim (.str ⟨#[]⟩),
  .prim (.int .u64 0),
  .struct [9, 12],
  .struct [9, 12],
  .prim .nilp,
  .prim .nilp,
  .prim .nilp,
  .struct [17],
  .struct [17],
  .other,
  .prim (.int .i32 0),
  .prim .nils,
  .prim (.int .u32 0),
  .prim .nilf,
  .prim .nilp,
  .prim (.int .i64 0),
  .other,
  .prim .nilf,
  .prim (.int .u64 0),
  .struct [29, 29],
  .struct [29, 29],
  .prim .nilf,
  .prim .nilf,
  .prim .nilf,
  .other,
  .prim .nilf,
  .prim .nilf,
  .prim .nils,
  .prim .nils,
  .prim .nilp,
  .other,
  .prim .nilf,
  .prim .nils,
  .struct [4, 3, 5],
  .struct [4, 3, 5],
  .prim .nilf,
  .array 64 5,
  .array 64 5,
  .prim .nilf,
  .prim .nilf,
  .prim .nils,
  .other,
  .prim .nilf,
  .prim .nilf,
  .prim .nilf,
  .prim .nilf,
  .prim .nils,
  .prim .nilf,
  .prim .nilp,
  .other,
  .prim .nilf,
  .array 16 5,
  .array 16 5,
  .prim .nilf,
  .prim .nilf,
  .other,
  .prim .nilf,
  .other,
  .prim .nilf,
  .prim .nilf,
  .prim .nilf,
  .prim .nilf,
  .struct [3, 3, 3, 3],
  .struct [3, 3, 3, 3],
  .prim .nils,
  .prim .nilf,
  .prim .nilp,
  .other,
  .prim .nilf,
  .struct [5, 21],
  .struct [5, 21],
  .prim .nilf,
  .other,
  .prim .nilf,
  .prim .nilf,
  .prim .nilf,
  .prim .nils,
  .prim .nilp,
  .prim .nilf,
  .prim .nilf,
  .struct [23, 3, 3, 39],
  .struct [23, 3, 3, 39],
  .prim .nilf,
  .prim .nilf,
  .other,
  .prim .nilf,
  .prim .nilf,
  .prim .nilf,
  .struct [3, 3],
  .struct [3, 3],
  .prim .nils,
  .prim .nilp,
  .other,
  .prim .nilf,
  .array 8 4,
  .struct [23, 23, 3],
  .struct [23, 23, 3],
  .struct [5, 2, 3, 3, 106, 106, 4],
  .struct [5, 2, 3, 3, 106, 106, 4],
  .prim .nilf,
  .other,
  .prim .nilf,
  .prim .nilf,
  .struct [58, 2, 23],
  .struct [58, 2, 23],
  .prim .nilf,
  .prim .nilf,
  .prim .nilf,
  .prim .nils,
  .struct [5, 29, 62, 57, 39],
  .struct [5, 29, 62, 57, 39],
  .prim .nilf,
  .prim .nilf,
  .prim .nils,
  .prim .nilp,
  .prim .nilf,
  .prim .nilf,
  .other,
  .prim .nilf,
  .prim .nilf,
  .prim .nilp,
  .prim .nilf,
  .prim .nilf,
  .prim .nilf,
  .prim .nils,
  .prim .nilf,
  .prim .nilf,
  .prim .nilp,
  .other,
  .prim .nilf,
  .other,
  .prim .nilf,
  .prim .nilf,
  .prim .nilf,
  .prim .nilf,
  .prim .nilf,
  .prim .nilp,
  .other,
  .prim .nilf,
  .struct [3, 3],
  .struct [3, 3],
  .other,
  .prim .nilf,
  .struct [3, 106, 62, 57],
  .struct [3, 106, 62, 57],
  .other,
  .prim .nilf,
  .other,
  .prim .nilf,
  .struct [3, 3, 3],
  .struct [3, 3, 3],
  .prim .nils,
  .prim .nils,
  .prim .nilf,
  .prim .nilf,
  .prim .nilf,
  .struct [3, 29, 29, 29, 4],
  .struct [3, 29, 29, 29, 4],
  .prim .nils,
  .prim .nils,
  .struct [169, 170, 3, 4, 3],
  .struct [169, 170, 3, 4, 3],
  .struct [3, 47],
  .struct [3, 47],
  .prim .nils,
  .struct [3, 23, 175],
  .struct [3, 23, 175],
  .prim .nilf,
  .prim (.int .u64 0),
  .prim .nilf,
  .array 4 3,
  .struct [73, 3, 3, 3],
  .struct [73, 3, 3, 3],
  .prim .nils,
  .struct [23, 3, 3, 3, 135, 184, 4, 4],
  .struct [23, 3, 3, 3, 135, 184, 4, 4],
  .prim .nilf,
  .prim .nilf,
  .prim .nilf,
  .struct [4, 106, 2, 154, 4, 2, 106],
  .struct [4, 106, 2, 154, 4, 2, 106],
  .array 8 190,
  .array 8 192,
  .array 8 3,
  .struct [3, 99, 193, 194],
  .struct [3, 99, 193, 194],
  .prim .nilf,
  .prim .nilf,
  .prim .nilf,
  .prim .nilf,
  .prim .nilf,
  .prim .nils,
  .prim .nilf,
  .struct [3, 106, 3, 4, 2, 154],
  .struct [3, 106, 3, 4, 2, 154],
  .other,
  .prim .nilf,
  .other,
  .prim .nilf,
  .prim .nilf,
  .prim .nilf,
  .struct [39, 4],
  .struct [39, 4],
  .prim .nilf,
  .prim .nilf,
  .struct [39, 3],
  .struct [39, 3],
  .prim .nilf,
  .prim .nilf,
  .prim .nilf,
  .prim .nilf,
  .prim .nilf,
  .struct [40, 23, 3],
  .struct [40, 23, 3],
  .prim .nilf,
  .struct [23, 135, 4],
  .struct [23, 135, 4],
  .array 2 226,
  .prim .nilf,
  .other,
  .prim .nilf,
  .prim .nilf,
  .prim .nilf,
  .struct [106, 4, 2, 4, 4],
  .struct [106, 4, 2, 4, 4],
  .array 8 234,
  .struct [150, 2, 4, 236],
  .struct [150, 2, 4, 236],
  .prim .nilf,
  .prim .nilf,
  .prim .nilf,
  .prim .nilp,
  .prim .nilf,
  .prim .nilf,
  .prim .nilf,
  .prim .nilf,
  .prim .nilf,
  .prim .nilf,
  .prim .nilp,
  .prim .nilf,
  .prim .nilf,
  .array 32 5,
  .array 32 5,
  .prim .nilf,
  .prim .nilf,
  .prim .nilf,
  .prim .nilf,
  .prim .nilf,
  .prim .nilf,
  .prim .nilf,
  .prim .nilf,
  .prim .nilf,
  .prim .nilf,
  .prim .nilf,
  .array 8 23,
  .struct [265, 39, 29, 3],
  .struct [265, 39, 29, 3],
  .prim .nilf,
  .prim .nilf,
  .prim (.int .u16 0),
  .prim .nilf,
  .array 64 23,
  .prim .nilf,
  .prim .nilf,
  .prim .nilf,
  .prim .nilf,
  .struct [17, 17, 17, 9],
  .struct [17, 17, 17, 9],
  .array 0 16,
  .struct [279],
  .struct [279],
  .prim (.int .u8 0),
  .prim (.int .u8 0),
  .prim .nilf,
  .prim .nilp,
  .prim (.int .i32 0),
  .prim (.int .i32 0),
  .struct [12, 12, 23, 5, 5, 5, 5, 284, 285, 21, 21],
  .struct [12, 12, 23, 5, 5, 5, 5, 284, 285, 21, 21],
  .prim .nilf,
  .prim .nilf,
  .prim .nilp]
def tbl : List (FuncId × AFunc) := [
  (3, f3),
  (4, f4),
  (5, f5),
  (6, f6),
  (7, f7),
  (8, f8),
  (9, f9),
  (10, f10),
  (11, f11),
  (12, f12),
  (13, f13),
  (14, f14),
  (15, f15),
  (16, f16),
  (17, f17),
  (18, f18),
  (19, f19),
  (20, f20),
  (21, f21),
  (22, f22),
  (23, f23),
  (24, f24),
  (25, f25),
  (26, f26),
  (27, f27),
  (28, f28),
  (29, f29),
  (30, f30),
  (31, f31),
  (32, f32),
  (33, f33),
  (34, f34),
  (35, f35),
  (36, f36),
  (37, f37),
  (38, f38),
  (39, f39),
  (40, f40),
  (41, f41),
  (42, f42),
  (43, f43),
  (44, f44),
  (45, f45),
  (46, f46),
  (47, f47),
  (48, f48),
  (49, f49),
  (50, f50),
  (51, f51),
  (52, f52),
  (53, f53),
  (54, f54),
  (55, f55),
  (56, f56),
  (57, f57),
  (58, f58),
  (59, f59),
  (60, f60),
  (61, f61),
  (62, f62),
  (63, f63),
  (64, f64),
  (65, f65),
  (66, f66),
  (67, f67),
  (68, f68),
  (69, f69),
  (70, f70),
  (71, f71),
  (72, f72),
  (73, f73),
  (74, f74),
  (75, f75),
  (76, f76),
  (77, f77),
  (78, f78),
  (79, f79),
  (80, f80),
  (81, f81),
  (82, f82),
  (83, f83),
  (84, f84),
  (85, f85),
  (86, f86),
  (87, f87),
  (88, f88),
  (89, f89),
  (90, f90),
  (91, f91),
  (92, f92),
  (93, f93),
  (94, f94),
  (95, f95),
  (96, f96),
  (97, f97),
  (98, f98),
  (99, f99),
  (100, f100),
  (101, f101),
  (102, f102),
  (103, f103),
  (104, f104),
  (105, f105),
  (106, f106),
  (107, f107),
  (108, f108),
  (109, f109),
  (110, f110),
  (111, f111),
  (112, f112),
  (113, f113),
  (114, f114),
  (115, f115),
  (116, f116),
  (117, f117),
  (118, f118),
  (119, f119),
  (120, f120),
  (121, f121),
  (122, f122),
  (123, f123),
  (124, f124),
  (125, f125),
  (126, f126),
  (127, f127),
  (128, f128),
  (129, f129),
  (130, f130),
  (131, f131),
  (132, f132),
  (133, f133),
  (134, f134),
  (135, f135),
  (136, f136),
  (137, f137),
  (138, f138),
  (139, f139),
  (140, f140),
  (141, f141),
  (142, f142),
  (143, f143),
  (144, f144),
  (145, f145),
  (146, f146),
  (147, f147),
  (148, f148),
  (149, f149),
  (150, f150),
  (151, f151),
  (152, f152),
  (153, f153),
  (154, f154)]
def fnT (f : FuncId) : Option AFunc := (tbl.find? fun x => x.1 == f).map (·.2)
def extT (f : FuncId) (args : List AV) : Option (List AV) := bif f == 11 && args.isEmpty then some [.bool true] else none
noncomputable def T : Tbl := { te := fun t => bif Nat.blt t 293 then types.getD t .other else teOf Go.Proofs.Try.prog t, ext := extT, fn := fnT }
theorem fn3 : T.fn 3 = some f3 := rfl
theorem fn4 : T.fn 4 = some f4 := rfl
theorem fn5 : T.fn 5 = some f5 := rfl
theorem fn6 : T.fn 6 = some f6 := rfl
theorem fn7 : T.fn 7 = some f7 := rfl
theorem fn8 : T.fn 8 = some f8 := rfl
theorem fn9 : T.fn 9 = some f9 := rfl
theorem fn10 : T.fn 10 = some f10 := rfl
theorem fn11 : T.fn 11 = some f11 := rfl
theorem fn12 : T.fn 12 = some f12 := rfl
theorem fn13 : T.fn 13 = some f13 := rfl
theorem fn14 : T.fn 14 = some f14 := rfl
theorem fn15 : T.fn 15 = some f15 := rfl
theorem fn16 : T.fn 16 = some f16 := rfl
theorem fn17 : T.fn 17 = some f17 := rfl
theorem fn18 : T.fn 18 = some f18 := rfl
theorem fn19 : T.fn 19 = some f19 := rfl
theorem fn20 : T.fn 20 = some f20 := rfl
theorem fn21 : T.fn 21 = some f21 := rfl
theorem fn22 : T.fn 22 = some f22 := rfl
theorem fn23 : T.fn 23 = some f23 := rfl
theorem fn24 : T.fn 24 = some f24 := rfl
theorem fn25 : T.fn 25 = some f25 := rfl
theorem fn26 : T.fn 26 = some f26 := rfl
theorem fn27 : T.fn 27 = some f27 := rfl
theorem fn28 : T.fn 28 = some f28 := rfl
theorem fn29 : T.fn 29 = some f29 := rfl
theorem fn30 : T.fn 30 = some f30 := rfl
theorem fn31 : T.fn 31 = some f31 := rfl
theorem fn32 : T.fn 32 = some f32 := rfl
theorem fn33 : T.fn 33 = some f33 := rfl
theorem fn34 : T.fn 34 = some f34 := rfl
theorem fn35 : T.fn 35 = some f35 := rfl
theorem fn36 : T.fn 36 = some f36 := rfl
theorem fn37 : T.fn 37 = some f37 := rfl
theorem fn38 : T.fn 38 = some f38 := rfl
theorem fn39 : T.fn 39 = some f39 := rfl
theorem fn40 : T.fn 40 = some f40 := rfl
theorem fn41 : T.fn 41 = some f41 := rfl
theorem fn42 : T.fn 42 = some f42 := rfl
theorem fn43 : T.fn 43 = some f43 := rfl
theorem fn44 : T.fn 44 = some f44 := rfl
theorem fn45 : T.fn 45 = some f45 := rfl
theorem fn46 : T.fn 46 = some f46 := rfl
theorem fn47 : T.fn 47 = some f47 := rfl
theorem fn48 : T.fn 48 = some f48 := rfl
theorem fn49 : T.fn 49 = some f49 := rfl
theorem fn50 : T.fn 50 = some f50 := rfl
theorem fn51 : T.fn 51 = some f51 := rfl
theorem fn52 : T.fn 52 = some f52 := rfl
theorem fn53 : T.fn 53 = some f53 := rfl
theorem fn54 : T.fn 54 = some f54 := rfl
theorem fn55 : T.fn 55 = some f55 := rfl
theorem fn56 : T.fn 56 = some f56 := rfl
theorem fn57 : T.fn 57 = some f57 := rfl
theorem fn58 : T.fn 58 = some f58 := rfl
theorem fn59 : T.fn 59 = some f59 := rfl
theorem fn60 : T.fn 60 = some f60 := rfl
theorem fn61 : T.fn 61 = some f61 := rfl
theorem fn62 : T.fn 62 = some f62 := rfl
theorem fn63 : T.fn 63 = some f63 := rfl
theorem fn64 : T.fn 64 = some f64 := rfl
theorem fn65 : T.fn 65 = some f65 := rfl
theorem fn66 : T.fn 66 = some f66 := rfl
theorem fn67 : T.fn 67 = some f67 := rfl
theorem fn68 : T.fn 68 = some f68 := rfl
theorem fn69 : T.fn 69 = some f69 := rfl
theorem fn70 : T.fn 70 = some f70 := rfl
theorem fn71 : T.fn 71 = some f71 := rfl
theorem fn72 : T.fn 72 = some f72 := rfl
theorem fn73 : T.fn 73 = some f73 := rfl
theorem fn74 : T.fn 74 = some f74 := rfl
theorem fn75 : T.fn 75 = some f75 := rfl
theorem fn76 : T.fn 76 = some f76 := rfl
theorem fn77 : T.fn 77 = some f77 := rfl
theorem fn78 : T.fn 78 = some f78 := rfl
theorem fn79 : T.fn 79 = some f79 := rfl
theorem fn80 : T.fn 80 = some f80 := rfl
theorem fn81 : T.fn 81 = some f81 := rfl
theorem fn82 : T.fn 82 = some f82 := rfl
theorem fn83 : T.fn 83 = some f83 := rfl
theorem fn84 : T.fn 84 = some f84 := rfl
theorem fn85 : T.fn 85 = some f85 := rfl
theorem fn86 : T.fn 86 = some f86 := rfl
theorem fn87 : T.fn 87 = some f87 := rfl
theorem fn88 : T.fn 88 = some f88 := rfl
theorem fn89 : T.fn 89 = some f89 := rfl
theorem fn90 : T.fn 90 = some f90 := rfl
theorem fn91 : T.fn 91 = some f91 := rfl
theorem fn92 : T.fn 92 = some f92 := rfl
theorem fn93 : T.fn 93 = some f93 := rfl
theorem fn94 : T.fn 94 = some f94 := rfl
theorem fn95 : T.fn 95 = some f95 := rfl
theorem fn96 : T.fn 96 = some f96 := rfl
theorem fn97 : T.fn 97 = some f97 := rfl
theorem fn98 : T.fn 98 = some f98 := rfl
theorem fn99 : T.fn 99 = some f99 := rfl
theorem fn100 : T.fn 100 = some f100 := rfl
theorem fn101 : T.fn 101 = some f101 := rfl
theorem fn102 : T.fn 102 = some f102 := rfl
theorem fn103 : T.fn 103 = some f103 := rfl
theorem fn104 : T.fn 104 = some f104 := rfl
theorem fn105 : T.fn 105 = some f105 := rfl
theorem fn106 : T.fn 106 = some f106 := rfl
theorem fn107 : T.fn 107 = some f107 := rfl
theorem fn108 : T.fn 108 = some f108 := rfl
theorem fn109 : T.fn 109 = some f109 := rfl
theorem fn110 : T.fn 110 = some f110 := rfl
theorem fn111 : T.fn 111 = some f111 := rfl
theorem fn112 : T.fn 112 = some f112 := rfl
theorem fn113 : T.fn 113 = some f113 := rfl
theorem fn114 : T.fn 114 = some f114 := rfl
theorem fn115 : T.fn 115 = some f115 := rfl
theorem fn116 : T.fn 116 = some f116 := rfl
theorem fn117 : T.fn 117 = some f117 := rfl
theorem fn118 : T.fn 118 = some f118 := rfl
theorem fn119 : T.fn 119 = some f119 := rfl
theorem fn120 : T.fn 120 = some f120 := rfl
theorem fn121 : T.fn 121 = some f121 := rfl
theorem fn122 : T.fn 122 = some f122 := rfl
theorem fn123 : T.fn 123 = some f123 := rfl
theorem fn124 : T.fn 124 = some f124 := rfl
theorem fn125 : T.fn 125 = some f125 := rfl
theorem fn126 : T.fn 126 = some f126 := rfl
theorem fn127 : T.fn 127 = some f127 := rfl
theorem fn128 : T.fn 128 = some f128 := rfl
theorem fn129 : T.fn 129 = some f129 := rfl
theorem fn130 : T.fn 130 = some f130 := rfl
theorem fn131 : T.fn 131 = some f131 := rfl
theorem fn132 : T.fn 132 = some f132 := rfl
theorem fn133 : T.fn 133 = some f133 := rfl
theorem fn134 : T.fn 134 = some f134 := rfl
theorem fn135 : T.fn 135 = some f135 := rfl
theorem fn136 : T.fn 136 = some f136 := rfl
theorem fn137 : T.fn 137 = some f137 := rfl
theorem fn138 : T.fn 138 = some f138 := rfl
theorem fn139 : T.fn 139 = some f139 := rfl
theorem fn140 : T.fn 140 = some f140 := rfl
theorem fn141 : T.fn 141 = some f141 := rfl
theorem fn142 : T.fn 142 = some f142 := rfl
theorem fn143 : T.fn 143 = some f143 := rfl
theorem fn144 : T.fn 144 = some f144 := rfl
theorem fn145 : T.fn 145 = some f145 := rfl
theorem fn146 : T.fn 146 = some f146 := rfl
theorem fn147 : T.fn 147 = some f147 := rfl
theorem fn148 : T.fn 148 = some f148 := rfl
theorem fn149 : T.fn 149 = some f149 := rfl
theorem fn150 : T.fn 150 = some f150 := rfl
theorem fn151 : T.fn 151 = some f151 := rfl
theorem fn152 : T.fn 152 = some f152 := rfl
theorem fn153 : T.fn 153 = some f153 := rfl
theorem fn154 : T.fn 154 = some f154 := rfl
theorem ex3 (args : List AV) : T.ext 3 args = none := rfl
theorem ex4 (args : List AV) : T.ext 4 args = none := rfl
theorem ex5 (args : List AV) : T.ext 5 args = none := rfl
theorem ex6 (args : List AV) : T.ext 6 args = none := rfl
theorem ex7 (args : List AV) : T.ext 7 args = none := rfl
theorem ex8 (args : List AV) : T.ext 8 args = none := rfl
theorem ex9 (args : List AV) : T.ext 9 args = none := rfl
theorem ex10 (args : List AV) : T.ext 10 args = none := rfl
theorem ex12 (args : List AV) : T.ext 12 args = none := rfl
theorem ex13 (args : List AV) : T.ext 13 args = none := rfl
theorem ex14 (args : List AV) : T.ext 14 args = none := rfl
theorem ex15 (args : List AV) : T.ext 15 args = none := rfl
theorem ex16 (args : List AV) : T.ext 16 args = none := rfl
theorem ex17 (args : List AV) : T.ext 17 args = none := rfl
theorem ex18 (args : List AV) : T.ext 18 args = none := rfl
theorem ex19 (args : List AV) : T.ext 19 args = none := rfl
theorem ex20 (args : List AV) : T.ext 20 args = none := rfl
theorem ex21 (args : List AV) : T.ext 21 args = none := rfl
theorem ex22 (args : List AV) : T.ext 22 args = none := rfl
theorem ex23 (args : List AV) : T.ext 23 args = none := rfl
theorem ex24 (args : List AV) : T.ext 24 args = none := rfl
theorem ex25 (args : List AV) : T.ext 25 args = none := rfl
theorem ex26 (args : List AV) : T.ext 26 args = none := rfl
theorem ex27 (args : List AV) : T.ext 27 args = none := rfl
theorem ex28 (args : List AV) : T.ext 28 args = none := rfl
theorem ex29 (args : List AV) : T.ext 29 args = none := rfl
theorem ex30 (args : List AV) : T.ext 30 args = none := rfl
theorem ex31 (args : List AV) : T.ext 31 args = none := rfl
theorem ex32 (args : List AV) : T.ext 32 args = none := rfl
theorem ex33 (args : List AV) : T.ext 33 args = none := rfl
theorem ex34 (args : List AV) : T.ext 34 args = none := rfl
theorem ex35 (args : List AV) : T.ext 35 args = none := rfl
theorem ex36 (args : List AV) : T.ext 36 args = none := rfl
theorem ex37 (args : List AV) : T.ext 37 args = none := rfl
theorem ex38 (args : List AV) : T.ext 38 args = none := rfl
theorem ex39 (args : List AV) : T.ext 39 args = none := rfl
theorem ex40 (args : List AV) : T.ext 40 args = none := rfl
theorem ex41 (args : List AV) : T.ext 41 args = none := rfl
theorem ex42 (args : List AV) : T.ext 42 args = none := rfl
theorem ex43 (args : List AV) : T.ext 43 args = none := rfl
theorem ex44 (args : List AV) : T.ext 44 args = none := rfl
theorem ex45 (args : List AV) : T.ext 45 args = none := rfl
theorem ex46 (args : List AV) : T.ext 46 args = none := rfl
theorem ex47 (args : List AV) : T.ext 47 args = none := rfl
theorem ex48 (args : List AV) : T.ext 48 args = none := rfl
theorem ex49 (args : List AV) : T.ext 49 args = none := rfl
theorem ex50 (args : List AV) : T.ext 50 args = none := rfl
theorem ex51 (args : List AV) : T.ext 51 args = none := rfl
theorem ex52 (args : List AV) : T.ext 52 args = none := rfl
theorem ex53 (args : List AV) : T.ext 53 args = none := rfl
theorem ex54 (args : List AV) : T.ext 54 args = none := rfl
theorem ex55 (args : List AV) : T.ext 55 args = none := rfl
theorem ex56 (args : List AV) : T.ext 56 args = none := rfl
theorem ex57 (args : List AV) : T.ext 57 args = none := rfl
theorem ex58 (args : List AV) : T.ext 58 args = none := rfl
theorem ex59 (args : List AV) : T.ext 59 args = none := rfl
theorem ex60 (args : List AV) : T.ext 60 args = none := rfl
theorem ex61 (args : List AV) : T.ext 61 args = none := rfl
theorem ex62 (args : List AV) : T.ext 62 args = none := rfl
theorem ex63 (args : List AV) : T.ext 63 args = none := rfl
theorem ex64 (args : List AV) : T.ext 64 args = none := rfl
theorem ex65 (args : List AV) : T.ext 65 args = none := rfl
theorem ex66 (args : List AV) : T.ext 66 args = none := rfl
theorem ex67 (args : List AV) : T.ext 67 args = none := rfl
theorem ex68 (args : List AV) : T.ext 68 args = none := rfl
theorem ex69 (args : List AV) : T.ext 69 args = none := rfl
theorem ex70 (args : List AV) : T.ext 70 args = none := rfl
theorem ex71 (args : List AV) : T.ext 71 args = none := rfl
theorem ex72 (args : List AV) : T.ext 72 args = none := rfl
theorem ex73 (args : List AV) : T.ext 73 args = none := rfl
theorem ex74 (args : List AV) : T.ext 74 args = none := rfl
theorem ex75 (args : List AV) : T.ext 75 args = none := rfl
theorem ex76 (args : List AV) : T.ext 76 args = none := rfl
theorem ex77 (args : List AV) : T.ext 77 args = none := rfl
theorem ex78 (args : List AV) : T.ext 78 args = none := rfl
theorem ex79 (args : List AV) : T.ext 79 args = none := rfl
theorem ex80 (args : List AV) : T.ext 80 args = none := rfl
theorem ex81 (args : List AV) : T.ext 81 args = none := rfl
theorem ex82 (args : List AV) : T.ext 82 args = none := rfl
theorem ex83 (args : List AV) : T.ext 83 args = none := rfl
theorem ex84 (args : List AV) : T.ext 84 args = none := rfl
theorem ex85 (args : List AV) : T.ext 85 args = none := rfl
theorem ex86 (args : List AV) : T.ext 86 args = none := rfl
theorem ex87 (args : List AV) : T.ext 87 args = none := rfl
theorem ex88 (args : List AV) : T.ext 88 args = none := rfl
theorem ex89 (args : List AV) : T.ext 89 args = none := rfl
theorem ex90 (args : List AV) : T.ext 90 args = none := rfl
theorem ex91 (args : List AV) : T.ext 91 args = none := rfl
theorem ex92 (args : List AV) : T.ext 92 args = none := rfl
theorem ex93 (args : List AV) : T.ext 93 args = none := rfl
theorem ex94 (args : List AV) : T.ext 94 args = none := rfl
theorem ex95 (args : List AV) : T.ext 95 args = none := rfl
theorem ex96 (args : List AV) : T.ext 96 args = none := rfl
theorem ex97 (args : List AV) : T.ext 97 args = none := rfl
theorem ex98 (args : List AV) : T.ext 98 args = none := rfl
theorem ex99 (args : List AV) : T.ext 99 args = none := rfl
theorem ex100 (args : List AV) : T.ext 100 args = none := rfl
theorem ex101 (args : List AV) : T.ext 101 args = none := rfl
theorem ex102 (args : List AV) : T.ext 102 args = none := rfl
theorem ex103 (args : List AV) : T.ext 103 args = none := rfl
theorem ex104 (args : List AV) : T.ext 104 args = none := rfl
theorem ex105 (args : List AV) : T.ext 105 args = none := rfl
theorem ex106 (args : List AV) : T.ext 106 args = none := rfl
theorem ex107 (args : List AV) : T.ext 107 args = none := rfl
theorem ex108 (args : List AV) : T.ext 108 args = none := rfl
theorem ex109 (args : List AV) : T.ext 109 args = none := rfl
theorem ex110 (args : List AV) : T.ext 110 args = none := rfl
theorem ex111 (args : List AV) : T.ext 111 args = none := rfl
theorem ex112 (args : List AV) : T.ext 112 args = none := rfl
theorem ex113 (args : List AV) : T.ext 113 args = none := rfl
theorem ex114 (args : List AV) : T.ext 114 args = none := rfl
theorem ex115 (args : List AV) : T.ext 115 args = none := rfl
theorem ex116 (args : List AV) : T.ext 116 args = none := rfl
theorem ex117 (args : List AV) : T.ext 117 args = none := rfl
theorem ex118 (args : List AV) : T.ext 118 args = none := rfl
theorem ex119 (args : List AV) : T.ext 119 args = none := rfl
theorem ex120 (args : List AV) : T.ext 120 args = none := rfl
theorem ex121 (args : List AV) : T.ext 121 args = none := rfl
theorem ex122 (args : List AV) : T.ext 122 args = none := rfl
theorem ex123 (args : List AV) : T.ext 123 args = none := rfl
theorem ex124 (args : List AV) : T.ext 124 args = none := rfl
theorem ex125 (args : List AV) : T.ext 125 args = none := rfl
theorem ex126 (args : List AV) : T.ext 126 args = none := rfl
theorem ex127 (args : List AV) : T.ext 127 args = none := rfl
theorem ex128 (args : List AV) : T.ext 128 args = none := rfl
theorem ex129 (args : List AV) : T.ext 129 args = none := rfl
theorem ex130 (args : List AV) : T.ext 130 args = none := rfl
theorem ex131 (args : List AV) : T.ext 131 args = none := rfl
theorem ex132 (args : List AV) : T.ext 132 args = none := rfl
theorem ex133 (args : List AV) : T.ext 133 args = none := rfl
theorem ex134 (args : List AV) : T.ext 134 args = none := rfl
theorem ex135 (args : List AV) : T.ext 135 args = none := rfl
theorem ex136 (args : List AV) : T.ext 136 args = none := rfl
theorem ex137 (args : List AV) : T.ext 137 args = none := rfl
theorem ex138 (args : List AV) : T.ext 138 args = none := rfl
theorem ex139 (args : List AV) : T.ext 139 args = none := rfl
theorem ex140 (args : List AV) : T.ext 140 args = none := rfl
theorem ex141 (args : List AV) : T.ext 141 args = none := rfl
theorem ex142 (args : List AV) : T.ext 142 args = none := rfl
theorem ex143 (args : List AV) : T.ext 143 args = none := rfl
theorem ex144 (args : List AV) : T.ext 144 args = none := rfl
theorem ex145 (args : List AV) : T.ext 145 args = none := rfl
theorem ex146 (args : List AV) : T.ext 146 args = none := rfl
theorem ex147 (args : List AV) : T.ext 147 args = none := rfl
theorem ex148 (args : List AV) : T.ext 148 args = none := rfl
theorem ex149 (args : List AV) : T.ext 149 args = none := rfl
theorem ex150 (args : List AV) : T.ext 150 args = none := rfl
theorem ex151 (args : List AV) : T.ext 151 args = none := rfl
theorem ex152 (args : List AV) : T.ext 152 args = none := rfl
theorem ex153 (args : List AV) : T.ext 153 args = none := rfl
theorem ex154 (args : List AV) : T.ext 154 args = none := rfl
theorem exw : T.ext 11 [] = some [.bool true] := rfl
noncomputable def T0 : Tbl := { te := fun t => bif Nat.blt t 293 then types.getD t .other else teOf Go.Proofs.Try.prog t, ext := fun _ _ => none, fn := fnT }
end Go.Dam.S
