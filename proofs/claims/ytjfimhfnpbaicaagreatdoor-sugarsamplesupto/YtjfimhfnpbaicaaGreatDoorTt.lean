/- Lemmas by program: the table of types, row by row; no condition. -/
import Derived.Test.YtjfimhfnpbaicaaGreatDoorTz
import Derived.Test.YtjfimhfnpbaicaaGreatDoorSd0
import Derived.Test.YtjfimhfnpbaicaaGreatDoorSy27
namespace Go.Sy
theorem ty_0 : ty 0 = some ⟨.tup, 1, 0, (.tup []), []⟩ := rfl
theorem ty_1 : ty 1 = some ⟨.func, 1, 8, .nilfn, []⟩ := rfl
theorem ty_2 : ty 2 = some ⟨(.int .i64), 1, 8, (.int .i64 0), []⟩ := rfl
theorem ty_3 : ty 3 = some ⟨(.int .i64), 1, 8, (.int .i64 0), []⟩ := rfl
theorem ty_4 : ty 4 = some ⟨.bool, 1, 1, (.bool false), []⟩ := rfl
theorem ty_5 : ty 5 = some ⟨(.int .u8), 1, 1, (.int .u8 0), []⟩ := rfl
theorem ty_6 : ty 6 = some ⟨(.int .u8), 1, 1, (.int .u8 0), []⟩ := rfl
theorem ty_7 : ty 7 = some ⟨(.struct [(0, 2), (1, 3), (2, 4), (3, 6)]), 4, 24, (.agg [(.int .i64 0), (.int .i64 0), (.bool false), (.int .u8 0)]), [0, 0, 2, 0]⟩ := rfl
theorem ty_8 : ty 8 = some ⟨(.struct [(0, 2), (1, 3), (2, 4), (3, 6)]), 4, 24, (.agg [(.int .i64 0), (.int .i64 0), (.bool false), (.int .u8 0)]), [0, 0, 2, 0]⟩ := rfl
theorem ty_9 : ty 9 = some ⟨.str, 1, 16, (.str []), []⟩ := rfl
theorem ty_10 : ty 10 = some ⟨.str, 1, 16, (.str []), []⟩ := rfl
theorem ty_11 : ty 11 = some ⟨.str, 1, 16, (.str []), []⟩ := rfl
theorem ty_12 : ty 12 = some ⟨(.int .u64), 1, 8, (.int .u64 0), []⟩ := rfl
theorem ty_15 : ty 15 = some ⟨(.ptr 272), 1, 8, .nilptr, []⟩ := rfl
theorem ty_16 : ty 16 = some ⟨(.ptr 275), 1, 8, .nilptr, []⟩ := rfl
theorem ty_17 : ty 17 = some ⟨(.ptr 283), 1, 8, .nilptr, []⟩ := rfl
theorem ty_20 : ty 20 = some ⟨.ifc, 1, 16, .nilifc, []⟩ := rfl
theorem ty_21 : ty 21 = some ⟨(.int .i32), 1, 4, (.int .i32 0), []⟩ := rfl
theorem ty_22 : ty 22 = some ⟨(.slice 52), 1, 24, (.sl .nil []), []⟩ := rfl
theorem ty_23 : ty 23 = some ⟨(.slice 45), 1, 24, (.sl .nil []), []⟩ := rfl
theorem ty_24 : ty 24 = some ⟨(.struct [(0, 22), (1, 23)]), 2, 48, (.agg [(.sl .nil []), (.sl .nil [])]), [3, 3]⟩ := rfl
theorem ty_25 : ty 25 = some ⟨(.struct [(0, 22), (1, 23)]), 2, 48, (.agg [(.sl .nil []), (.sl .nil [])]), [3, 3]⟩ := rfl
theorem ty_26 : ty 26 = some ⟨.func, 1, 8, .nilfn, []⟩ := rfl
theorem ty_27 : ty 27 = some ⟨(.int .i64), 1, 8, (.int .i64 0), []⟩ := rfl
theorem ty_28 : ty 28 = some ⟨(.struct [(0, 27), (1, 3), (2, 3)]), 3, 24, (.agg [(.int .i64 0), (.int .i64 0), (.int .i64 0)]), [0, 0, 0]⟩ := rfl
theorem ty_29 : ty 29 = some ⟨(.struct [(0, 27), (1, 3), (2, 3)]), 3, 24, (.agg [(.int .i64 0), (.int .i64 0), (.int .i64 0)]), [0, 0, 0]⟩ := rfl
theorem ty_31 : ty 31 = some ⟨.func, 1, 8, .nilfn, []⟩ := rfl
theorem ty_32 : ty 32 = some ⟨.func, 1, 8, .nilfn, []⟩ := rfl
theorem ty_33 : ty 33 = some ⟨.func, 1, 8, .nilfn, []⟩ := rfl
theorem ty_34 : ty 34 = some ⟨(.slice 9), 1, 24, (.sl .nil []), []⟩ := rfl
theorem ty_35 : ty 35 = some ⟨(.slice 37), 1, 24, (.sl .nil []), []⟩ := rfl
theorem ty_36 : ty 36 = some ⟨(.struct [(0, 3), (1, 9), (2, 2), (3, 34), (4, 35)]), 5, 80, (.agg [(.int .i64 0), (.str []), (.int .i64 0), (.sl .nil []), (.sl .nil [])]), [0, 1, 0, 3, 3]⟩ := rfl
theorem ty_37 : ty 37 = some ⟨(.struct [(0, 3), (1, 9), (2, 2), (3, 34), (4, 35)]), 5, 80, (.agg [(.int .i64 0), (.str []), (.int .i64 0), (.sl .nil []), (.sl .nil [])]), [0, 1, 0, 3, 3]⟩ := rfl
theorem ty_38 : ty 38 = some ⟨.func, 1, 8, .nilfn, []⟩ := rfl
theorem ty_39 : ty 39 = some ⟨.func, 1, 8, .nilfn, []⟩ := rfl
theorem ty_40 : ty 40 = some ⟨.func, 1, 8, .nilfn, []⟩ := rfl
theorem ty_41 : ty 41 = some ⟨.func, 1, 8, .nilfn, []⟩ := rfl
theorem ty_42 : ty 42 = some ⟨.func, 1, 8, .nilfn, []⟩ := rfl
theorem ty_43 : ty 43 = some ⟨(.slice 50), 1, 24, (.sl .nil []), []⟩ := rfl
theorem ty_44 : ty 44 = some ⟨(.struct [(0, 9), (1, 34), (2, 34), (3, 34), (4, 43)]), 5, 112, (.agg [(.str []), (.sl .nil []), (.sl .nil []), (.sl .nil []), (.sl .nil [])]), [1, 3, 3, 3, 3]⟩ := rfl
theorem ty_45 : ty 45 = some ⟨(.struct [(0, 9), (1, 34), (2, 34), (3, 34), (4, 43)]), 5, 112, (.agg [(.str []), (.sl .nil []), (.sl .nil []), (.sl .nil []), (.sl .nil [])]), [1, 3, 3, 3, 3]⟩ := rfl
theorem ty_46 : ty 46 = some ⟨(.struct [(0, 34), (1, 37)]), 6, 104, (.agg [(.sl .nil []), (.int .i64 0), (.str []), (.int .i64 0), (.sl .nil []), (.sl .nil [])]), [3, 3]⟩ := rfl
theorem ty_47 : ty 47 = some ⟨(.struct [(0, 34), (1, 37)]), 6, 104, (.agg [(.sl .nil []), (.int .i64 0), (.str []), (.int .i64 0), (.sl .nil []), (.sl .nil [])]), [3, 3]⟩ := rfl
theorem ty_48 : ty 48 = some ⟨(.slice 56), 1, 24, (.sl .nil []), []⟩ := rfl
theorem ty_49 : ty 49 = some ⟨(.struct [(0, 47), (6, 48)]), 7, 128, (.agg [(.sl .nil []), (.int .i64 0), (.str []), (.int .i64 0), (.sl .nil []), (.sl .nil []), (.sl .nil [])]), []⟩ := rfl
theorem ty_50 : ty 50 = some ⟨(.struct [(0, 47), (6, 48)]), 7, 128, (.agg [(.sl .nil []), (.int .i64 0), (.str []), (.int .i64 0), (.sl .nil []), (.sl .nil []), (.sl .nil [])]), []⟩ := rfl
theorem ty_51 : ty 51 = some ⟨(.struct [(0, 9), (1, 34)]), 2, 40, (.agg [(.str []), (.sl .nil [])]), [1, 3]⟩ := rfl
theorem ty_52 : ty 52 = some ⟨(.struct [(0, 9), (1, 34)]), 2, 40, (.agg [(.str []), (.sl .nil [])]), [1, 3]⟩ := rfl
theorem ty_53 : ty 53 = some ⟨(.slice 47), 1, 24, (.sl .nil []), []⟩ := rfl
theorem ty_54 : ty 54 = some ⟨(.slice 106), 1, 24, (.sl .nil []), []⟩ := rfl
theorem ty_55 : ty 55 = some ⟨(.struct [(0, 9), (1, 53), (2, 54)]), 3, 64, (.agg [(.str []), (.sl .nil []), (.sl .nil [])]), [1, 3, 3]⟩ := rfl
theorem ty_56 : ty 56 = some ⟨(.struct [(0, 9), (1, 53), (2, 54)]), 3, 64, (.agg [(.str []), (.sl .nil []), (.sl .nil [])]), [1, 3, 3]⟩ := rfl
theorem ty_57 : ty 57 = some ⟨.func, 1, 8, .nilfn, []⟩ := rfl
theorem ty_58 : ty 58 = some ⟨.func, 1, 8, .nilfn, []⟩ := rfl
theorem ty_59 : ty 59 = some ⟨.func, 1, 8, .nilfn, []⟩ := rfl
theorem ty_60 : ty 60 = some ⟨.func, 1, 8, .nilfn, []⟩ := rfl
theorem ty_61 : ty 61 = some ⟨(.ptr 63), 1, 8, .nilptr, []⟩ := rfl
theorem ty_62 : ty 62 = some ⟨(.struct [(0, 22), (1, 3)]), 2, 32, (.agg [(.sl .nil []), (.int .i64 0)]), [3, 0]⟩ := rfl
theorem ty_63 : ty 63 = some ⟨(.struct [(0, 22), (1, 3)]), 2, 32, (.agg [(.sl .nil []), (.int .i64 0)]), [3, 0]⟩ := rfl
theorem ty_64 : ty 64 = some ⟨.func, 1, 8, .nilfn, []⟩ := rfl
theorem ty_65 : ty 65 = some ⟨.func, 1, 8, .nilfn, []⟩ := rfl
theorem ty_66 : ty 66 = some ⟨.func, 1, 8, .nilfn, []⟩ := rfl
theorem ty_67 : ty 67 = some ⟨.func, 1, 8, .nilfn, []⟩ := rfl
theorem ty_69 : ty 69 = some ⟨.func, 1, 8, .nilfn, []⟩ := rfl
theorem ty_70 : ty 70 = some ⟨.func, 1, 8, .nilfn, []⟩ := rfl
theorem ty_71 : ty 71 = some ⟨.func, 1, 8, .nilfn, []⟩ := rfl
theorem ty_72 : ty 72 = some ⟨(.ptr 80), 1, 8, .nilptr, []⟩ := rfl
theorem ty_73 : ty 73 = some ⟨.func, 1, 8, .nilfn, []⟩ := rfl
theorem ty_74 : ty 74 = some ⟨.func, 1, 8, .nilfn, []⟩ := rfl
theorem ty_75 : ty 75 = some ⟨.tup, 1, 0, (.tup [(.int .i64 0), (.bool false)]), []⟩ := rfl
theorem ty_76 : ty 76 = some ⟨.func, 1, 8, .nilfn, []⟩ := rfl
theorem ty_77 : ty 77 = some ⟨(.map 9 108), 1, 8, .nilmap, []⟩ := rfl
theorem ty_78 : ty 78 = some ⟨(.map 9 3), 1, 8, .nilmap, []⟩ := rfl
theorem ty_79 : ty 79 = some ⟨(.struct [(0, 25), (2, 77), (3, 78), (4, 78), (5, 78)]), 6, 80, (.agg [(.sl .nil []), (.sl .nil []), .nilmap, .nilmap, .nilmap, .nilmap]), []⟩ := rfl
theorem ty_80 : ty 80 = some ⟨(.struct [(0, 25), (2, 77), (3, 78), (4, 78), (5, 78)]), 6, 80, (.agg [(.sl .nil []), (.sl .nil []), .nilmap, .nilmap, .nilmap, .nilmap]), []⟩ := rfl
theorem ty_81 : ty 81 = some ⟨.func, 1, 8, .nilfn, []⟩ := rfl
theorem ty_82 : ty 82 = some ⟨.func, 1, 8, .nilfn, []⟩ := rfl
theorem ty_83 : ty 83 = some ⟨.func, 1, 8, .nilfn, []⟩ := rfl
theorem ty_84 : ty 84 = some ⟨.func, 1, 8, .nilfn, []⟩ := rfl
theorem ty_85 : ty 85 = some ⟨.func, 1, 8, .nilfn, []⟩ := rfl
theorem ty_86 : ty 86 = some ⟨(.ptr 122), 1, 8, .nilptr, []⟩ := rfl
theorem ty_87 : ty 87 = some ⟨(.ptr 89), 1, 8, .nilptr, []⟩ := rfl
theorem ty_88 : ty 88 = some ⟨(.struct [(0, 34)]), 1, 24, (.agg [(.sl .nil [])]), [3]⟩ := rfl
theorem ty_89 : ty 89 = some ⟨(.struct [(0, 34)]), 1, 24, (.agg [(.sl .nil [])]), [3]⟩ := rfl
theorem ty_90 : ty 90 = some ⟨.func, 1, 8, .nilfn, []⟩ := rfl
theorem ty_91 : ty 91 = some ⟨.func, 1, 8, .nilfn, []⟩ := rfl
theorem ty_92 : ty 92 = some ⟨.func, 1, 8, .nilfn, []⟩ := rfl
theorem ty_93 : ty 93 = some ⟨(.struct [(0, 4)]), 1, 1, (.agg [(.bool false)]), [2]⟩ := rfl
theorem ty_94 : ty 94 = some ⟨(.struct [(0, 4)]), 1, 1, (.agg [(.bool false)]), [2]⟩ := rfl
theorem ty_95 : ty 95 = some ⟨.func, 1, 8, .nilfn, []⟩ := rfl
theorem ty_96 : ty 96 = some ⟨.func, 1, 8, .nilfn, []⟩ := rfl
theorem ty_97 : ty 97 = some ⟨.func, 1, 8, .nilfn, []⟩ := rfl
theorem ty_98 : ty 98 = some ⟨.func, 1, 8, .nilfn, []⟩ := rfl
theorem ty_99 : ty 99 = some ⟨.func, 1, 8, .nilfn, []⟩ := rfl
theorem ty_100 : ty 100 = some ⟨.func, 1, 8, .nilfn, []⟩ := rfl
theorem ty_101 : ty 101 = some ⟨.func, 1, 8, .nilfn, []⟩ := rfl
theorem ty_102 : ty 102 = some ⟨.func, 1, 8, .nilfn, []⟩ := rfl
theorem ty_103 : ty 103 = some ⟨.func, 1, 8, .nilfn, []⟩ := rfl
theorem ty_104 : ty 104 = some ⟨.func, 1, 8, .nilfn, []⟩ := rfl
theorem ty_105 : ty 105 = some ⟨(.struct [(0, 37), (5, 9)]), 6, 96, (.agg [(.int .i64 0), (.str []), (.int .i64 0), (.sl .nil []), (.sl .nil []), (.str [])]), []⟩ := rfl
theorem ty_106 : ty 106 = some ⟨(.struct [(0, 37), (5, 9)]), 6, 96, (.agg [(.int .i64 0), (.str []), (.int .i64 0), (.sl .nil []), (.sl .nil []), (.str [])]), []⟩ := rfl
theorem ty_107 : ty 107 = some ⟨(.struct [(0, 3), (1, 3)]), 2, 16, (.agg [(.int .i64 0), (.int .i64 0)]), [0, 0]⟩ := rfl
theorem ty_108 : ty 108 = some ⟨(.struct [(0, 3), (1, 3)]), 2, 16, (.agg [(.int .i64 0), (.int .i64 0)]), [0, 0]⟩ := rfl
theorem ty_109 : ty 109 = some ⟨.func, 1, 8, .nilfn, []⟩ := rfl
theorem ty_110 : ty 110 = some ⟨.func, 1, 8, .nilfn, []⟩ := rfl
theorem ty_111 : ty 111 = some ⟨(.ptr 116), 1, 8, .nilptr, []⟩ := rfl
theorem ty_112 : ty 112 = some ⟨.tup, 1, 0, (.tup [.nilptr, (.bool false)]), []⟩ := rfl
theorem ty_113 : ty 113 = some ⟨.func, 1, 8, .nilfn, []⟩ := rfl
theorem ty_114 : ty 114 = some ⟨.func, 1, 8, .nilfn, []⟩ := rfl
theorem ty_115 : ty 115 = some ⟨(.struct [(0, 72), (1, 45), (6, 78), (7, 78)]), 8, 136, (.agg [.nilptr, (.str []), (.sl .nil []), (.sl .nil []), (.sl .nil []), (.sl .nil []), .nilmap, .nilmap]), []⟩ := rfl
theorem ty_116 : ty 116 = some ⟨(.struct [(0, 72), (1, 45), (6, 78), (7, 78)]), 8, 136, (.agg [.nilptr, (.str []), (.sl .nil []), (.sl .nil []), (.sl .nil []), (.sl .nil []), .nilmap, .nilmap]), []⟩ := rfl
theorem ty_117 : ty 117 = some ⟨(.slice 124), 1, 24, (.sl .nil []), []⟩ := rfl
theorem ty_119 : ty 119 = some ⟨.func, 1, 8, .nilfn, []⟩ := rfl
theorem ty_120 : ty 120 = some ⟨.func, 1, 8, .nilfn, []⟩ := rfl
theorem ty_121 : ty 121 = some ⟨(.struct [(0, 117), (1, 3)]), 2, 32, (.agg [(.sl .nil []), (.int .i64 0)]), [3, 0]⟩ := rfl
theorem ty_122 : ty 122 = some ⟨(.struct [(0, 117), (1, 3)]), 2, 32, (.agg [(.sl .nil []), (.int .i64 0)]), [3, 0]⟩ := rfl
theorem ty_123 : ty 123 = some ⟨(.struct [(0, 3), (1, 9), (2, 2), (3, 3), (4, 3)]), 5, 48, (.agg [(.int .i64 0), (.str []), (.int .i64 0), (.int .i64 0), (.int .i64 0)]), [0, 1, 0, 0, 0]⟩ := rfl
theorem ty_124 : ty 124 = some ⟨(.struct [(0, 3), (1, 9), (2, 2), (3, 3), (4, 3)]), 5, 48, (.agg [(.int .i64 0), (.str []), (.int .i64 0), (.int .i64 0), (.int .i64 0)]), [0, 1, 0, 0, 0]⟩ := rfl
theorem ty_125 : ty 125 = some ⟨.func, 1, 8, .nilfn, []⟩ := rfl
theorem ty_126 : ty 126 = some ⟨.func, 1, 8, .nilfn, []⟩ := rfl
theorem ty_127 : ty 127 = some ⟨.func, 1, 8, .nilfn, []⟩ := rfl
theorem ty_128 : ty 128 = some ⟨.func, 1, 8, .nilfn, []⟩ := rfl
theorem ty_129 : ty 129 = some ⟨.func, 1, 8, .nilfn, []⟩ := rfl
theorem ty_130 : ty 130 = some ⟨.func, 1, 8, .nilfn, []⟩ := rfl
theorem ty_131 : ty 131 = some ⟨.func, 1, 8, .nilfn, []⟩ := rfl
theorem ty_132 : ty 132 = some ⟨.func, 1, 8, .nilfn, []⟩ := rfl
theorem ty_133 : ty 133 = some ⟨.func, 1, 8, .nilfn, []⟩ := rfl
theorem ty_134 : ty 134 = some ⟨.func, 1, 8, .nilfn, []⟩ := rfl
theorem ty_135 : ty 135 = some ⟨.func, 1, 8, .nilfn, []⟩ := rfl
theorem ty_136 : ty 136 = some ⟨.func, 1, 8, .nilfn, []⟩ := rfl
theorem ty_137 : ty 137 = some ⟨.func, 1, 8, .nilfn, []⟩ := rfl
theorem ty_138 : ty 138 = some ⟨.func, 1, 8, .nilfn, []⟩ := rfl
theorem ty_139 : ty 139 = some ⟨.func, 1, 8, .nilfn, []⟩ := rfl
theorem ty_140 : ty 140 = some ⟨.func, 1, 8, .nilfn, []⟩ := rfl
theorem ty_141 : ty 141 = some ⟨.func, 1, 8, .nilfn, []⟩ := rfl
theorem ty_142 : ty 142 = some ⟨.func, 1, 8, .nilfn, []⟩ := rfl
theorem ty_143 : ty 143 = some ⟨.func, 1, 8, .nilfn, []⟩ := rfl
theorem ty_144 : ty 144 = some ⟨.tup, 1, 0, (.tup [(.int .i64 0), (.int .i64 0), (.bool false)]), []⟩ := rfl
theorem ty_145 : ty 145 = some ⟨.func, 1, 8, .nilfn, []⟩ := rfl
theorem ty_146 : ty 146 = some ⟨.func, 1, 8, .nilfn, []⟩ := rfl
theorem ty_147 : ty 147 = some ⟨.func, 1, 8, .nilfn, []⟩ := rfl
theorem ty_148 : ty 148 = some ⟨.func, 1, 8, .nilfn, []⟩ := rfl
theorem ty_149 : ty 149 = some ⟨.func, 1, 8, .nilfn, []⟩ := rfl
theorem ty_150 : ty 150 = some ⟨.func, 1, 8, .nilfn, []⟩ := rfl
theorem ty_151 : ty 151 = some ⟨.func, 1, 8, .nilfn, []⟩ := rfl
theorem ty_153 : ty 153 = some ⟨.func, 1, 8, .nilfn, []⟩ := rfl
theorem ty_154 : ty 154 = some ⟨.func, 1, 8, .nilfn, []⟩ := rfl
theorem ty_155 : ty 155 = some ⟨.func, 1, 8, .nilfn, []⟩ := rfl
theorem ty_156 : ty 156 = some ⟨.func, 1, 8, .nilfn, []⟩ := rfl
theorem ty_157 : ty 157 = some ⟨.func, 1, 8, .nilfn, []⟩ := rfl
theorem ty_158 : ty 158 = some ⟨.func, 1, 8, .nilfn, []⟩ := rfl
theorem ty_159 : ty 159 = some ⟨(.ptr 161), 1, 8, .nilptr, []⟩ := rfl
theorem ty_160 : ty 160 = some ⟨(.struct [(0, 9), (1, 3), (2, 3), (3, 3)]), 4, 40, (.agg [(.str []), (.int .i64 0), (.int .i64 0), (.int .i64 0)]), [1, 0, 0, 0]⟩ := rfl
theorem ty_161 : ty 161 = some ⟨(.struct [(0, 9), (1, 3), (2, 3), (3, 3)]), 4, 40, (.agg [(.str []), (.int .i64 0), (.int .i64 0), (.int .i64 0)]), [1, 0, 0, 0]⟩ := rfl
theorem ty_163 : ty 163 = some ⟨.func, 1, 8, .nilfn, []⟩ := rfl
theorem ty_164 : ty 164 = some ⟨.func, 1, 8, .nilfn, []⟩ := rfl
theorem ty_166 : ty 166 = some ⟨.func, 1, 8, .nilfn, []⟩ := rfl
theorem ty_167 : ty 167 = some ⟨.func, 1, 8, .nilfn, []⟩ := rfl
theorem ty_168 : ty 168 = some ⟨.func, 1, 8, .nilfn, []⟩ := rfl
theorem ty_170 : ty 170 = some ⟨.func, 1, 8, .nilfn, []⟩ := rfl
theorem ty_171 : ty 171 = some ⟨(.ptr 174), 1, 8, .nilptr, []⟩ := rfl
theorem ty_172 : ty 172 = some ⟨(.slice 5), 1, 24, (.sl .nil []), []⟩ := rfl
theorem ty_173 : ty 173 = some ⟨(.struct [(0, 171), (1, 172)]), 2, 32, (.agg [.nilptr, (.sl .nil [])]), [3, 3]⟩ := rfl
theorem ty_174 : ty 174 = some ⟨(.struct [(0, 171), (1, 172)]), 2, 32, (.agg [.nilptr, (.sl .nil [])]), [3, 3]⟩ := rfl
theorem ty_175 : ty 175 = some ⟨.ifc, 1, 16, .nilifc, []⟩ := rfl
theorem ty_176 : ty 176 = some ⟨.ifc, 1, 16, .nilifc, []⟩ := rfl
theorem ty_177 : ty 177 = some ⟨.tup, 1, 0, (.tup [(.int .i64 0), .nilifc]), []⟩ := rfl
theorem ty_178 : ty 178 = some ⟨.func, 1, 8, .nilfn, []⟩ := rfl
theorem ty_179 : ty 179 = some ⟨.func, 1, 8, .nilfn, []⟩ := rfl
theorem ty_180 : ty 180 = some ⟨.func, 1, 8, .nilfn, []⟩ := rfl
theorem ty_181 : ty 181 = some ⟨.func, 1, 8, .nilfn, []⟩ := rfl
theorem ty_182 : ty 182 = some ⟨.func, 1, 8, .nilfn, []⟩ := rfl
theorem ty_183 : ty 183 = some ⟨.func, 1, 8, .nilfn, []⟩ := rfl
theorem ty_184 : ty 184 = some ⟨.func, 1, 8, .nilfn, []⟩ := rfl
theorem ty_185 : ty 185 = some ⟨.func, 1, 8, .nilfn, []⟩ := rfl
theorem ty_186 : ty 186 = some ⟨.func, 1, 8, .nilfn, []⟩ := rfl
theorem ty_187 : ty 187 = some ⟨.func, 1, 8, .nilfn, []⟩ := rfl
theorem ty_188 : ty 188 = some ⟨.func, 1, 8, .nilfn, []⟩ := rfl
theorem ty_189 : ty 189 = some ⟨.func, 1, 8, .nilfn, []⟩ := rfl
theorem ty_190 : ty 190 = some ⟨(.slice 34), 1, 24, (.sl .nil []), []⟩ := rfl
theorem ty_191 : ty 191 = some ⟨.func, 1, 8, .nilfn, []⟩ := rfl
theorem ty_192 : ty 192 = some ⟨.func, 1, 8, .nilfn, []⟩ := rfl
theorem ty_193 : ty 193 = some ⟨.func, 1, 8, .nilfn, []⟩ := rfl
theorem ty_194 : ty 194 = some ⟨.func, 1, 8, .nilfn, []⟩ := rfl
theorem ty_195 : ty 195 = some ⟨.func, 1, 8, .nilfn, []⟩ := rfl
theorem ty_196 : ty 196 = some ⟨.func, 1, 8, .nilfn, []⟩ := rfl
theorem ty_197 : ty 197 = some ⟨.func, 1, 8, .nilfn, []⟩ := rfl
theorem ty_198 : ty 198 = some ⟨.func, 1, 8, .nilfn, []⟩ := rfl
theorem ty_199 : ty 199 = some ⟨.func, 1, 8, .nilfn, []⟩ := rfl
theorem ty_200 : ty 200 = some ⟨(.arr 24 5), 24, 24, (.agg [(.int .u8 0), (.int .u8 0), (.int .u8 0), (.int .u8 0), (.int .u8 0), (.int .u8 0), (.int .u8 0), (.int .u8 0), (.int .u8 0), (.int .u8 0), (.int .u8 0), (.int .u8 0), (.int .u8 0), (.int .u8 0), (.int .u8 0), (.int .u8 0), (.int .u8 0), (.int .u8 0), (.int .u8 0), (.int .u8 0), (.int .u8 0), (.int .u8 0), (.int .u8 0), (.int .u8 0)]), []⟩ := rfl
theorem ty_201 : ty 201 = some ⟨(.int .u64), 1, 8, (.int .u64 0), []⟩ := rfl
theorem ty_202 : ty 202 = some ⟨.func, 1, 8, .nilfn, []⟩ := rfl
theorem ty_203 : ty 203 = some ⟨.func, 1, 8, .nilfn, []⟩ := rfl
theorem ty_204 : ty 204 = some ⟨.tup, 1, 0, (.tup [(.sl .nil []), (.str [])]), []⟩ := rfl
theorem ty_205 : ty 205 = some ⟨.func, 1, 8, .nilfn, []⟩ := rfl
theorem ty_206 : ty 206 = some ⟨(.ptr 5), 1, 8, .nilptr, []⟩ := rfl
theorem ty_207 : ty 207 = some ⟨.func, 1, 8, .nilfn, []⟩ := rfl
theorem ty_208 : ty 208 = some ⟨.func, 1, 8, .nilfn, []⟩ := rfl
theorem ty_209 : ty 209 = some ⟨.tup, 1, 0, (.tup [(.str []), (.bool false)]), []⟩ := rfl
theorem ty_210 : ty 210 = some ⟨.func, 1, 8, .nilfn, []⟩ := rfl
theorem ty_211 : ty 211 = some ⟨.func, 1, 8, .nilfn, []⟩ := rfl
theorem ty_212 : ty 212 = some ⟨.func, 1, 8, .nilfn, []⟩ := rfl
theorem ty_213 : ty 213 = some ⟨.func, 1, 8, .nilfn, []⟩ := rfl
theorem ty_214 : ty 214 = some ⟨.func, 1, 8, .nilfn, []⟩ := rfl
theorem ty_215 : ty 215 = some ⟨.func, 1, 8, .nilfn, []⟩ := rfl
theorem ty_216 : ty 216 = some ⟨.func, 1, 8, .nilfn, []⟩ := rfl
theorem ty_217 : ty 217 = some ⟨.func, 1, 8, .nilfn, []⟩ := rfl
theorem ty_218 : ty 218 = some ⟨.func, 1, 8, .nilfn, []⟩ := rfl
theorem ty_219 : ty 219 = some ⟨.func, 1, 8, .nilfn, []⟩ := rfl
theorem ty_220 : ty 220 = some ⟨.func, 1, 8, .nilfn, []⟩ := rfl
theorem ty_221 : ty 221 = some ⟨(.arr 18 9), 18, 288, (.agg [(.str []), (.str []), (.str []), (.str []), (.str []), (.str []), (.str []), (.str []), (.str []), (.str []), (.str []), (.str []), (.str []), (.str []), (.str []), (.str []), (.str []), (.str [])]), []⟩ := rfl
theorem ty_222 : ty 222 = some ⟨.func, 1, 8, .nilfn, []⟩ := rfl
theorem ty_223 : ty 223 = some ⟨.tup, 1, 0, (.tup [(.int .i64 0), .nilifc]), []⟩ := rfl
theorem ty_224 : ty 224 = some ⟨.func, 1, 8, .nilfn, []⟩ := rfl
theorem ty_225 : ty 225 = some ⟨.func, 1, 8, .nilfn, []⟩ := rfl
theorem ty_226 : ty 226 = some ⟨.func, 1, 8, .nilfn, []⟩ := rfl
theorem ty_227 : ty 227 = some ⟨.func, 1, 8, .nilfn, []⟩ := rfl
theorem ty_228 : ty 228 = some ⟨(.arr 20 201), 20, 160, (.agg [(.int .u64 0), (.int .u64 0), (.int .u64 0), (.int .u64 0), (.int .u64 0), (.int .u64 0), (.int .u64 0), (.int .u64 0), (.int .u64 0), (.int .u64 0), (.int .u64 0), (.int .u64 0), (.int .u64 0), (.int .u64 0), (.int .u64 0), (.int .u64 0), (.int .u64 0), (.int .u64 0), (.int .u64 0), (.int .u64 0)]), []⟩ := rfl
theorem ty_229 : ty 229 = some ⟨(.int .u32), 1, 4, (.int .u32 0), []⟩ := rfl
theorem ty_230 : ty 230 = some ⟨(.arr 65 5), 65, 65, (.agg [(.int .u8 0), (.int .u8 0), (.int .u8 0), (.int .u8 0), (.int .u8 0), (.int .u8 0), (.int .u8 0), (.int .u8 0), (.int .u8 0), (.int .u8 0), (.int .u8 0), (.int .u8 0), (.int .u8 0), (.int .u8 0), (.int .u8 0), (.int .u8 0), (.int .u8 0), (.int .u8 0), (.int .u8 0), (.int .u8 0), (.int .u8 0), (.int .u8 0), (.int .u8 0), (.int .u8 0), (.int .u8 0), (.int .u8 0), (.int .u8 0), (.int .u8 0), (.int .u8 0), (.int .u8 0), (.int .u8 0), (.int .u8 0), (.int .u8 0), (.int .u8 0), (.int .u8 0), (.int .u8 0), (.int .u8 0), (.int .u8 0), (.int .u8 0), (.int .u8 0), (.int .u8 0), (.int .u8 0), (.int .u8 0), (.int .u8 0), (.int .u8 0), (.int .u8 0), (.int .u8 0), (.int .u8 0), (.int .u8 0), (.int .u8 0), (.int .u8 0), (.int .u8 0), (.int .u8 0), (.int .u8 0), (.int .u8 0), (.int .u8 0), (.int .u8 0), (.int .u8 0), (.int .u8 0), (.int .u8 0), (.int .u8 0), (.int .u8 0), (.int .u8 0), (.int .u8 0), (.int .u8 0)]), []⟩ := rfl
theorem ty_231 : ty 231 = some ⟨(.int .u64), 1, 8, (.int .u64 0), []⟩ := rfl
theorem ty_232 : ty 232 = some ⟨.func, 1, 8, .nilfn, []⟩ := rfl
theorem ty_234 : ty 234 = some ⟨.func, 1, 8, .nilfn, []⟩ := rfl
theorem ty_235 : ty 235 = some ⟨.func, 1, 8, .nilfn, []⟩ := rfl
theorem ty_236 : ty 236 = some ⟨.func, 1, 8, .nilfn, []⟩ := rfl
theorem ty_237 : ty 237 = some ⟨.func, 1, 8, .nilfn, []⟩ := rfl
theorem ty_238 : ty 238 = some ⟨.func, 1, 8, .nilfn, []⟩ := rfl
theorem ty_239 : ty 239 = some ⟨.func, 1, 8, .nilfn, []⟩ := rfl
theorem ty_240 : ty 240 = some ⟨.func, 1, 8, .nilfn, []⟩ := rfl
theorem ty_241 : ty 241 = some ⟨.func, 1, 8, .nilfn, []⟩ := rfl
theorem ty_242 : ty 242 = some ⟨(.struct [(0, 126), (1, 241), (2, 126), (3, 3), (4, 3), (5, 3), (6, 3), (7, 4)]), 8, 64, (.agg [.nilfn, .nilfn, .nilfn, (.int .i64 0), (.int .i64 0), (.int .i64 0), (.int .i64 0), (.bool false)]), [3, 3, 3, 0, 0, 0, 0, 2]⟩ := rfl
theorem ty_243 : ty 243 = some ⟨(.struct [(0, 126), (1, 241), (2, 126), (3, 3), (4, 3), (5, 3), (6, 3), (7, 4)]), 8, 64, (.agg [.nilfn, .nilfn, .nilfn, (.int .i64 0), (.int .i64 0), (.int .i64 0), (.int .i64 0), (.bool false)]), [3, 3, 3, 0, 0, 0, 0, 2]⟩ := rfl
theorem ty_245 : ty 245 = some ⟨.func, 1, 8, .nilfn, []⟩ := rfl
theorem ty_246 : ty 246 = some ⟨.func, 1, 8, .nilfn, []⟩ := rfl
theorem ty_247 : ty 247 = some ⟨(.int .i64), 1, 8, (.int .i64 0), []⟩ := rfl
theorem ty_248 : ty 248 = some ⟨.tup, 1, 0, (.tup [(.int .u64 0), .nilifc]), []⟩ := rfl
theorem ty_249 : ty 249 = some ⟨.func, 1, 8, .nilfn, []⟩ := rfl
theorem ty_250 : ty 250 = some ⟨(.ptr 260), 1, 8, .nilptr, []⟩ := rfl
theorem ty_251 : ty 251 = some ⟨.func, 1, 8, .nilfn, []⟩ := rfl
theorem ty_252 : ty 252 = some ⟨.func, 1, 8, .nilfn, []⟩ := rfl
theorem ty_253 : ty 253 = some ⟨.func, 1, 8, .nilfn, []⟩ := rfl
theorem ty_254 : ty 254 = some ⟨(.arr 32 5), 32, 32, (.agg [(.int .u8 0), (.int .u8 0), (.int .u8 0), (.int .u8 0), (.int .u8 0), (.int .u8 0), (.int .u8 0), (.int .u8 0), (.int .u8 0), (.int .u8 0), (.int .u8 0), (.int .u8 0), (.int .u8 0), (.int .u8 0), (.int .u8 0), (.int .u8 0), (.int .u8 0), (.int .u8 0), (.int .u8 0), (.int .u8 0), (.int .u8 0), (.int .u8 0), (.int .u8 0), (.int .u8 0), (.int .u8 0), (.int .u8 0), (.int .u8 0), (.int .u8 0), (.int .u8 0), (.int .u8 0), (.int .u8 0), (.int .u8 0)]), []⟩ := rfl
theorem ty_255 : ty 255 = some ⟨(.arr 64 5), 64, 64, (.agg [(.int .u8 0), (.int .u8 0), (.int .u8 0), (.int .u8 0), (.int .u8 0), (.int .u8 0), (.int .u8 0), (.int .u8 0), (.int .u8 0), (.int .u8 0), (.int .u8 0), (.int .u8 0), (.int .u8 0), (.int .u8 0), (.int .u8 0), (.int .u8 0), (.int .u8 0), (.int .u8 0), (.int .u8 0), (.int .u8 0), (.int .u8 0), (.int .u8 0), (.int .u8 0), (.int .u8 0), (.int .u8 0), (.int .u8 0), (.int .u8 0), (.int .u8 0), (.int .u8 0), (.int .u8 0), (.int .u8 0), (.int .u8 0), (.int .u8 0), (.int .u8 0), (.int .u8 0), (.int .u8 0), (.int .u8 0), (.int .u8 0), (.int .u8 0), (.int .u8 0), (.int .u8 0), (.int .u8 0), (.int .u8 0), (.int .u8 0), (.int .u8 0), (.int .u8 0), (.int .u8 0), (.int .u8 0), (.int .u8 0), (.int .u8 0), (.int .u8 0), (.int .u8 0), (.int .u8 0), (.int .u8 0), (.int .u8 0), (.int .u8 0), (.int .u8 0), (.int .u8 0), (.int .u8 0), (.int .u8 0), (.int .u8 0), (.int .u8 0), (.int .u8 0), (.int .u8 0)]), []⟩ := rfl
theorem ty_256 : ty 256 = some ⟨.func, 1, 8, .nilfn, []⟩ := rfl
theorem ty_257 : ty 257 = some ⟨.func, 1, 8, .nilfn, []⟩ := rfl
theorem ty_258 : ty 258 = some ⟨.func, 1, 8, .nilfn, []⟩ := rfl
theorem ty_259 : ty 259 = some ⟨(.struct [(0, 9), (1, 9), (2, 176)]), 3, 48, (.agg [(.str []), (.str []), .nilifc]), []⟩ := rfl
theorem ty_260 : ty 260 = some ⟨(.struct [(0, 9), (1, 9), (2, 176)]), 3, 48, (.agg [(.str []), (.str []), .nilifc]), []⟩ := rfl
theorem ty_261 : ty 261 = some ⟨.func, 1, 8, .nilfn, []⟩ := rfl
theorem ty_262 : ty 262 = some ⟨(.ptr 264), 1, 8, .nilptr, []⟩ := rfl
theorem ty_263 : ty 263 = some ⟨(.struct [(0, 9)]), 1, 16, (.agg [(.str [])]), [1]⟩ := rfl
theorem ty_264 : ty 264 = some ⟨(.struct [(0, 9)]), 1, 16, (.agg [(.str [])]), [1]⟩ := rfl
theorem ty_265 : ty 265 = some ⟨.func, 1, 8, .nilfn, []⟩ := rfl
theorem ty_266 : ty 266 = some ⟨(.slice 269), 1, 24, (.sl .nil []), []⟩ := rfl
theorem ty_267 : ty 267 = some ⟨.func, 1, 8, .nilfn, []⟩ := rfl
theorem ty_268 : ty 268 = some ⟨(.struct [(0, 9), (1, 37)]), 6, 96, (.agg [(.str []), (.int .i64 0), (.str []), (.int .i64 0), (.sl .nil []), (.sl .nil [])]), [1, 3]⟩ := rfl
theorem ty_269 : ty 269 = some ⟨(.struct [(0, 9), (1, 37)]), 6, 96, (.agg [(.str []), (.int .i64 0), (.str []), (.int .i64 0), (.sl .nil []), (.sl .nil [])]), [1, 3]⟩ := rfl
theorem ty_270 : ty 270 = some ⟨.func, 1, 8, .nilfn, []⟩ := rfl
theorem ty_273 : ty 273 = some ⟨(.arr 0 16), 0, 0, (.agg []), []⟩ := rfl
theorem ty_274 : ty 274 = some ⟨(.struct [(0, 273)]), 0, 0, (.agg []), []⟩ := rfl
theorem ty_275 : ty 275 = some ⟨(.struct [(0, 273)]), 0, 0, (.agg []), []⟩ := rfl
theorem ty_276 : ty 276 = some ⟨.func, 1, 8, .nilfn, []⟩ := rfl
theorem ty_277 : ty 277 = some ⟨(.int .u8), 1, 1, (.int .u8 0), []⟩ := rfl
theorem ty_278 : ty 278 = some ⟨(.int .u8), 1, 1, (.int .u8 0), []⟩ := rfl
theorem ty_279 : ty 279 = some ⟨.func, 1, 8, .nilfn, []⟩ := rfl
theorem ty_280 : ty 280 = some ⟨(.int .i32), 1, 4, (.int .i32 0), []⟩ := rfl
theorem ty_281 : ty 281 = some ⟨(.int .i32), 1, 4, (.int .i32 0), []⟩ := rfl
attribute [go_sem] ty_0 ty_1 ty_2 ty_3 ty_4 ty_5 ty_6 ty_7 ty_8 ty_9 ty_10 ty_11 ty_12 ty_15 ty_16 ty_17 ty_20 ty_21 ty_22 ty_23 ty_24 ty_25 ty_26 ty_27 ty_28 ty_29 ty_31 ty_32 ty_33 ty_34 ty_35 ty_36 ty_37 ty_38 ty_39 ty_40 ty_41 ty_42 ty_43 ty_44 ty_45 ty_46 ty_47 ty_48 ty_49 ty_50 ty_51 ty_52 ty_53 ty_54 ty_55 ty_56 ty_57 ty_58 ty_59 ty_60 ty_61 ty_62 ty_63 ty_64 ty_65 ty_66 ty_67 ty_69 ty_70 ty_71 ty_72 ty_73 ty_74 ty_75 ty_76 ty_77 ty_78 ty_79 ty_80 ty_81 ty_82 ty_83 ty_84 ty_85 ty_86 ty_87 ty_88 ty_89 ty_90 ty_91 ty_92 ty_93 ty_94 ty_95 ty_96 ty_97 ty_98 ty_99 ty_100 ty_101 ty_102 ty_103 ty_104 ty_105 ty_106 ty_107 ty_108 ty_109 ty_110 ty_111 ty_112 ty_113 ty_114 ty_115 ty_116 ty_117 ty_119 ty_120 ty_121 ty_122 ty_123 ty_124 ty_125 ty_126 ty_127 ty_128 ty_129 ty_130 ty_131 ty_132 ty_133 ty_134 ty_135 ty_136 ty_137 ty_138 ty_139 ty_140 ty_141 ty_142 ty_143 ty_144 ty_145 ty_146 ty_147 ty_148 ty_149 ty_150 ty_151 ty_153 ty_154 ty_155 ty_156 ty_157 ty_158 ty_159 ty_160 ty_161 ty_163 ty_164 ty_166 ty_167 ty_168 ty_170 ty_171 ty_172 ty_173 ty_174 ty_175 ty_176 ty_177 ty_178 ty_179 ty_180 ty_181 ty_182 ty_183 ty_184 ty_185 ty_186 ty_187 ty_188 ty_189 ty_190 ty_191 ty_192 ty_193 ty_194 ty_195 ty_196 ty_197 ty_198 ty_199 ty_200 ty_201 ty_202 ty_203 ty_204 ty_205 ty_206 ty_207 ty_208 ty_209 ty_210 ty_211 ty_212 ty_213 ty_214 ty_215 ty_216 ty_217 ty_218 ty_219 ty_220 ty_221 ty_222 ty_223 ty_224 ty_225 ty_226 ty_227 ty_228 ty_229 ty_230 ty_231 ty_232 ty_234 ty_235 ty_236 ty_237 ty_238 ty_239 ty_240 ty_241 ty_242 ty_243 ty_245 ty_246 ty_247 ty_248 ty_249 ty_250 ty_251 ty_252 ty_253 ty_254 ty_255 ty_256 ty_257 ty_258 ty_259 ty_260 ty_261 ty_262 ty_263 ty_264 ty_265 ty_266 ty_267 ty_268 ty_269 ty_270 ty_273 ty_274 ty_275 ty_276 ty_277 ty_278 ty_279 ty_280 ty_281
theorem mixed : Go.Proofs.Tryz.prog.follows .mixedOrders = true := by kernel_rfl
theorem stat_fn {f : Nat} {fn : Func} {code : Code} (hf : fnOf f = some fn) (hc : fn.body = some code) (hlt : f < 282) : statCode dstatic fn.ntmps code = true ∧ (fn.name == "runtime.NumGoroutine") = false := by
  have h := List.all_eq_true.1 stat_all f (List.mem_range.2 hlt)
  unfold stat1 at h
  rw [hf] at h
  simp only [hc, Bool.and_eq_true, Bool.not_eq_true'] at h
  exact h
noncomputable abbrev PG : Program := Go.Proofs.Tryz.prog
/-- into a function's body -/
theorem enter {f : Nat} {fn : Func} (hf : fnOf f = some fn) (hb : fn.body = some (bodyOf fn)) (hlt : f < 282) {args : List AV} (hl : args.length ≤ fn.ntmps) {s s' : St} {v : AV} (h : V PG s.n fn.ntmps (bodyOf fn) (EndQ ty fn.results.toList s v s') (initF args 0) s) : Det PG f args s v s' :=
  Det_of_V ty_ok (fn_ok f fn hf) (stat_fn hf hb hlt).2 hb (stat_fn hf hb hlt).1 hl h
theorem enterP {f : Nat} {fn : Func} (hf : fnOf f = some fn) (hb : fn.body = some (bodyOf fn)) (hlt : f < 282) {args : List AV} (hl : args.length ≤ fn.ntmps) {v : AV} (ha : ∀ a ∈ args, Bel 0 a) (hv : Bel 0 v) (h : V PG 0 fn.ntmps (bodyOf fn) (EndQ ty fn.results.toList ⟨0, [], 0⟩ v ⟨0, [], 0⟩) (initF args 0) ⟨0, [], 0⟩) : Pure PG f args v :=
  pure_of ha hv (enter hf hb hlt hl h)
theorem goR {nb id : Nat} {ops : Array Oper} {m : Nat} {Q : QT} {t : Sl} {s : St} (h : PRP PG m ops Q (pops ty ops ops.toList t s)) : V PG nb m (.region id ops false) Q t s := V_region ty_ok h
theorem goW {ops : Array Oper} {l : List Oper} {m : Nat} {Q : QT} {t : Sl} {s : St} (h : PRP PG m ops Q (pops ty ops l t s)) : WL PG m ops Q l t s := WL_go ty_ok h
theorem goD {nb id : Nat} {ops : Array Oper} {m : Nat} {Q : QT} {t : Sl} {s s0 : St} (hpre : preAlloc ty ops.toList s = some s0) (h : DRP PG ty m ops Q t s s0 (dpops ty ops ops.toList 0 s.n t s0 [s0] [])) : V PG nb m (.region id ops true) Q t s := V_draw ty_ok mixed hpre h
theorem goDW {ops : Array Oper} {l : List Oper} {m : Nat} {Q : QT} {t0 t : Sl} {s s0 : St} {j next : Nat} {cur : St} {sts : List St} {ld : List Ld} (h : DRP PG ty m ops Q t0 s s0 (dpops ty ops l j next t cur sts ld)) : DWL PG ty m ops Q t0 s s0 l j next t cur sts ld := DWL_go ty_ok h
end Go.Sy
