/- The hints of the evaluator for this program, by program (wip/tr/genH.py). -/
import Derived.Test.YtcdnmiaelaombaaGreatLmAC
import Derived.Test.YtcdnmiaelaombaaGreatChecked
set_option linter.unusedVariables false
set_option linter.unusedSimpArgs false
set_option linter.unnecessarySimpa false
set_option linter.all false
namespace Go.Proofs.YtcdnmiaelaombaaGreat.K
open Go.Lm
def h3 : FH := { params := [.agg [.slc, .slc, .slc, .slc, .slc], .plain], res := .plain, join := [(3, [18]), (4, [4]), (5, [4])] }
def h4 : FH := { params := [.agg [.slc, .slc, .slc, .slc, .slc]], res := .plain, keep := [[(1, .rp 5), (3, .plain)], [(1, .rp 5), (3, .plain), (4, .own 1), (5, .plain)]], join := [(1, [13]), (10, [70]), (12, [80]), (14, [96])] }
def h5 : FH := { params := [.agg [.slc, .slc, .slc, .slc, .slc], .plain], res := .plain, keep := [[(1, .plain), (2, .rp 5), (5, .plain), (6, .plain), (7, .plain)], [(1, .plain), (2, .rp 5), (5, .plain), (6, .plain), (7, .plain), (8, .plain)]], join := [(1, [23]), (13, [71]), (15, [4])] }
def h6 : FH := { params := [.agg [.slc, .slc, .slc, .slc, .slc], .plain], res := .plain, keep := [[(1, .plain), (2, .rp 5), (5, .slc), (6, .plain), (7, .plain)]], join := [(1, [22]), (3, [39]), (10, [66]), (12, [81]), (14, [4])] }
def h7 : FH := { params := [.agg [.slc, .slc, .slc, .slc, .slc], .plain], res := .plain, join := [(1, [21]), (8, [4]), (9, [4])] }
def h8 : FH := { params := [.agg [.slc, .slc, .slc, .slc, .slc]], res := .plain, join := [(1, [2])] }
def h9 : FH := { params := [], res := .plain, join := [(3, [0])] }
def h10 : FH := { params := [.agg [.slc, .slc, .slc, .slc, .slc]], res := .plain }
def h11 : FH := { params := [.slc, .plain], res := .plain, join := [(1, [4])] }
def h12 : FH := { params := [.agg [.slc, .slc, .slc, .slc, .slc], .plain], res := .plain }
def h13 : FH := { params := [.agg [.slc, .slc, .slc, .slc, .slc], .plain], res := .plain }
def h14 : FH := { params := [.agg [.slc, .slc, .slc, .slc, .slc], .plain], res := .plain }
def h15 : FH := { params := [.agg [.slc, .slc, .slc, .slc, .slc], .plain], res := .plain }
def h16 : FH := { params := [.agg [.slc, .slc, .slc, .slc, .slc], .plain], res := .plain, keep := [[(1, .plain), (2, .rp 5), (7, .slc), (8, .plain)]] }
def h17 : FH := { params := [.agg [.slc, .slc, .slc, .slc, .slc], .plain], res := .plain, keep := [[(2, .rp 5), (5, .slc), (6, .plain)]] }
def h18 : FH := { params := [.agg [.slc, .slc, .slc, .slc, .slc], .plain], res := .plain, join := [(2, [4])] }
def h19 : FH := { params := [.slc, .plain, .plain], res := .plain }
def h20 : FH := { params := [.slc, .plain], res := .plain, join := [(1, [4])] }
def h21 : FH := { params := [.slc, .plain], res := .slc, keep := [[(0, .slc), (1, .plain), (5, .own 1), (6, .plain)]] }
def h22 : FH := { params := [.slc, .plain, .plain], res := .plain }
def h23 : FH := { params := [.slc], res := .plain, keep := [[(0, .slc), (3, .plain)]], join := [(2, [12]), (4, [30])] }
def h24 : FH := { params := [.slc], res := .plain, keep := [[(0, .slc), (3, .plain)], [(0, .slc), (4, .plain)]], join := [(1, [12]), (6, [45])] }
def h25 : FH := { params := [.agg [.slc, .slc, .slc, .slc, .slc]], res := .plain, keep := [[(1, .rp 5), (3, .slc), (4, .plain)], [(1, .rp 5), (3, .slc), (5, .plain)], [(1, .rp 5), (3, .slc), (7, .slc), (8, .plain)]], join := [(14, [63]), (22, [2])] }
def h26 : FH := { params := [.agg [.slc, .slc, .slc, .slc, .slc], .plain, .plain], res := .plain, join := [(1, [20])] }
def h27 : FH := { params := [.agg [.slc, .slc, .slc, .slc, .slc, .plain], .plain], res := .plain }
def h28 : FH := { params := [.agg [.slc, .slc, .slc, .slc, .slc, .plain], .plain], res := .plain }
def h29 : FH := { params := [.agg [.slc, .slc, .slc, .slc, .slc, .plain], .plain], res := .plain }
def h30 : FH := { params := [.agg [.slc, .slc, .slc, .slc, .slc], .plain, .plain], res := .plain, join := [(1, [18])] }
def h31 : FH := { params := [.slc, .plain], res := .tup [.plain, .plain] }
def h32 : FH := { params := [.slc, .plain], res := .plain, join := [(1, [4])] }
def h33 : FH := { params := [.agg [.slc, .slc, .slc, .slc, .slc], .plain], res := .plain, keep := [[(1, .plain), (2, .rp 5), (5, .slc), (6, .plain)]] }
def h34 : FH := { params := [.agg [.slc, .slc, .slc, .slc, .slc], .plain], res := .plain, keep := [[(2, .rp 5), (5, .slc), (6, .plain), (8, .plain)]] }
def h35 : FH := { params := [.slc, .plain], res := .plain, bor := true }
def h36 : FH := { params := [.slc, .plain], res := .slc, keep := [[(0, .slc), (1, .plain), (5, .own 1)]] }
def h37 : FH := { params := [.slc, .plain, .plain], res := .tup [.plain, .plain], keep := [[(0, .slc), (1, .plain), (2, .plain), (8, .plain)]] }
def h38 : FH := { params := [.agg [.plain, .plain, .plain, .slc, .plain, .plain, .slc], .plain], res := .plain, join := [(1, [20]), (4, [4])] }
def h39 : FH := { params := [.agg [.plain, .plain, .plain, .slc, .plain, .plain, .slc]], res := .plain, keep := [[(1, .rp 7), (3, .plain)]], join := [(4, [39])] }
def h40 : FH := { params := [.slc, .plain], res := .plain, keep := [[(0, .slc), (1, .plain), (5, .rp 7), (6, .plain)]], join := [(6, [34]), (8, [57]), (10, [66]), (14, [4])] }
def h41 : FH := { params := [.slc, .plain], res := .plain, join := [(3, [4]), (8, [4])] }
def h42 : FH := { params := [.slc, .plain], res := .plain, keep := [[(0, .slc), (1, .plain), (5, .plain)]] }
def h43 : FH := { params := [.agg [.slc, .slc, .slc, .slc, .slc]], res := .slc }
def h44 : FH := { params := [.slc, .plain], res := .plain, join := [(1, [4])] }
def h45 : FH := { params := [.slc, .plain], res := .plain, join := [(1, [4])] }
def h46 : FH := { params := [.slc], res := .plain, keep := [[(0, .slc), (3, .plain)]] }
def h47 : FH := { params := [.agg [.slc, .slc, .slc, .slc, .slc]], res := .plain }
def h48 : FH := { params := [.agg [.slc, .slc, .slc, .slc, .slc], .plain], res := .plain, join := [(2, [4])] }
def h49 : FH := { params := [.slc, .plain], res := .plain, join := [(2, [4])] }
def h50 : FH := { params := [.agg [.slc, .slc, .slc, .slc, .slc, .plain], .plain], res := .plain }
def h51 : FH := { params := [.iter], res := .plain, keep := [[(2, .boxs [.plain])]] }
def h52 : FH := { params := [.slc, .plain], res := .iter }
def h53 : FH := { params := [.slc, .plain], res := .slc }
def h54 : FH := { params := [.plain, .rp 6], res := .plain }
def h55 : FH := { params := [.slc, .plain, .plain], res := .plain }
def h56 : FH := { params := [.agg [.slc, .slc, .slc, .slc, .slc], .plain], res := .plain, join := [(2, [4])] }
def h57 : FH := { params := [.slc, .plain], res := .slc, keep := [[(0, .slc), (1, .plain), (5, .own 1)]] }
def h58 : FH := { params := [.agg [.slc, .slc, .slc, .slc, .slc], .plain], res := .plain, join := [(3, [18]), (7, [4])] }
def h59 : FH := { params := [.slc, .plain], res := .plain }
def h60 : FH := { params := [.agg [.slc, .slc, .slc, .slc, .slc], .plain], res := .plain, join := [(2, [4])] }
def h61 : FH := { params := [.slc, .plain], res := .plain, keep := [[(0, .slc), (1, .plain), (5, .plain)]] }
def h62 : FH := { params := [.agg [.slc, .slc, .slc, .slc, .slc]], res := .plain, keep := [[(1, .rp 5), (3, .plain)]] }
def h63 : FH := { params := [.slc, .plain], res := .plain }
def h64 : FH := { params := [.plain, .agg [.plain, .plain]], res := .plain, join := [(1, [20]), (4, [4]), (5, [4])] }
def h65 : FH := { params := [.slc, .plain], res := .plain, keep := [[(0, .slc), (1, .plain), (5, .plain), (6, .plain)]] }
def h66 : FH := { params := [.slc], res := .slc, keep := [[(0, .slc), (3, .own 1), (4, .plain)]] }
def h67 : FH := { params := [.slc, .plain], res := .plain }
def h68 : FH := { params := [.slc], res := .plain }
def h69 : FH := { params := [.agg [.slc, .slc, .slc, .slc, .slc]], res := .plain, join := [(6, [2])] }
def h70 : FH := { params := [.slc, .plain], res := .tup [.agg [.slc, .slc, .slc, .slc, .slc, .plain], .plain] }
def h71 : FH := { params := [.agg [.slc, .slc, .slc, .slc, .slc, .plain]], res := .plain }
def h72 : FH := { params := [.agg [.slc, .slc, .slc, .slc, .slc, .plain]], res := .plain, join := [(2, [2])] }
def h73 : FH := { params := [.slc], res := .own 1 }
def h74 : FH := { params := [.plain, .rp 6, .rp 1], res := .plain, join := [(1, [5])] }
def h75 : FH := { params := [.agg [.slc, .slc, .slc, .slc, .slc], .plain], res := .plain, join := [(2, [4])] }
def h76 : FH := { params := [.yld, .rp 1, .rp 1], res := .scalar, keep := [[(0, .yld), (2, .rp 1), (6, .slc), (7, .plain), (8, .plain)]] }
def h77 : FH := { params := [.slc, .slc], res := .plain, join := [(1, [4])] }
def h78 : FH := { params := [.iter], res := .own 1 }
def h79 : FH := { params := [.slc, .plain], res := .iter }
def h80 : FH := { params := [.slc, .plain, .plain], res := .tup [.plain, .plain] }
def h81 : FH := { params := [.slc, .plain], res := .plain, keep := [[(0, .slc), (1, .plain), (5, .plain)]] }
def h82 : FH := { params := [.slc, .plain, .plain], res := .plain }
def h83 : FH := { params := [.plain, .plain], res := .plain, join := [(3, [4]), (5, [4]), (7, [4]), (9, [4])] }
def h84 : FH := { params := [.slc], res := .plain, keep := [[(0, .slc), (10, .plain), (11, .plain)], [(0, .slc), (20, .plain), (21, .plain)]] }
def h85 : FH := { params := [.slc, .plain], res := .tup [.slc, .slc], keep := [[(1, .plain), (4, .own 1), (5, .own 1), (8, .slc), (9, .plain), (10, .plain)]] }
def h86 : FH := { params := [.slc], res := .slc, keep := [[(0, .slc), (3, .plain), (9, .slc), (10, .plain), (11, .plain)], [(6, .own 1), (25, .slc), (26, .plain), (27, .plain)]] }
def h87 : FH := { params := [.plain, .rp 1], res := .plain }
def h88 : FH := { params := [.slc, .plain], res := .plain, join := [(1, [4])] }
def h89 : FH := { params := [.slc, .plain], res := .tup [.own 2, .slc], keep := [[(1, .plain), (4, .own 2), (5, .own 2), (8, .slc), (9, .plain), (10, .plain)]] }
def h90 : FH := { params := [.agg [.plain, .plain], .rp 1], res := .plain, join := [(1, [3])] }
def h91 : FH := { params := [.slc, .plain], res := .plain, join := [(1, [4])] }
def h92 : FH := { params := [.slc, .plain], res := .plain, join := [(1, [4])] }
def h93 : FH := { params := [.agg [.slc, .slc, .slc, .slc, .slc]], res := .slc }
def h94 : FH := { params := [.iter], res := .slc }
def h95 : FH := { params := [.slc], res := .iter }
def h96 : FH := { params := [.slc], res := .plain }
def h97 : FH := { params := [.slc, .slc], res := .plain, keep := [[(0, .slc), (1, .slc), (12, .plain), (13, .plain)]] }
def h98 : FH := { params := [.slc, .plain], res := .plain }
def h99 : FH := { params := [.agg [.slc, .slc, .slc, .slc, .slc, .plain]], res := .plain }
def h100 : FH := { params := [.agg [.slc, .slc, .slc, .slc, .slc, .plain]], res := .plain, join := [(1, [2])] }
def h101 : FH := { params := [.agg [.slc, .slc, .slc, .slc, .slc, .plain]], res := .plain }
def h102 : FH := { params := [.agg [.slc, .slc, .slc, .slc, .slc, .plain]], res := .plain }
def h103 : FH := { params := [.plain], res := .plain }
def h104 : FH := { params := [.slc, .plain], res := .tup [.plain, .plain] }
def h105 : FH := { params := [.slc, .plain], res := .plain }
def h106 : FH := { params := [.plain, .rp 1], res := .plain, join := [(1, [3])] }
def h107 : FH := { params := [.own 1, .iter], res := .own 1, keep := [[(2, .boxs [.own 1])]] }
def h108 : FH := { params := [.yld, .rp 1, .rp 1], res := .scalar }
def h109 : FH := { params := [.slc, .plain, .yld], res := .scalar, keep := [[(0, .slc), (2, .yld), (17, .slc), (18, .plain), (19, .plain)]] }
def h110 : FH := { params := [.slc, .plain], res := .plain, join := [(1, [4])] }
def h111 : FH := { params := [.agg [.plain, .plain, .plain, .slc, .plain, .plain, .slc], .plain], res := .plain }
def h112 : FH := { params := [.slc, .plain], res := .slc }
def h113 : FH := { params := [.plain, .plain, .plain], res := .plain, join := [(1, [6])] }
def h114 : FH := { params := [.slc, .plain], res := .plain, join := [(2, [10]), (4, [23]), (6, [43]), (8, [53]), (10, [4])] }
def h115 : FH := { params := [.slc, .plain], res := .plain, keep := [[(0, .slc), (5, .boxs [.plain])]] }
def h116 : FH := { params := [.plain, .plain], res := .own 1 }
def h117 : FH := { params := [.slc, .plain], res := .plain, join := [(1, [4])] }
def h118 : FH := { params := [.slc, .plain], res := .slc, keep := [[(1, .plain), (5, .own 1), (8, .slc), (9, .plain), (10, .plain)]] }
def h119 : FH := { params := [.agg [.plain, .plain]], res := .plain }
def h120 : FH := { params := [.own 1], res := .tup [], back := true }
def h121 : FH := { params := [.yld, .rp 1], res := .scalar, keep := [[(0, .yld), (5, .slc), (6, .plain), (7, .plain)]] }
def h123 : FH := { params := [.slc, .plain], res := .plain, keep := [[(0, .slc), (1, .plain), (7, .plain), (8, .plain)]] }
def h124 : FH := { params := [.agg [.slc, .slc, .slc, .slc, .slc, .plain]], res := .tup [.plain, .plain] }
def h125 : FH := { params := [.agg [.slc, .slc, .slc, .slc, .slc, .plain], .plain], res := .plain, join := [(2, [4])] }
def h126 : FH := { params := [.agg [.slc, .slc, .slc, .slc, .slc], .plain], res := .plain, join := [(1, [15])] }
def h127 : FH := { params := [.agg [.slc, .slc, .slc, .slc, .slc], .plain], res := .plain, join := [(1, [4])] }
def h128 : FH := { params := [.slc, .plain], res := .plain, bor := true, keep := [[(0, .slc), (1, .plain), (7, .plain), (8, .plain)]] }
def h129 : FH := { params := [.slc, .plain], res := .plain, keep := [[(0, .slc), (1, .plain), (7, .plain), (8, .plain)]] }
def h130 : FH := { params := [.agg [.plain, .plain], .rp 1], res := .plain }
def h131 : FH := { params := [.slc, .plain], res := .slc, keep := [[(0, .slc), (1, .plain), (5, .own 1), (6, .plain), (7, .plain)]] }
def h132 : FH := { params := [.slc, .plain], res := .plain }
def h133 : FH := { params := [.slc, .plain], res := .plain, join := [(2, [4])] }
def h134 : FH := { params := [.agg [.plain, .plain, .plain, .slc, .plain, .plain, .slc]], res := .plain, keep := [[(1, .rp 7), (3, .plain), (8, .slc), (9, .plain), (10, .plain)]], join := [(5, [6]), (6, [42]), (10, [2])] }
def h135 : FH := { params := [.slc, .plain], res := .plain, join := [(3, [4]), (8, [4])] }
def h136 : FH := { params := [.plain, .rp 1, .rp 1], res := .plain }
def h137 : FH := { params := [.slc, .plain, .plain], res := .plain, join := [(1, [6])] }
def h138 : FH := { params := [.slc, .plain], res := .iter }
def h139 : FH := { params := [.slc, .plain], res := .plain }
def h142 : FH := { params := [.agg [.slc, .slc, .slc, .slc, .slc], .plain], res := .plain, join := [(1, [4])] }
def h143 : FH := { params := [.slc, .plain], res := .plain }
def h144 : FH := { params := [.slc, .plain], res := .slc }
def h145 : FH := { params := [.plain, .rp 5], res := .plain }
def h146 : FH := { params := [.agg [.slc, .slc, .slc, .slc, .slc], .plain], res := .plain, join := [(4, [12]), (6, [23]), (8, [4])] }
def h147 : FH := { params := [.agg [.slc, .slc, .slc, .slc, .slc], .plain], res := .plain, join := [(1, [4])] }
def h148 : FH := { params := [.agg [.slc, .slc, .slc, .slc, .slc], .plain], res := .plain, join := [(1, [13]), (4, [4])] }
def h149 : FH := { params := [.agg [.slc, .slc, .slc, .slc, .slc], .plain], res := .plain, keep := [[(1, .plain), (2, .rp 5), (5, .plain), (6, .plain)], [(2, .rp 5), (5, .plain), (6, .plain), (14, .slc), (15, .plain), (16, .plain)]], join := [(7, [29])] }
def h150 : FH := { params := [.slc, .plain], res := .plain, join := [(1, [4])] }
def h151 : FH := { params := [.slc, .plain], res := .plain }
def h152 : FH := { params := [.slc, .plain], res := .plain, keep := [[(0, .slc), (1, .plain), (7, .slc), (10, .plain)]], join := [(10, [42])] }
def h153 : FH := { params := [.slc, .plain], res := .plain, keep := [[(0, .slc), (1, .plain), (7, .plain), (8, .plain)]] }
def h154 : FH := { params := [.slc, .plain], res := .plain }
def h155 : FH := { params := [.agg [.plain, .plain]], res := .plain }
def h156 : FH := { params := [.yld, .rp 1, .box 1], res := .scalar, keep := [[(0, .yld), (1, .rp 1), (2, .box 1), (6, .plain), (7, .plain)]] }
def h157 : FH := { params := [.slc, .plain, .plain], res := .plain }
def h169 : FH := { params := [.slc, .plain, .plain], res := .plain }
def h170 : FH := { params := [.slc, .plain], res := .plain }
def h171 : FH := { params := [.slc, .plain], res := .iter }
def h172 : FH := { params := [.agg [.plain, .plain], .rp 1], res := .plain }
def h173 : FH := { params := [.slc, .plain], res := .plain }
def h174 : FH := { params := [.agg [.slc, .slc, .slc, .slc, .slc]], res := .plain, keep := [[(1, .rp 5), (2, .boxs [.plain])]] }
def h175 : FH := { params := [.slc, .plain], res := .slc, keep := [[(0, .slc), (1, .plain), (5, .own 1)]] }
def h176 : FH := { params := [.slc, .plain], res := .slc, keep := [[(0, .slc), (5, .own 1), (6, .slc), (7, .plain)]] }
def h177 : FH := { params := [.slc, .plain], res := .plain }
def h178 : FH := { params := [.slc, .plain], res := .slc, keep := [[(0, .slc), (1, .plain), (5, .own 1)]] }
def h185 : FH := { params := [.slc, .plain], res := .plain, keep := [[(5, .boxs [.plain])]] }
def h186 : FH := { params := [.yld, .box 1, .rp 1], res := .scalar, keep := [[(0, .yld), (1, .box 1), (2, .rp 1)]] }
def h187 : FH := { params := [.slc, .plain], res := .plain, join := [(4, [21])] }
def h188 : FH := { params := [.slc, .plain], res := .plain, keep := [[(0, .slc), (1, .plain), (7, .plain), (8, .plain)]] }
def h189 : FH := { params := [.slc], res := .iter }
def h190 : FH := { params := [.slc, .plain], res := .slc }
def h191 : FH := { params := [.slc, .plain], res := .plain }
def h193 : FH := { params := [.slc, .plain], res := .iter }
def h194 : FH := { params := [.slc, .plain], res := .plain }
def h195 : FH := { params := [.slc, .plain], res := .slc }
def h196 : FH := { params := [.yld, .rp 1], res := .scalar, keep := [[(0, .yld), (1, .rp 1), (3, .plain)]] }
def h197 : FH := { params := [.yld, .box 1, .rp 1], res := .scalar, keep := [[(0, .yld), (1, .box 1), (2, .rp 1)]] }
def h198 : FH := { params := [.slc, .plain], res := .plain, keep := [[(2, .rp 1), (4, .boxs [.plain]), (6, .rp 1), (7, .rp 1), (8, .rp 1), (9, .rp 1)]], join := [(9, [51])] }
def h199 : FH := { params := [.slc, .plain], res := .slc, join := [(1, [14])] }
def h200 : FH := { params := [.slc, .plain], res := .plain, join := [(1, [16])] }
def h201 : FH := { params := [.slc, .plain], res := .plain }
def h202 : FH := { params := [.slc, .plain], res := .iter }
def h203 : FH := { params := [.slc, .plain], res := .plain }
def h204 : FH := { params := [.slc, .plain], res := .plain, join := [(1, [4])] }
def h205 : FH := { params := [.own 1, .plain], res := .own 1, keep := [[(0, .own 1), (1, .plain), (5, .plain), (6, .plain)]] }
def h206 : FH := { params := [.plain, .rp 1, .rp 1], res := .plain }
def h207 : FH := { params := [.yld, .rp 1, .rp 1], res := .scalar, keep := [[(0, .yld), (1, .rp 1), (8, .slc), (9, .plain), (10, .plain)]] }
noncomputable abbrev P : Go.Program := Go.Proofs.Tryz.prog
/-- What a cache is to hold, of each node: what the document answers. -/
def gsV (T : Nat → List SVal → Option Res) (a b c d e : SVal) : List Int := (List.range a.xs.length).map fun (i : Nat) => match T 16 [.agg [weak a, weak b, weak c, weak d, weak e], .int .i64 (i : Int)] with
  | some r => (match r.r with | .int _ x => x | _ => -1)
  | none => -1
def hG : FH := { guess := fun T iv => match iv with | .agg [.v a, .v b, .v c, .v d, .v e] => gsV T a b c d e | _ => [] }
def H (f : Nat) : FH := bif Nat.beq f 0 then hG else (bif Nat.blt f 95 then (bif Nat.blt f 49 then (bif Nat.blt f 26 then (bif Nat.blt f 14 then (bif Nat.blt f 8 then (bif Nat.blt f 5 then (bif Nat.blt f 4 then (bif Nat.beq f 3 then h3 else default) else (bif Nat.beq f 4 then h4 else default)) else (bif Nat.blt f 6 then (bif Nat.beq f 5 then h5 else default) else (bif Nat.blt f 7 then (bif Nat.beq f 6 then h6 else default) else (bif Nat.beq f 7 then h7 else default)))) else (bif Nat.blt f 11 then (bif Nat.blt f 9 then (bif Nat.beq f 8 then h8 else default) else (bif Nat.blt f 10 then (bif Nat.beq f 9 then h9 else default) else (bif Nat.beq f 10 then h10 else default))) else (bif Nat.blt f 12 then (bif Nat.beq f 11 then h11 else default) else (bif Nat.blt f 13 then (bif Nat.beq f 12 then h12 else default) else (bif Nat.beq f 13 then h13 else default))))) else (bif Nat.blt f 20 then (bif Nat.blt f 17 then (bif Nat.blt f 15 then (bif Nat.beq f 14 then h14 else default) else (bif Nat.blt f 16 then (bif Nat.beq f 15 then h15 else default) else (bif Nat.beq f 16 then h16 else default))) else (bif Nat.blt f 18 then (bif Nat.beq f 17 then h17 else default) else (bif Nat.blt f 19 then (bif Nat.beq f 18 then h18 else default) else (bif Nat.beq f 19 then h19 else default)))) else (bif Nat.blt f 23 then (bif Nat.blt f 21 then (bif Nat.beq f 20 then h20 else default) else (bif Nat.blt f 22 then (bif Nat.beq f 21 then h21 else default) else (bif Nat.beq f 22 then h22 else default))) else (bif Nat.blt f 24 then (bif Nat.beq f 23 then h23 else default) else (bif Nat.blt f 25 then (bif Nat.beq f 24 then h24 else default) else (bif Nat.beq f 25 then h25 else default)))))) else (bif Nat.blt f 37 then (bif Nat.blt f 31 then (bif Nat.blt f 28 then (bif Nat.blt f 27 then (bif Nat.beq f 26 then h26 else default) else (bif Nat.beq f 27 then h27 else default)) else (bif Nat.blt f 29 then (bif Nat.beq f 28 then h28 else default) else (bif Nat.blt f 30 then (bif Nat.beq f 29 then h29 else default) else (bif Nat.beq f 30 then h30 else default)))) else (bif Nat.blt f 34 then (bif Nat.blt f 32 then (bif Nat.beq f 31 then h31 else default) else (bif Nat.blt f 33 then (bif Nat.beq f 32 then h32 else default) else (bif Nat.beq f 33 then h33 else default))) else (bif Nat.blt f 35 then (bif Nat.beq f 34 then h34 else default) else (bif Nat.blt f 36 then (bif Nat.beq f 35 then h35 else default) else (bif Nat.beq f 36 then h36 else default))))) else (bif Nat.blt f 43 then (bif Nat.blt f 40 then (bif Nat.blt f 38 then (bif Nat.beq f 37 then h37 else default) else (bif Nat.blt f 39 then (bif Nat.beq f 38 then h38 else default) else (bif Nat.beq f 39 then h39 else default))) else (bif Nat.blt f 41 then (bif Nat.beq f 40 then h40 else default) else (bif Nat.blt f 42 then (bif Nat.beq f 41 then h41 else default) else (bif Nat.beq f 42 then h42 else default)))) else (bif Nat.blt f 46 then (bif Nat.blt f 44 then (bif Nat.beq f 43 then h43 else default) else (bif Nat.blt f 45 then (bif Nat.beq f 44 then h44 else default) else (bif Nat.beq f 45 then h45 else default))) else (bif Nat.blt f 47 then (bif Nat.beq f 46 then h46 else default) else (bif Nat.blt f 48 then (bif Nat.beq f 47 then h47 else default) else (bif Nat.beq f 48 then h48 else default))))))) else (bif Nat.blt f 72 then (bif Nat.blt f 60 then (bif Nat.blt f 54 then (bif Nat.blt f 51 then (bif Nat.blt f 50 then (bif Nat.beq f 49 then h49 else default) else (bif Nat.beq f 50 then h50 else default)) else (bif Nat.blt f 52 then (bif Nat.beq f 51 then h51 else default) else (bif Nat.blt f 53 then (bif Nat.beq f 52 then h52 else default) else (bif Nat.beq f 53 then h53 else default)))) else (bif Nat.blt f 57 then (bif Nat.blt f 55 then (bif Nat.beq f 54 then h54 else default) else (bif Nat.blt f 56 then (bif Nat.beq f 55 then h55 else default) else (bif Nat.beq f 56 then h56 else default))) else (bif Nat.blt f 58 then (bif Nat.beq f 57 then h57 else default) else (bif Nat.blt f 59 then (bif Nat.beq f 58 then h58 else default) else (bif Nat.beq f 59 then h59 else default))))) else (bif Nat.blt f 66 then (bif Nat.blt f 63 then (bif Nat.blt f 61 then (bif Nat.beq f 60 then h60 else default) else (bif Nat.blt f 62 then (bif Nat.beq f 61 then h61 else default) else (bif Nat.beq f 62 then h62 else default))) else (bif Nat.blt f 64 then (bif Nat.beq f 63 then h63 else default) else (bif Nat.blt f 65 then (bif Nat.beq f 64 then h64 else default) else (bif Nat.beq f 65 then h65 else default)))) else (bif Nat.blt f 69 then (bif Nat.blt f 67 then (bif Nat.beq f 66 then h66 else default) else (bif Nat.blt f 68 then (bif Nat.beq f 67 then h67 else default) else (bif Nat.beq f 68 then h68 else default))) else (bif Nat.blt f 70 then (bif Nat.beq f 69 then h69 else default) else (bif Nat.blt f 71 then (bif Nat.beq f 70 then h70 else default) else (bif Nat.beq f 71 then h71 else default)))))) else (bif Nat.blt f 83 then (bif Nat.blt f 77 then (bif Nat.blt f 74 then (bif Nat.blt f 73 then (bif Nat.beq f 72 then h72 else default) else (bif Nat.beq f 73 then h73 else default)) else (bif Nat.blt f 75 then (bif Nat.beq f 74 then h74 else default) else (bif Nat.blt f 76 then (bif Nat.beq f 75 then h75 else default) else (bif Nat.beq f 76 then h76 else default)))) else (bif Nat.blt f 80 then (bif Nat.blt f 78 then (bif Nat.beq f 77 then h77 else default) else (bif Nat.blt f 79 then (bif Nat.beq f 78 then h78 else default) else (bif Nat.beq f 79 then h79 else default))) else (bif Nat.blt f 81 then (bif Nat.beq f 80 then h80 else default) else (bif Nat.blt f 82 then (bif Nat.beq f 81 then h81 else default) else (bif Nat.beq f 82 then h82 else default))))) else (bif Nat.blt f 89 then (bif Nat.blt f 86 then (bif Nat.blt f 84 then (bif Nat.beq f 83 then h83 else default) else (bif Nat.blt f 85 then (bif Nat.beq f 84 then h84 else default) else (bif Nat.beq f 85 then h85 else default))) else (bif Nat.blt f 87 then (bif Nat.beq f 86 then h86 else default) else (bif Nat.blt f 88 then (bif Nat.beq f 87 then h87 else default) else (bif Nat.beq f 88 then h88 else default)))) else (bif Nat.blt f 92 then (bif Nat.blt f 90 then (bif Nat.beq f 89 then h89 else default) else (bif Nat.blt f 91 then (bif Nat.beq f 90 then h90 else default) else (bif Nat.beq f 91 then h91 else default))) else (bif Nat.blt f 93 then (bif Nat.beq f 92 then h92 else default) else (bif Nat.blt f 94 then (bif Nat.beq f 93 then h93 else default) else (bif Nat.beq f 94 then h94 else default)))))))) else (bif Nat.blt f 144 then (bif Nat.blt f 118 then (bif Nat.blt f 106 then (bif Nat.blt f 100 then (bif Nat.blt f 97 then (bif Nat.blt f 96 then (bif Nat.beq f 95 then h95 else default) else (bif Nat.beq f 96 then h96 else default)) else (bif Nat.blt f 98 then (bif Nat.beq f 97 then h97 else default) else (bif Nat.blt f 99 then (bif Nat.beq f 98 then h98 else default) else (bif Nat.beq f 99 then h99 else default)))) else (bif Nat.blt f 103 then (bif Nat.blt f 101 then (bif Nat.beq f 100 then h100 else default) else (bif Nat.blt f 102 then (bif Nat.beq f 101 then h101 else default) else (bif Nat.beq f 102 then h102 else default))) else (bif Nat.blt f 104 then (bif Nat.beq f 103 then h103 else default) else (bif Nat.blt f 105 then (bif Nat.beq f 104 then h104 else default) else (bif Nat.beq f 105 then h105 else default))))) else (bif Nat.blt f 112 then (bif Nat.blt f 109 then (bif Nat.blt f 107 then (bif Nat.beq f 106 then h106 else default) else (bif Nat.blt f 108 then (bif Nat.beq f 107 then h107 else default) else (bif Nat.beq f 108 then h108 else default))) else (bif Nat.blt f 110 then (bif Nat.beq f 109 then h109 else default) else (bif Nat.blt f 111 then (bif Nat.beq f 110 then h110 else default) else (bif Nat.beq f 111 then h111 else default)))) else (bif Nat.blt f 115 then (bif Nat.blt f 113 then (bif Nat.beq f 112 then h112 else default) else (bif Nat.blt f 114 then (bif Nat.beq f 113 then h113 else default) else (bif Nat.beq f 114 then h114 else default))) else (bif Nat.blt f 116 then (bif Nat.beq f 115 then h115 else default) else (bif Nat.blt f 117 then (bif Nat.beq f 116 then h116 else default) else (bif Nat.beq f 117 then h117 else default)))))) else (bif Nat.blt f 130 then (bif Nat.blt f 124 then (bif Nat.blt f 120 then (bif Nat.blt f 119 then (bif Nat.beq f 118 then h118 else default) else (bif Nat.beq f 119 then h119 else default)) else (bif Nat.blt f 121 then (bif Nat.beq f 120 then h120 else default) else (bif Nat.blt f 123 then (bif Nat.beq f 121 then h121 else default) else (bif Nat.beq f 123 then h123 else default)))) else (bif Nat.blt f 127 then (bif Nat.blt f 125 then (bif Nat.beq f 124 then h124 else default) else (bif Nat.blt f 126 then (bif Nat.beq f 125 then h125 else default) else (bif Nat.beq f 126 then h126 else default))) else (bif Nat.blt f 128 then (bif Nat.beq f 127 then h127 else default) else (bif Nat.blt f 129 then (bif Nat.beq f 128 then h128 else default) else (bif Nat.beq f 129 then h129 else default))))) else (bif Nat.blt f 136 then (bif Nat.blt f 133 then (bif Nat.blt f 131 then (bif Nat.beq f 130 then h130 else default) else (bif Nat.blt f 132 then (bif Nat.beq f 131 then h131 else default) else (bif Nat.beq f 132 then h132 else default))) else (bif Nat.blt f 134 then (bif Nat.beq f 133 then h133 else default) else (bif Nat.blt f 135 then (bif Nat.beq f 134 then h134 else default) else (bif Nat.beq f 135 then h135 else default)))) else (bif Nat.blt f 139 then (bif Nat.blt f 137 then (bif Nat.beq f 136 then h136 else default) else (bif Nat.blt f 138 then (bif Nat.beq f 137 then h137 else default) else (bif Nat.beq f 138 then h138 else default))) else (bif Nat.blt f 142 then (bif Nat.beq f 139 then h139 else default) else (bif Nat.blt f 143 then (bif Nat.beq f 142 then h142 else default) else (bif Nat.beq f 143 then h143 else default))))))) else (bif Nat.blt f 178 then (bif Nat.blt f 155 then (bif Nat.blt f 149 then (bif Nat.blt f 146 then (bif Nat.blt f 145 then (bif Nat.beq f 144 then h144 else default) else (bif Nat.beq f 145 then h145 else default)) else (bif Nat.blt f 147 then (bif Nat.beq f 146 then h146 else default) else (bif Nat.blt f 148 then (bif Nat.beq f 147 then h147 else default) else (bif Nat.beq f 148 then h148 else default)))) else (bif Nat.blt f 152 then (bif Nat.blt f 150 then (bif Nat.beq f 149 then h149 else default) else (bif Nat.blt f 151 then (bif Nat.beq f 150 then h150 else default) else (bif Nat.beq f 151 then h151 else default))) else (bif Nat.blt f 153 then (bif Nat.beq f 152 then h152 else default) else (bif Nat.blt f 154 then (bif Nat.beq f 153 then h153 else default) else (bif Nat.beq f 154 then h154 else default))))) else (bif Nat.blt f 172 then (bif Nat.blt f 169 then (bif Nat.blt f 156 then (bif Nat.beq f 155 then h155 else default) else (bif Nat.blt f 157 then (bif Nat.beq f 156 then h156 else default) else (bif Nat.beq f 157 then h157 else default))) else (bif Nat.blt f 170 then (bif Nat.beq f 169 then h169 else default) else (bif Nat.blt f 171 then (bif Nat.beq f 170 then h170 else default) else (bif Nat.beq f 171 then h171 else default)))) else (bif Nat.blt f 175 then (bif Nat.blt f 173 then (bif Nat.beq f 172 then h172 else default) else (bif Nat.blt f 174 then (bif Nat.beq f 173 then h173 else default) else (bif Nat.beq f 174 then h174 else default))) else (bif Nat.blt f 176 then (bif Nat.beq f 175 then h175 else default) else (bif Nat.blt f 177 then (bif Nat.beq f 176 then h176 else default) else (bif Nat.beq f 177 then h177 else default)))))) else (bif Nat.blt f 196 then (bif Nat.blt f 189 then (bif Nat.blt f 186 then (bif Nat.blt f 185 then (bif Nat.beq f 178 then h178 else default) else (bif Nat.beq f 185 then h185 else default)) else (bif Nat.blt f 187 then (bif Nat.beq f 186 then h186 else default) else (bif Nat.blt f 188 then (bif Nat.beq f 187 then h187 else default) else (bif Nat.beq f 188 then h188 else default)))) else (bif Nat.blt f 193 then (bif Nat.blt f 190 then (bif Nat.beq f 189 then h189 else default) else (bif Nat.blt f 191 then (bif Nat.beq f 190 then h190 else default) else (bif Nat.beq f 191 then h191 else default))) else (bif Nat.blt f 194 then (bif Nat.beq f 193 then h193 else default) else (bif Nat.blt f 195 then (bif Nat.beq f 194 then h194 else default) else (bif Nat.beq f 195 then h195 else default))))) else (bif Nat.blt f 202 then (bif Nat.blt f 199 then (bif Nat.blt f 197 then (bif Nat.beq f 196 then h196 else default) else (bif Nat.blt f 198 then (bif Nat.beq f 197 then h197 else default) else (bif Nat.beq f 198 then h198 else default))) else (bif Nat.blt f 200 then (bif Nat.beq f 199 then h199 else default) else (bif Nat.blt f 201 then (bif Nat.beq f 200 then h200 else default) else (bif Nat.beq f 201 then h201 else default)))) else (bif Nat.blt f 205 then (bif Nat.blt f 203 then (bif Nat.beq f 202 then h202 else default) else (bif Nat.blt f 204 then (bif Nat.beq f 203 then h203 else default) else (bif Nat.beq f 204 then h204 else default))) else (bif Nat.blt f 206 then (bif Nat.beq f 205 then h205 else default) else (bif Nat.blt f 207 then (bif Nat.beq f 206 then h206 else default) else (bif Nat.beq f 207 then h207 else default)))))))))
def prim (f : Nat) : Option ((Nat → List SVal → Option Res) → List SVal → Option Res) :=
  bif Nat.beq f 28 then some (primCache 50) else bif Nat.beq f 73 then some (fun _ => primClone 1) else bif Nat.beq f 96 then some (fun _ => primApart) else bif Nat.beq f 120 then some (fun _ => primSort) else none
noncomputable abbrev T (k : Nat) : Nat → List SVal → Option Res := TN P H prim k
theorem tb (k f : Nat) (a : List SVal) (h : prim f = none) : T (k + 1) f a = bodyE P H (T k) k f a := by
  simp only [T, TN]
  rw [h]
end Go.Proofs.YtcdnmiaelaombaaGreat.K
