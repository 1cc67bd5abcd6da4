/- The seat's configuration of the abstract interpreter, and facts about its types. No conditions. (written by gen.py) -/
import Derived.Test.YtdodfimekcoclaaAiTop
import Derived.Test.YtdodfimekcoclaaProg
import Derived.KernelRfl
set_option linter.unusedVariables false
namespace Go.Proofs
open Go.AI

def Try.ann : List (Nat × Nat × Ann) := [
  (2, 999999, ([], [], [], none, [])),
  (3, 999999, ([4], [4], [], none, [])),
  (4, 999999, ([8], [8], [], none, [])),
  (4, 0, ([0, 3, 19, 21, 23, 24], [3, 19, 23], [], none, [])),
  (4, 2, ([3, 19, 23, 25], [19, 23], [], none, [])),
  (5, 999999, ([8], [8], [], none, [])),
  (6, 999999, ([12], [12], [], none, [])),
  (7, 999999, ([6], [6], [], none, [])),
  (7, 0, ([0, 2, 7], [], [], none, [])),
  (8, 999999, ([0], [0], [], none, [])),
  (9, 999999, ([4, 5], [4, 5], [], none, [])),
  (9, 0, ([0, 1, 25, 26, 27], [0, 1], [], none, [])),
  (9, 2, ([0, 1, 35, 36, 37], [0, 1], [], none, [])),
  (9, 4, ([1, 10, 11, 12], [10], [], none, [])),
  (9, 6, ([1, 10, 11, 12, 61, 62, 63], [1, 10, 11, 12], [], none, [])),
  (10, 999999, ([4, 5], [4, 5], [], none, [])),
  (10, 0, ([0, 1, 6], [0, 1], [], none, [])),
  (10, 2, ([0, 1, 7], [0, 1], [], none, [])),
  (11, 999999, ([2], [2], [], none, [])),
  (11, 0, ([0, 3, 11, 12, 13], [0, 3], [], none, [])),
  (11, 2, ([0, 3, 63, 64, 65], [], [], none, [])),
  (11, 4, ([0, 3, 7, 63, 64, 65, 69, 70, 71], [0, 3, 63, 64, 65], [], none, [])),
  (12, 999999, ([2], [2], [], none, [])),
  (12, 0, ([0, 3], [0], [], none, [])),
  (12, 2, ([0, 4], [], [], none, [])),
  (12, 4, ([0, 4, 5], [0, 4], [], none, [])),
  (13, 999999, ([4], [4], [], none, [])),
  (13, 0, ([0, 1, 5], [], [], none, [])),
  (14, 999999, ([2], [2], [], none, [])),
  (14, 0, ([0, 3], [], [], none, [])),
  (15, 999999, ([4], [4], [], none, [])),
  (16, 999999, ([4], [4], [], none, [])),
  (16, 0, ([0, 1, 5, 6], [5], [5], some 1, [])),
  (17, 999999, ([4, 5], [4, 5], [], none, [])),
  (18, 999999, ([2, 3], [2, 3], [], none, [])),
  (18, 0, ([4, 13, 14, 15], [4], [], none, [])),
  (19, 999999, ([2, 3], [2, 3], [], none, [])),
  (19, 0, ([0, 4, 5, 6], [5], [], none, [])),
  (20, 999999, ([4], [4], [], none, [])),
  (20, 0, ([0, 1, 5], [], [], none, [])),
  (21, 999999, ([4, 5], [4, 5], [], none, [])),
  (22, 999999, ([2, 3], [2, 3], [], none, [])),
  (22, 0, ([0, 4, 5], [4], [], none, [])),
  (23, 999999, ([2], [2], [], none, [])),
  (23, 0, ([0, 3, 9, 10, 11], [], [], none, [])),
  (24, 999999, ([2], [2], [], none, [])),
  (24, 0, ([0, 3, 4], [], [], none, [])),
  (25, 999999, ([2, 3], [2, 3], [], none, [])),
  (25, 0, ([0, 4, 5], [4], [], none, [])),
  (26, 999999, ([2, 3], [2, 3], [], none, [])),
  (26, 0, ([0, 4, 5, 16, 17], [4], [], some 3, [])),
  (26, 2, ([0, 4, 5, 7, 8, 16, 17], [0, 4, 5, 7, 16, 17], [], none, [7])),
  (27, 999999, ([2, 3], [2, 3], [], none, [])),
  (27, 0, ([0, 4, 5, 6], [4], [], some 3, [])),
  (27, 2, ([0, 4, 5, 6, 7, 8], [0, 4, 5, 6, 7], [], none, [7])),
  (28, 999999, ([6, 7], [6, 7], [], none, [])),
  (29, 999999, ([4, 5], [4, 5], [], none, [])),
  (29, 0, ([0, 1, 6, 24, 25, 26], [0, 1, 6], [], none, [])),
  (29, 2, ([0, 1, 6, 43, 44, 45], [0, 1, 6], [], none, [])),
  (29, 4, ([0, 13, 14, 61, 62, 63], [13], [], none, [])),
  (29, 6, ([0, 13, 14, 15, 16, 17, 61, 62, 63, 81, 82, 83], [0, 13, 14, 15, 17, 61, 62, 63], [], none, [])),
  (30, 999999, ([4, 5], [4, 5], [], none, [])),
  (30, 0, ([0, 1, 6, 7], [0, 1, 6], [], none, [])),
  (30, 2, ([0, 1, 8], [0, 1], [], none, [])),
  (30, 4, ([0, 1, 9, 10, 11], [9], [], none, [])),
  (30, 6, ([0, 1, 9, 10, 11, 12, 13], [0, 1, 9, 10, 11, 12], [], none, [])),
  (30, 8, ([0, 1, 9, 10, 11, 12, 13, 14], [0, 1, 9, 10, 11, 12, 13], [], none, [])),
  (31, 999999, ([2], [2], [], none, [])),
  (31, 0, ([3, 8, 9], [3], [], none, [])),
  (32, 999999, ([2], [2], [], none, [])),
  (33, 999999, ([4], [4], [], none, [])),
  (33, 0, ([0, 5, 11, 12, 13], [5], [], none, [])),
  (34, 999999, ([], [], [], none, [])),
  (35, 999999, ([4], [4], [], none, [])),
  (35, 0, ([0, 1, 9, 10, 11], [0, 1], [], none, [])),
  (36, 999999, ([4], [4], [], none, [])),
  (36, 0, ([1, 5, 6], [5], [], none, [])),
  (36, 2, ([1, 5, 6, 7, 8], [1, 5, 6], [], none, [])),
  (37, 999999, ([4], [4], [], none, [])),
  (37, 0, ([0, 1, 12, 13], [], [], none, [])),
  (38, 999999, ([2], [2], [], none, [])),
  (38, 0, ([0, 3, 4], [3], [], none, [])),
  (39, 999999, ([4], [4], [], none, [])),
  (40, 999999, ([4, 5], [4, 5], [], none, [])),
  (40, 0, ([0, 1, 6, 7], [0, 1, 6], [], none, [])),
  (41, 999999, ([4], [4], [], none, [])),
  (41, 0, ([0, 1, 5, 6], [5], [], none, [])),
  (42, 999999, ([2], [2], [], none, [])),
  (43, 999999, ([4, 5], [4, 5], [], none, [])),
  (43, 0, ([1, 4, 6, 13, 14, 15], [4, 6], [], none, [])),
  (44, 999999, ([4], [4], [], none, [])),
  (44, 0, ([3, 4, 5, 8, 9, 10], [4, 5], [], none, [])),
  (45, 999999, ([2], [2], [], none, [])),
  (46, 999999, ([4], [4], [], none, [])),
  (46, 0, ([0, 1, 5, 6], [5], [], none, [])),
  (47, 999999, ([], [], [], none, [])),
  (47, 0, ([0, 1, 2, 3, 4, 10, 11], [], [], none, [])),
  (48, 999999, ([2], [2], [], none, [])),
  (49, 999999, ([4], [4], [], none, [])),
  (50, 999999, ([2], [2], [], none, [])),
  (50, 0, ([3, 9, 10, 11], [3], [], none, [])),
  (51, 999999, ([2], [2], [], none, [])),
  (51, 0, ([0, 3, 4], [3], [], none, [])),
  (52, 999999, ([], [], [], none, [])),
  (52, 0, ([0, 1, 2, 3, 8], [], [], none, [])),
  (52, 2, ([0, 1, 2, 3, 8, 9], [0, 1, 2, 3, 8], [], none, [])),
  (53, 999999, ([], [], [], none, [])),
  (53, 0, ([0, 3, 8, 9, 10, 11], [0, 3, 8, 9, 10], [], none, [])),
  (53, 2, ([0, 3, 8, 9, 12], [], [], none, [])),
  (54, 999999, ([], [], [], none, [])),
  (54, 0, ([0, 1, 8, 9, 10, 11], [], [], none, [])),
  (55, 999999, ([8, 9], [8, 9], [], none, [])),
  (56, 999999, ([], [], [], none, [])),
  (56, 0, ([0, 8, 9], [], [], none, [])),
  (57, 999999, ([8], [8], [], none, [])),
  (57, 0, ([0, 1, 2, 3, 9, 10], [], [], none, [])),
  (57, 2, ([0, 1, 2, 3, 9, 10], [0, 1, 2, 3, 9, 10], [], none, [])),
  (57, 4, ([0, 1, 2, 3, 9, 10, 11], [0, 1, 2, 3, 9, 10], [], none, [])),
  (57, 6, ([0, 1, 2, 3, 9, 10, 12], [0, 1, 2, 3, 9, 10], [], none, [])),
  (58, 999999, ([10], [10], [], none, [])),
  (58, 0, ([0, 1, 4, 11, 12], [11], [], none, [])),
  (58, 2, ([0, 1, 4, 11, 12], [0, 1, 4, 11, 12], [], none, [])),
  (58, 4, ([0, 1, 4, 11, 12], [0, 1, 4, 11, 12], [], none, [])),
  (59, 999999, ([10, 11], [10, 11], [], none, [])),
  (59, 0, ([0, 1, 4, 12, 13], [0, 1, 4, 12, 13], [], none, [])),
  (59, 2, ([0, 1, 4, 12, 13], [0, 1, 4, 12, 13], [], none, [])),
  (59, 4, ([0, 1, 4, 12, 13], [0, 1, 13], [], none, [])),
  (59, 6, ([0, 1, 4, 12, 13], [0, 1, 4, 12, 13], [], none, [])),
  (59, 8, ([0, 1, 4, 12, 13], [0, 1, 4, 12, 13], [], none, [])),
  (60, 999999, ([2], [2], [], none, [])),
  (61, 999999, ([2], [2], [], none, [])),
  (62, 999999, ([2], [2], [], none, [])),
  (63, 999999, ([], [], [], none, [])),
  (63, 0, ([0, 2, 3, 4, 10], [], [], none, [])),
  (64, 999999, ([2], [2], [], none, [])),
  (65, 999999, ([2], [2], [], none, [])),
  (66, 999999, ([8], [8], [], none, [])),
  (67, 999999, ([12], [12], [], none, [])),
  (68, 999999, ([10, 11], [10, 11], [], none, []))]
def Try.prT : List (Nat × List (Nat × List Nat)) := [
  (4, [(0, [0, 1, 2, 3]), (1, [0, 1, 2, 3, 31]), (2, [8]), (3, [0, 1, 2, 3]), (4, [0, 1, 2, 3]), (5, [0, 1, 2, 3, 9, 10]), (6, [0, 2, 3, 9, 10, 11, 12]), (7, [0, 3, 10, 11, 12, 13, 14]), (8, [0, 3, 10, 12, 13, 14, 15, 16]), (9, [0, 3, 10, 12, 13, 14, 15, 16, 17, 18]), (10, [0, 3, 10, 12, 13, 14, 15, 16, 18, 19, 20]), (11, [0, 3, 10, 12, 13, 14, 15, 16, 18, 19, 20, 21, 22]), (12, [0, 3, 19, 21, 123]), (13, [8]), (14, [0, 3, 19, 21, 23]), (15, [0, 3, 19, 21, 23, 24]), (16, [0, 3, 19, 21, 23, 24, 127]), (17, [0, 3, 19, 21, 23, 24]), (18, [0, 3, 19, 21, 23, 24, 142]), (19, [8]), (20, [0, 3, 10, 19, 21, 23, 24]), (21, [0, 3, 19, 21, 23, 24, 150]), (22, [8]), (23, [3, 19, 23, 25]), (24, [3, 19, 23, 25, 153]), (25, [3, 19, 23, 25]), (26, [3, 19, 23, 25, 161]), (27, [8]), (28, [8])]),
  (5, [(0, [0, 1, 2, 3]), (1, [0, 1, 2, 3, 25]), (2, [8]), (3, [0, 1, 2, 28]), (4, [0, 1, 2]), (5, [0, 1]), (6, [0, 1, 9, 10]), (7, [0, 9, 10, 11, 12]), (8, [0, 9, 10, 11, 12, 13, 14]), (9, [0, 9, 10, 11, 12, 13, 14, 15, 16]), (10, [0, 85]), (11, [8]), (12, [0, 10, 17]), (13, [0, 10, 12, 17, 18]), (14, [0, 10, 12, 14, 17, 18, 19]), (15, [10, 12, 14, 16, 17, 18, 19, 20]), (16, [8])]),
  (6, [(0, [0, 1, 2, 3, 4, 5]), (1, [0, 1, 2, 3, 4, 5, 43]), (2, [12]), (3, [3, 4, 5, 13]), (4, [3, 4, 13, 52]), (5, [3, 13]), (6, [3, 13, 15, 16]), (7, [15, 16, 17, 18]), (8, [12])]),
  (9, [(0, [0, 1]), (1, [0, 1, 21]), (2, [4, 5]), (3, [0, 1, 24]), (4, [4, 5]), (5, [0, 1, 25, 26, 27]), (6, [0, 1, 25, 26, 27, 28]), (7, [0, 1, 7, 25, 26, 27]), (8, [0, 1, 25, 26, 27, 33]), (9, [4, 5]), (10, [0, 1, 25, 26, 27]), (11, [0, 1, 35, 36, 37]), (12, [0, 1, 35, 36, 37, 38]), (13, [0, 1, 9, 35, 36, 37]), (14, [0, 1, 35, 36, 37, 44]), (15, [4, 5]), (16, [0, 1, 35, 36, 37]), (17, [1, 10]), (18, [1, 10, 11]), (19, [1, 10, 11, 12]), (20, [1, 10, 11, 12, 58]), (21, [1, 10, 11, 12]), (22, [1, 10, 11, 12, 61, 62, 63]), (23, [1, 10, 11, 12, 61, 62, 63, 64]), (24, [1, 10, 11, 12, 14, 61, 62, 63]), (25, [1, 10, 11, 12, 15, 61, 62, 63]), (26, [1, 10, 11, 12, 15, 61, 62, 63, 77]), (27, [1, 10, 11, 12, 15, 61, 62, 63]), (28, [1, 10, 11, 12, 61, 62, 63]), (29, [1, 10, 11, 12, 61, 62, 63]), (30, [10]), (31, [4, 5])]),
  (11, [(0, [0]), (1, [0, 3]), (2, [0, 3, 11, 12, 13]), (3, [0, 3, 11, 12, 13, 14]), (4, [0, 3, 4, 5, 11, 12, 13]), (5, [0, 3, 5, 11, 12, 13, 43]), (6, [2]), (7, [0, 3, 11, 12, 13]), (8, [0, 3, 11, 12, 13]), (9, [0, 3, 62]), (10, [2]), (11, [0, 3, 63, 64, 65]), (12, [0, 3, 63, 64, 65, 66]), (13, [0, 3, 7, 63, 64, 65]), (14, [0, 3, 7, 63, 64, 65, 69, 70, 71]), (15, [0, 3, 7, 63, 64, 65, 69, 70, 71, 72]), (16, [0, 3, 7, 9, 63, 64, 65, 69, 70, 71]), (17, [0, 3, 7, 63, 64, 65, 69, 70, 71, 81]), (18, [2]), (19, [0, 3, 7, 63, 64, 65, 69, 70, 71]), (20, [0, 3, 63, 64, 65]), (21, [2])]),
  (12, [(0, [0]), (1, [0, 34]), (2, [2]), (3, [0, 3]), (4, [0, 3, 38]), (5, [0, 3]), (6, [0, 3, 71]), (7, [2]), (8, [0, 4]), (9, [0, 4, 75]), (10, [0, 4]), (11, [0, 4, 5]), (12, [0, 4, 5, 81]), (13, [0, 4, 5]), (14, [0, 4, 5, 7]), (15, [0, 4, 5, 99]), (16, [2]), (17, [2])]),
  (29, [(0, [0, 1]), (1, [0, 1, 23]), (2, [4, 5]), (3, [0, 1, 6]), (4, [0, 1, 6, 24, 25, 26]), (5, [0, 1, 6, 24, 25, 26, 27]), (6, [0, 1, 6, 8, 24, 25, 26]), (7, [0, 1, 6, 8, 24, 25, 26, 32]), (8, [4, 5]), (9, [0, 1, 6, 9, 24, 25, 26]), (10, [0, 1, 6, 24, 25, 26]), (11, [0, 1, 6, 24, 25, 26]), (12, [0, 1, 6, 43, 44, 45]), (13, [0, 1, 6, 43, 44, 45, 46]), (14, [0, 1, 6, 12, 43, 44, 45]), (15, [0, 1, 6, 43, 44, 45, 55]), (16, [4, 5]), (17, [0, 1, 6, 43, 44, 45]), (18, [0, 6, 59]), (19, [4, 5]), (20, [0, 6, 13]), (21, [0, 6, 13, 14]), (22, [0, 13, 14, 61, 62, 63]), (23, [0, 13, 14, 61, 62, 63, 64]), (24, [0, 13, 14, 15, 16, 61, 62, 63]), (25, [0, 13, 14, 15, 16, 17, 18, 61, 62, 63]), (26, [0, 13, 14, 15, 16, 17, 61, 62, 63, 75]), (27, [0, 13, 14, 15, 16, 17, 61, 62, 63]), (28, [0, 13, 14, 15, 16, 17, 61, 62, 63]), (29, [0, 13, 14, 15, 16, 17, 61, 62, 63, 81, 82, 83]), (30, [0, 13, 14, 15, 16, 17, 61, 62, 63, 81, 82, 83, 84]), (31, [0, 13, 14, 15, 16, 17, 20, 61, 62, 63, 81, 82, 83]), (32, [0, 13, 14, 15, 16, 17, 61, 62, 63, 81, 82, 83]), (33, [0, 13, 14, 15, 16, 17, 61, 62, 63, 81, 82, 83]), (34, [0, 13, 14, 61, 62, 63]), (35, [0, 13, 14, 61, 62, 63]), (36, [4, 5])]),
  (30, [(0, [0, 1]), (1, [0, 1, 6]), (2, [0, 1, 6, 7]), (3, [0, 1, 6, 7, 20]), (4, [0, 1, 6, 7]), (5, [0, 1, 6, 7]), (6, [0, 1, 32]), (7, [4, 5]), (8, [0, 1, 8]), (9, [0, 1, 8, 36]), (10, [0, 1, 8]), (11, [0, 1, 8, 48]), (12, [4, 5]), (13, [0, 1, 51]), (14, [4, 5]), (15, [0, 1, 9]), (16, [0, 1, 9, 10]), (17, [0, 1, 9, 10, 11]), (18, [0, 1, 9, 10, 11, 58]), (19, [0, 1, 9, 10, 11]), (20, [0, 1, 9, 10, 11, 64]), (21, [0, 1, 9, 10, 11, 12]), (22, [0, 1, 9, 10, 11, 12, 13]), (23, [0, 1, 9, 10, 11, 12, 13, 69]), (24, [0, 1, 9, 10, 11, 12, 13]), (25, [0, 1, 9, 10, 11, 12, 13, 14]), (26, [0, 1, 9, 10, 11, 12, 13, 14, 82]), (27, [0, 1, 9, 10, 11, 12, 13, 14]), (28, [0, 1, 9, 10, 11, 12, 13, 14, 98]), (29, [0, 1, 9, 10, 11, 12, 13, 14]), (30, [0, 1, 9, 10, 11, 12, 13, 14]), (31, [0, 1, 9, 10, 11]), (32, [4, 5])]),
  (36, [(0, [0, 1]), (1, [0, 1, 5]), (2, [1, 5, 6]), (3, [1, 5, 6, 20]), (4, [1, 5, 6, 7]), (5, [1, 5, 6, 7]), (6, [1, 5, 6, 7, 8]), (7, [1, 5, 6, 7, 8, 35]), (8, [1, 5, 6, 7, 8]), (9, [1, 5, 6, 7, 8, 9]), (10, [1, 5, 6, 7, 8, 9, 10, 11]), (11, [1, 5, 6, 7, 8, 9, 10, 51]), (12, [1, 5, 6, 7, 8, 9]), (13, [1, 5, 6, 7, 8]), (14, [4])]),
  (47, [(0, [0, 1, 2, 3, 4, 10]), (1, [0, 1, 2, 3, 4, 10, 11]), (2, [0, 1, 2, 3, 4, 10, 11, 12]), (3, [0, 1, 2, 3, 4, 10, 11, 12, 25]), (4, []), (5, [0, 1, 2, 3, 4, 10, 11, 12, 32]), (6, []), (7, [0, 1, 2, 3, 4, 10, 11, 12, 39]), (8, [0, 1, 2, 3, 4, 10, 11, 12]), (9, [0, 1, 2, 3, 4, 10, 11, 12]), (10, [0, 1, 2, 3, 4, 10, 11, 12, 13, 14]), (11, [0, 1, 2, 3, 4, 10, 11, 12, 13, 14, 56]), (12, [0, 1, 2, 3, 4, 10, 11, 12, 13]), (13, [0, 1, 2, 3, 4, 10, 11, 12, 13]), (14, [0, 1, 2, 3, 4, 10, 11, 12, 13, 14]), (15, [0, 1, 2, 3, 4, 10, 11, 12, 13, 75]), (16, [0, 1, 2, 3, 4, 10, 11, 12, 13, 80]), (17, [0, 1, 2, 3, 4, 10, 11, 12, 13, 97]), (18, [0, 2, 3, 4, 10, 11, 15]), (19, [0, 1, 2, 3, 4, 10, 11]), (20, [0, 1, 2, 3, 4, 12, 16, 17]), (21, [0, 1, 2, 3, 4, 11, 12, 16]), (22, [0, 1, 2, 3, 4, 11, 12, 16, 18, 19]), (23, [0, 1, 2, 3, 4, 11, 16, 18, 19, 20]), (24, [0, 1, 2, 3, 4, 11, 16, 18, 19, 20, 125]), (25, [0, 1, 2, 3, 4, 10, 11, 16]), (26, [0, 2, 3, 4, 10, 11, 16]), (27, [0, 1, 2, 3, 4, 10, 11]), (28, [0, 1, 2, 3, 4, 10, 11, 16]), (29, [0, 1, 3, 4, 10, 11, 16]), (30, [0, 1, 2, 3, 4, 10, 11])]),
  (54, [(0, [0, 1, 8]), (1, [0, 1, 8, 17]), (2, [0, 1, 8, 9]), (3, [0, 1, 8, 9, 10]), (4, [0, 1, 8, 9, 10, 11]), (5, [0, 1, 8, 9, 10, 11, 35]), (6, [0, 1, 8, 9, 10, 11]), (7, [0, 1, 8, 9, 10, 11, 12]), (8, [0, 1, 8, 9, 10, 11, 12, 45]), (9, [0, 1, 8, 9, 10, 11, 12]), (10, [0, 1, 8, 9, 10, 11])]),
  (57, [(0, [0, 1, 2, 3]), (1, [0, 1, 2, 3, 9]), (2, [0, 1, 2, 3, 9, 10]), (3, [0, 1, 2, 3, 9, 10, 16]), (4, [0, 1, 2, 3, 9, 10]), (5, [0, 1, 2, 3, 9, 10, 36]), (6, [0, 1, 2, 3, 9, 10]), (7, [0, 1, 2, 3, 9, 10, 41]), (8, [8]), (9, [0, 1, 2, 3, 9, 10, 45]), (10, [8]), (11, [0, 1, 2, 3, 9, 10]), (12, [0, 1, 2, 3, 9, 10, 65]), (13, [0, 1, 2, 3, 9, 10, 11]), (14, [0, 1, 2, 3, 9, 10, 11, 69]), (15, [0, 1, 2, 3, 9, 10, 11]), (16, [0, 1, 2, 3, 9, 10, 11, 84]), (17, [0, 1, 2, 3, 9, 10, 11]), (18, [0, 1, 2, 3, 9, 10, 104]), (19, [0, 1, 2, 3, 9, 10, 12]), (20, [0, 1, 2, 3, 9, 10, 12, 109]), (21, [0, 1, 2, 3, 9, 10, 12]), (22, [0, 1, 2, 3, 9, 10, 12, 124]), (23, [0, 1, 2, 3, 9, 10, 12]), (24, [8])]),
  (58, [(0, [0, 1, 2, 3, 4]), (1, [0, 1, 2, 4]), (2, [0, 1, 4, 11, 12]), (3, [0, 1, 4, 11, 12, 47]), (4, [0, 1, 4, 11, 12]), (5, [0, 1, 4, 11, 12, 65]), (6, [0, 1, 4, 11, 12]), (7, [0, 1, 4, 11, 12, 70]), (8, [0, 1, 4, 11, 12]), (9, [0, 1, 4, 11, 12]), (10, [0, 1, 4, 11, 12]), (11, [10])]),
  (59, [(0, [0, 1, 2, 3, 4]), (1, [0, 1, 2, 4]), (2, [0, 1, 4, 12, 13]), (3, [0, 1, 4, 12, 13, 47]), (4, [0, 1, 4, 12, 13]), (5, [0, 1, 4, 12, 13, 66]), (6, [0, 1, 4, 12, 13]), (7, [0, 1, 4, 12, 13, 71]), (8, [13]), (9, [10, 11]), (10, [0, 1, 4, 12, 13]), (11, [0, 1, 4, 12, 13]), (12, [0, 1, 4, 12, 13]), (13, [0, 1, 4, 12, 13, 120]), (14, [0, 1, 4, 12, 13]), (15, [0, 1, 4, 12, 13, 139]), (16, [0, 1, 4, 12, 13]), (17, [0, 1, 4, 12, 13, 144]), (18, [0, 1, 4, 12, 13]), (19, [0, 1, 4, 12, 13]), (20, [0, 1, 4, 12, 13]), (21, [13]), (22, [10, 11])]),
  (63, [(0, [0, 2, 3, 4, 10]), (1, [0, 2, 3, 4, 10, 11]), (2, [0, 2, 3, 4, 10, 11, 18]), (3, [0, 2, 3, 4, 10, 11, 40]), (4, [0, 2, 3, 4, 10, 11]), (5, [0, 2, 3, 4, 10, 11, 58]), (6, [0, 2, 3, 4, 11]), (7, [0, 2, 3, 4, 10])])]
def Try.shared (f : FuncId) : Bool := [34, 47, 52, 53, 54, 55, 56, 57, 58, 59, 63, 65, 66, 67, 68].contains f
noncomputable def Try.cfg : Cfg := { P := Try.prog, shared := Try.shared, ov := fun _ => none, ann := annOf Try.ann, pr := prOf Try.prT }
theorem Try.cfgP : Try.cfg.P = Try.prog := rfl
theorem Try.cfgO (f : FuncId) : Try.cfg.ov f = none := rfl
theorem Try.fitText : ((List.range Try.prog.funcs.size).all fun f => match Try.prog.funcs[f]? with | some fn => okFn Try.shared fn | none => true) = true := by kernel_rfl
theorem Try.mixed : Try.prog.follows .mixedOrders = true := by kernel_rfl
theorem Try.fit : Fit Try.cfg := by
  refine ⟨Try.mixed, fun f fn _ hf => ?_, fun f hf k i o cl m z h => ?_, fun f g h => by cases h⟩
  · have hlt : f < Try.prog.funcs.size := (Array.getElem?_eq_some_iff.1 hf).1
    have := List.all_eq_true.1 Try.fitText f (by simpa using hlt)
    have hf' : Try.prog.funcs[f]? = some fn := hf
    rw [hf'] at this
    exact this
  · exact annOf_cut (T := Try.ann) (sh := Try.shared) rfl hf h
theorem Try.sh0 : Try.cfg.shared 0 = false := rfl
theorem Try.sh1 : Try.cfg.shared 1 = false := rfl
theorem Try.sh2 : Try.cfg.shared 2 = false := rfl
theorem Try.sh3 : Try.cfg.shared 3 = false := rfl
theorem Try.sh4 : Try.cfg.shared 4 = false := rfl
theorem Try.sh5 : Try.cfg.shared 5 = false := rfl
theorem Try.sh6 : Try.cfg.shared 6 = false := rfl
theorem Try.sh7 : Try.cfg.shared 7 = false := rfl
theorem Try.sh8 : Try.cfg.shared 8 = false := rfl
theorem Try.sh9 : Try.cfg.shared 9 = false := rfl
theorem Try.sh10 : Try.cfg.shared 10 = false := rfl
theorem Try.sh11 : Try.cfg.shared 11 = false := rfl
theorem Try.sh12 : Try.cfg.shared 12 = false := rfl
theorem Try.sh13 : Try.cfg.shared 13 = false := rfl
theorem Try.sh14 : Try.cfg.shared 14 = false := rfl
theorem Try.sh15 : Try.cfg.shared 15 = false := rfl
theorem Try.sh16 : Try.cfg.shared 16 = false := rfl
theorem Try.sh17 : Try.cfg.shared 17 = false := rfl
theorem Try.sh18 : Try.cfg.shared 18 = false := rfl
theorem Try.sh19 : Try.cfg.shared 19 = false := rfl
theorem Try.sh20 : Try.cfg.shared 20 = false := rfl
theorem Try.sh21 : Try.cfg.shared 21 = false := rfl
theorem Try.sh22 : Try.cfg.shared 22 = false := rfl
theorem Try.sh23 : Try.cfg.shared 23 = false := rfl
theorem Try.sh24 : Try.cfg.shared 24 = false := rfl
theorem Try.sh25 : Try.cfg.shared 25 = false := rfl
theorem Try.sh26 : Try.cfg.shared 26 = false := rfl
theorem Try.sh27 : Try.cfg.shared 27 = false := rfl
theorem Try.sh28 : Try.cfg.shared 28 = false := rfl
theorem Try.sh29 : Try.cfg.shared 29 = false := rfl
theorem Try.sh30 : Try.cfg.shared 30 = false := rfl
theorem Try.sh31 : Try.cfg.shared 31 = false := rfl
theorem Try.sh32 : Try.cfg.shared 32 = false := rfl
theorem Try.sh33 : Try.cfg.shared 33 = false := rfl
theorem Try.sh34 : Try.cfg.shared 34 = true := rfl
theorem Try.sh35 : Try.cfg.shared 35 = false := rfl
theorem Try.sh36 : Try.cfg.shared 36 = false := rfl
theorem Try.sh37 : Try.cfg.shared 37 = false := rfl
theorem Try.sh38 : Try.cfg.shared 38 = false := rfl
theorem Try.sh39 : Try.cfg.shared 39 = false := rfl
theorem Try.sh40 : Try.cfg.shared 40 = false := rfl
theorem Try.sh41 : Try.cfg.shared 41 = false := rfl
theorem Try.sh42 : Try.cfg.shared 42 = false := rfl
theorem Try.sh43 : Try.cfg.shared 43 = false := rfl
theorem Try.sh44 : Try.cfg.shared 44 = false := rfl
theorem Try.sh45 : Try.cfg.shared 45 = false := rfl
theorem Try.sh46 : Try.cfg.shared 46 = false := rfl
theorem Try.sh47 : Try.cfg.shared 47 = true := rfl
theorem Try.sh48 : Try.cfg.shared 48 = false := rfl
theorem Try.sh49 : Try.cfg.shared 49 = false := rfl
theorem Try.sh50 : Try.cfg.shared 50 = false := rfl
theorem Try.sh51 : Try.cfg.shared 51 = false := rfl
theorem Try.sh52 : Try.cfg.shared 52 = true := rfl
theorem Try.sh53 : Try.cfg.shared 53 = true := rfl
theorem Try.sh54 : Try.cfg.shared 54 = true := rfl
theorem Try.sh55 : Try.cfg.shared 55 = true := rfl
theorem Try.sh56 : Try.cfg.shared 56 = true := rfl
theorem Try.sh57 : Try.cfg.shared 57 = true := rfl
theorem Try.sh58 : Try.cfg.shared 58 = true := rfl
theorem Try.sh59 : Try.cfg.shared 59 = true := rfl
theorem Try.sh60 : Try.cfg.shared 60 = false := rfl
theorem Try.sh61 : Try.cfg.shared 61 = false := rfl
theorem Try.sh62 : Try.cfg.shared 62 = false := rfl
theorem Try.sh63 : Try.cfg.shared 63 = true := rfl
theorem Try.sh64 : Try.cfg.shared 64 = false := rfl
theorem Try.sh65 : Try.cfg.shared 65 = true := rfl
theorem Try.sh66 : Try.cfg.shared 66 = true := rfl
theorem Try.sh67 : Try.cfg.shared 67 = true := rfl
theorem Try.sh68 : Try.cfg.shared 68 = true := rfl
theorem Try.sh69 : Try.cfg.shared 69 = false := rfl
theorem Try.sh70 : Try.cfg.shared 70 = false := rfl
theorem Try.sh71 : Try.cfg.shared 71 = false := rfl
theorem Try.sh72 : Try.cfg.shared 72 = false := rfl
theorem Try.sh73 : Try.cfg.shared 73 = false := rfl
theorem Try.sh74 : Try.cfg.shared 74 = false := rfl
theorem Try.sh75 : Try.cfg.shared 75 = false := rfl
theorem Try.sh76 : Try.cfg.shared 76 = false := rfl
theorem Try.sh77 : Try.cfg.shared 77 = false := rfl
theorem Try.sh78 : Try.cfg.shared 78 = false := rfl
theorem Try.sh79 : Try.cfg.shared 79 = false := rfl
theorem Try.sh80 : Try.cfg.shared 80 = false := rfl
theorem Try.sh81 : Try.cfg.shared 81 = false := rfl
theorem Try.sh82 : Try.cfg.shared 82 = false := rfl
theorem Try.sh83 : Try.cfg.shared 83 = false := rfl
theorem Try.sh84 : Try.cfg.shared 84 = false := rfl
theorem Try.sh85 : Try.cfg.shared 85 = false := rfl
theorem Try.pr2_n (i : Nat) : Try.cfg.pr 2 i = none := show prOf Try.prT 2 i = none from prOf_none (by kernel_rfl) i
theorem Try.ann2_r : Try.cfg.ann 2 999999 = some ([], [], [], none, []) := by kernel_rfl
theorem Try.pr3_n (i : Nat) : Try.cfg.pr 3 i = none := show prOf Try.prT 3 i = none from prOf_none (by kernel_rfl) i
theorem Try.ann3_r : Try.cfg.ann 3 999999 = some ([4], [4], [], none, []) := by kernel_rfl
theorem Try.pr4_0 : Try.cfg.pr 4 0 = some [0, 1, 2, 3] := by kernel_rfl
theorem Try.pr4_1 : Try.cfg.pr 4 1 = some [0, 1, 2, 3, 31] := by kernel_rfl
theorem Try.pr4_2 : Try.cfg.pr 4 2 = some [8] := by kernel_rfl
theorem Try.pr4_3 : Try.cfg.pr 4 3 = some [0, 1, 2, 3] := by kernel_rfl
theorem Try.pr4_4 : Try.cfg.pr 4 4 = some [0, 1, 2, 3] := by kernel_rfl
theorem Try.pr4_5 : Try.cfg.pr 4 5 = some [0, 1, 2, 3, 9, 10] := by kernel_rfl
theorem Try.pr4_6 : Try.cfg.pr 4 6 = some [0, 2, 3, 9, 10, 11, 12] := by kernel_rfl
theorem Try.pr4_7 : Try.cfg.pr 4 7 = some [0, 3, 10, 11, 12, 13, 14] := by kernel_rfl
theorem Try.pr4_8 : Try.cfg.pr 4 8 = some [0, 3, 10, 12, 13, 14, 15, 16] := by kernel_rfl
theorem Try.pr4_9 : Try.cfg.pr 4 9 = some [0, 3, 10, 12, 13, 14, 15, 16, 17, 18] := by kernel_rfl
theorem Try.pr4_10 : Try.cfg.pr 4 10 = some [0, 3, 10, 12, 13, 14, 15, 16, 18, 19, 20] := by kernel_rfl
theorem Try.pr4_11 : Try.cfg.pr 4 11 = some [0, 3, 10, 12, 13, 14, 15, 16, 18, 19, 20, 21, 22] := by kernel_rfl
theorem Try.pr4_12 : Try.cfg.pr 4 12 = some [0, 3, 19, 21, 123] := by kernel_rfl
theorem Try.pr4_13 : Try.cfg.pr 4 13 = some [8] := by kernel_rfl
theorem Try.pr4_14 : Try.cfg.pr 4 14 = some [0, 3, 19, 21, 23] := by kernel_rfl
theorem Try.pr4_15 : Try.cfg.pr 4 15 = some [0, 3, 19, 21, 23, 24] := by kernel_rfl
theorem Try.pr4_16 : Try.cfg.pr 4 16 = some [0, 3, 19, 21, 23, 24, 127] := by kernel_rfl
theorem Try.pr4_17 : Try.cfg.pr 4 17 = some [0, 3, 19, 21, 23, 24] := by kernel_rfl
theorem Try.pr4_18 : Try.cfg.pr 4 18 = some [0, 3, 19, 21, 23, 24, 142] := by kernel_rfl
theorem Try.pr4_19 : Try.cfg.pr 4 19 = some [8] := by kernel_rfl
theorem Try.pr4_20 : Try.cfg.pr 4 20 = some [0, 3, 10, 19, 21, 23, 24] := by kernel_rfl
theorem Try.pr4_21 : Try.cfg.pr 4 21 = some [0, 3, 19, 21, 23, 24, 150] := by kernel_rfl
theorem Try.pr4_22 : Try.cfg.pr 4 22 = some [8] := by kernel_rfl
theorem Try.pr4_23 : Try.cfg.pr 4 23 = some [3, 19, 23, 25] := by kernel_rfl
theorem Try.pr4_24 : Try.cfg.pr 4 24 = some [3, 19, 23, 25, 153] := by kernel_rfl
theorem Try.pr4_25 : Try.cfg.pr 4 25 = some [3, 19, 23, 25] := by kernel_rfl
theorem Try.pr4_26 : Try.cfg.pr 4 26 = some [3, 19, 23, 25, 161] := by kernel_rfl
theorem Try.pr4_27 : Try.cfg.pr 4 27 = some [8] := by kernel_rfl
theorem Try.pr4_28 : Try.cfg.pr 4 28 = some [8] := by kernel_rfl
theorem Try.ann4_r : Try.cfg.ann 4 999999 = some ([8], [8], [], none, []) := by kernel_rfl
theorem Try.ann4_0 : Try.cfg.ann 4 0 = some ([0, 3, 19, 21, 23, 24], [3, 19, 23], [], none, []) := by kernel_rfl
theorem Try.ann4_1 : Try.cfg.ann 4 1 = none := by kernel_rfl
theorem Try.ann4_2 : Try.cfg.ann 4 2 = some ([3, 19, 23, 25], [19, 23], [], none, []) := by kernel_rfl
theorem Try.ann4_3 : Try.cfg.ann 4 3 = none := by kernel_rfl
theorem Try.pr5_0 : Try.cfg.pr 5 0 = some [0, 1, 2, 3] := by kernel_rfl
theorem Try.pr5_1 : Try.cfg.pr 5 1 = some [0, 1, 2, 3, 25] := by kernel_rfl
theorem Try.pr5_2 : Try.cfg.pr 5 2 = some [8] := by kernel_rfl
theorem Try.pr5_3 : Try.cfg.pr 5 3 = some [0, 1, 2, 28] := by kernel_rfl
theorem Try.pr5_4 : Try.cfg.pr 5 4 = some [0, 1, 2] := by kernel_rfl
theorem Try.pr5_5 : Try.cfg.pr 5 5 = some [0, 1] := by kernel_rfl
theorem Try.pr5_6 : Try.cfg.pr 5 6 = some [0, 1, 9, 10] := by kernel_rfl
theorem Try.pr5_7 : Try.cfg.pr 5 7 = some [0, 9, 10, 11, 12] := by kernel_rfl
theorem Try.pr5_8 : Try.cfg.pr 5 8 = some [0, 9, 10, 11, 12, 13, 14] := by kernel_rfl
theorem Try.pr5_9 : Try.cfg.pr 5 9 = some [0, 9, 10, 11, 12, 13, 14, 15, 16] := by kernel_rfl
theorem Try.pr5_10 : Try.cfg.pr 5 10 = some [0, 85] := by kernel_rfl
theorem Try.pr5_11 : Try.cfg.pr 5 11 = some [8] := by kernel_rfl
theorem Try.pr5_12 : Try.cfg.pr 5 12 = some [0, 10, 17] := by kernel_rfl
theorem Try.pr5_13 : Try.cfg.pr 5 13 = some [0, 10, 12, 17, 18] := by kernel_rfl
theorem Try.pr5_14 : Try.cfg.pr 5 14 = some [0, 10, 12, 14, 17, 18, 19] := by kernel_rfl
theorem Try.pr5_15 : Try.cfg.pr 5 15 = some [10, 12, 14, 16, 17, 18, 19, 20] := by kernel_rfl
theorem Try.pr5_16 : Try.cfg.pr 5 16 = some [8] := by kernel_rfl
theorem Try.ann5_r : Try.cfg.ann 5 999999 = some ([8], [8], [], none, []) := by kernel_rfl
theorem Try.pr6_0 : Try.cfg.pr 6 0 = some [0, 1, 2, 3, 4, 5] := by kernel_rfl
theorem Try.pr6_1 : Try.cfg.pr 6 1 = some [0, 1, 2, 3, 4, 5, 43] := by kernel_rfl
theorem Try.pr6_2 : Try.cfg.pr 6 2 = some [12] := by kernel_rfl
theorem Try.pr6_3 : Try.cfg.pr 6 3 = some [3, 4, 5, 13] := by kernel_rfl
theorem Try.pr6_4 : Try.cfg.pr 6 4 = some [3, 4, 13, 52] := by kernel_rfl
theorem Try.pr6_5 : Try.cfg.pr 6 5 = some [3, 13] := by kernel_rfl
theorem Try.pr6_6 : Try.cfg.pr 6 6 = some [3, 13, 15, 16] := by kernel_rfl
theorem Try.pr6_7 : Try.cfg.pr 6 7 = some [15, 16, 17, 18] := by kernel_rfl
theorem Try.pr6_8 : Try.cfg.pr 6 8 = some [12] := by kernel_rfl
theorem Try.ann6_r : Try.cfg.ann 6 999999 = some ([12], [12], [], none, []) := by kernel_rfl
theorem Try.pr7_n (i : Nat) : Try.cfg.pr 7 i = none := show prOf Try.prT 7 i = none from prOf_none (by kernel_rfl) i
theorem Try.ann7_r : Try.cfg.ann 7 999999 = some ([6], [6], [], none, []) := by kernel_rfl
theorem Try.ann7_0 : Try.cfg.ann 7 0 = some ([0, 2, 7], [], [], none, []) := by kernel_rfl
theorem Try.ann7_1 : Try.cfg.ann 7 1 = none := by kernel_rfl
theorem Try.pr8_n (i : Nat) : Try.cfg.pr 8 i = none := show prOf Try.prT 8 i = none from prOf_none (by kernel_rfl) i
theorem Try.ann8_r : Try.cfg.ann 8 999999 = some ([0], [0], [], none, []) := by kernel_rfl
theorem Try.pr9_0 : Try.cfg.pr 9 0 = some [0, 1] := by kernel_rfl
theorem Try.pr9_1 : Try.cfg.pr 9 1 = some [0, 1, 21] := by kernel_rfl
theorem Try.pr9_2 : Try.cfg.pr 9 2 = some [4, 5] := by kernel_rfl
theorem Try.pr9_3 : Try.cfg.pr 9 3 = some [0, 1, 24] := by kernel_rfl
theorem Try.pr9_4 : Try.cfg.pr 9 4 = some [4, 5] := by kernel_rfl
theorem Try.pr9_5 : Try.cfg.pr 9 5 = some [0, 1, 25, 26, 27] := by kernel_rfl
theorem Try.pr9_6 : Try.cfg.pr 9 6 = some [0, 1, 25, 26, 27, 28] := by kernel_rfl
theorem Try.pr9_7 : Try.cfg.pr 9 7 = some [0, 1, 7, 25, 26, 27] := by kernel_rfl
theorem Try.pr9_8 : Try.cfg.pr 9 8 = some [0, 1, 25, 26, 27, 33] := by kernel_rfl
theorem Try.pr9_9 : Try.cfg.pr 9 9 = some [4, 5] := by kernel_rfl
theorem Try.pr9_10 : Try.cfg.pr 9 10 = some [0, 1, 25, 26, 27] := by kernel_rfl
theorem Try.pr9_11 : Try.cfg.pr 9 11 = some [0, 1, 35, 36, 37] := by kernel_rfl
theorem Try.pr9_12 : Try.cfg.pr 9 12 = some [0, 1, 35, 36, 37, 38] := by kernel_rfl
theorem Try.pr9_13 : Try.cfg.pr 9 13 = some [0, 1, 9, 35, 36, 37] := by kernel_rfl
theorem Try.pr9_14 : Try.cfg.pr 9 14 = some [0, 1, 35, 36, 37, 44] := by kernel_rfl
theorem Try.pr9_15 : Try.cfg.pr 9 15 = some [4, 5] := by kernel_rfl
theorem Try.pr9_16 : Try.cfg.pr 9 16 = some [0, 1, 35, 36, 37] := by kernel_rfl
theorem Try.pr9_17 : Try.cfg.pr 9 17 = some [1, 10] := by kernel_rfl
theorem Try.pr9_18 : Try.cfg.pr 9 18 = some [1, 10, 11] := by kernel_rfl
theorem Try.pr9_19 : Try.cfg.pr 9 19 = some [1, 10, 11, 12] := by kernel_rfl
theorem Try.pr9_20 : Try.cfg.pr 9 20 = some [1, 10, 11, 12, 58] := by kernel_rfl
theorem Try.pr9_21 : Try.cfg.pr 9 21 = some [1, 10, 11, 12] := by kernel_rfl
theorem Try.pr9_22 : Try.cfg.pr 9 22 = some [1, 10, 11, 12, 61, 62, 63] := by kernel_rfl
theorem Try.pr9_23 : Try.cfg.pr 9 23 = some [1, 10, 11, 12, 61, 62, 63, 64] := by kernel_rfl
theorem Try.pr9_24 : Try.cfg.pr 9 24 = some [1, 10, 11, 12, 14, 61, 62, 63] := by kernel_rfl
theorem Try.pr9_25 : Try.cfg.pr 9 25 = some [1, 10, 11, 12, 15, 61, 62, 63] := by kernel_rfl
theorem Try.pr9_26 : Try.cfg.pr 9 26 = some [1, 10, 11, 12, 15, 61, 62, 63, 77] := by kernel_rfl
theorem Try.pr9_27 : Try.cfg.pr 9 27 = some [1, 10, 11, 12, 15, 61, 62, 63] := by kernel_rfl
theorem Try.pr9_28 : Try.cfg.pr 9 28 = some [1, 10, 11, 12, 61, 62, 63] := by kernel_rfl
theorem Try.pr9_29 : Try.cfg.pr 9 29 = some [1, 10, 11, 12, 61, 62, 63] := by kernel_rfl
theorem Try.pr9_30 : Try.cfg.pr 9 30 = some [10] := by kernel_rfl
theorem Try.pr9_31 : Try.cfg.pr 9 31 = some [4, 5] := by kernel_rfl
theorem Try.ann9_r : Try.cfg.ann 9 999999 = some ([4, 5], [4, 5], [], none, []) := by kernel_rfl
theorem Try.ann9_0 : Try.cfg.ann 9 0 = some ([0, 1, 25, 26, 27], [0, 1], [], none, []) := by kernel_rfl
theorem Try.ann9_1 : Try.cfg.ann 9 1 = none := by kernel_rfl
theorem Try.ann9_2 : Try.cfg.ann 9 2 = some ([0, 1, 35, 36, 37], [0, 1], [], none, []) := by kernel_rfl
theorem Try.ann9_3 : Try.cfg.ann 9 3 = none := by kernel_rfl
theorem Try.ann9_4 : Try.cfg.ann 9 4 = some ([1, 10, 11, 12], [10], [], none, []) := by kernel_rfl
theorem Try.ann9_5 : Try.cfg.ann 9 5 = none := by kernel_rfl
theorem Try.ann9_6 : Try.cfg.ann 9 6 = some ([1, 10, 11, 12, 61, 62, 63], [1, 10, 11, 12], [], none, []) := by kernel_rfl
theorem Try.ann9_7 : Try.cfg.ann 9 7 = none := by kernel_rfl
theorem Try.pr10_n (i : Nat) : Try.cfg.pr 10 i = none := show prOf Try.prT 10 i = none from prOf_none (by kernel_rfl) i
theorem Try.ann10_r : Try.cfg.ann 10 999999 = some ([4, 5], [4, 5], [], none, []) := by kernel_rfl
theorem Try.ann10_0 : Try.cfg.ann 10 0 = some ([0, 1, 6], [0, 1], [], none, []) := by kernel_rfl
theorem Try.ann10_1 : Try.cfg.ann 10 1 = none := by kernel_rfl
theorem Try.ann10_2 : Try.cfg.ann 10 2 = some ([0, 1, 7], [0, 1], [], none, []) := by kernel_rfl
theorem Try.ann10_3 : Try.cfg.ann 10 3 = none := by kernel_rfl
theorem Try.pr11_0 : Try.cfg.pr 11 0 = some [0] := by kernel_rfl
theorem Try.pr11_1 : Try.cfg.pr 11 1 = some [0, 3] := by kernel_rfl
theorem Try.pr11_2 : Try.cfg.pr 11 2 = some [0, 3, 11, 12, 13] := by kernel_rfl
theorem Try.pr11_3 : Try.cfg.pr 11 3 = some [0, 3, 11, 12, 13, 14] := by kernel_rfl
theorem Try.pr11_4 : Try.cfg.pr 11 4 = some [0, 3, 4, 5, 11, 12, 13] := by kernel_rfl
theorem Try.pr11_5 : Try.cfg.pr 11 5 = some [0, 3, 5, 11, 12, 13, 43] := by kernel_rfl
theorem Try.pr11_6 : Try.cfg.pr 11 6 = some [2] := by kernel_rfl
theorem Try.pr11_7 : Try.cfg.pr 11 7 = some [0, 3, 11, 12, 13] := by kernel_rfl
theorem Try.pr11_8 : Try.cfg.pr 11 8 = some [0, 3, 11, 12, 13] := by kernel_rfl
theorem Try.pr11_9 : Try.cfg.pr 11 9 = some [0, 3, 62] := by kernel_rfl
theorem Try.pr11_10 : Try.cfg.pr 11 10 = some [2] := by kernel_rfl
theorem Try.pr11_11 : Try.cfg.pr 11 11 = some [0, 3, 63, 64, 65] := by kernel_rfl
theorem Try.pr11_12 : Try.cfg.pr 11 12 = some [0, 3, 63, 64, 65, 66] := by kernel_rfl
theorem Try.pr11_13 : Try.cfg.pr 11 13 = some [0, 3, 7, 63, 64, 65] := by kernel_rfl
theorem Try.pr11_14 : Try.cfg.pr 11 14 = some [0, 3, 7, 63, 64, 65, 69, 70, 71] := by kernel_rfl
theorem Try.pr11_15 : Try.cfg.pr 11 15 = some [0, 3, 7, 63, 64, 65, 69, 70, 71, 72] := by kernel_rfl
theorem Try.pr11_16 : Try.cfg.pr 11 16 = some [0, 3, 7, 9, 63, 64, 65, 69, 70, 71] := by kernel_rfl
theorem Try.pr11_17 : Try.cfg.pr 11 17 = some [0, 3, 7, 63, 64, 65, 69, 70, 71, 81] := by kernel_rfl
theorem Try.pr11_18 : Try.cfg.pr 11 18 = some [2] := by kernel_rfl
theorem Try.pr11_19 : Try.cfg.pr 11 19 = some [0, 3, 7, 63, 64, 65, 69, 70, 71] := by kernel_rfl
theorem Try.pr11_20 : Try.cfg.pr 11 20 = some [0, 3, 63, 64, 65] := by kernel_rfl
theorem Try.pr11_21 : Try.cfg.pr 11 21 = some [2] := by kernel_rfl
theorem Try.ann11_r : Try.cfg.ann 11 999999 = some ([2], [2], [], none, []) := by kernel_rfl
theorem Try.ann11_0 : Try.cfg.ann 11 0 = some ([0, 3, 11, 12, 13], [0, 3], [], none, []) := by kernel_rfl
theorem Try.ann11_1 : Try.cfg.ann 11 1 = none := by kernel_rfl
theorem Try.ann11_2 : Try.cfg.ann 11 2 = some ([0, 3, 63, 64, 65], [], [], none, []) := by kernel_rfl
theorem Try.ann11_3 : Try.cfg.ann 11 3 = none := by kernel_rfl
theorem Try.ann11_4 : Try.cfg.ann 11 4 = some ([0, 3, 7, 63, 64, 65, 69, 70, 71], [0, 3, 63, 64, 65], [], none, []) := by kernel_rfl
theorem Try.ann11_5 : Try.cfg.ann 11 5 = none := by kernel_rfl
theorem Try.pr12_0 : Try.cfg.pr 12 0 = some [0] := by kernel_rfl
theorem Try.pr12_1 : Try.cfg.pr 12 1 = some [0, 34] := by kernel_rfl
theorem Try.pr12_2 : Try.cfg.pr 12 2 = some [2] := by kernel_rfl
theorem Try.pr12_3 : Try.cfg.pr 12 3 = some [0, 3] := by kernel_rfl
theorem Try.pr12_4 : Try.cfg.pr 12 4 = some [0, 3, 38] := by kernel_rfl
theorem Try.pr12_5 : Try.cfg.pr 12 5 = some [0, 3] := by kernel_rfl
theorem Try.pr12_6 : Try.cfg.pr 12 6 = some [0, 3, 71] := by kernel_rfl
theorem Try.pr12_7 : Try.cfg.pr 12 7 = some [2] := by kernel_rfl
theorem Try.pr12_8 : Try.cfg.pr 12 8 = some [0, 4] := by kernel_rfl
theorem Try.pr12_9 : Try.cfg.pr 12 9 = some [0, 4, 75] := by kernel_rfl
theorem Try.pr12_10 : Try.cfg.pr 12 10 = some [0, 4] := by kernel_rfl
theorem Try.pr12_11 : Try.cfg.pr 12 11 = some [0, 4, 5] := by kernel_rfl
theorem Try.pr12_12 : Try.cfg.pr 12 12 = some [0, 4, 5, 81] := by kernel_rfl
theorem Try.pr12_13 : Try.cfg.pr 12 13 = some [0, 4, 5] := by kernel_rfl
theorem Try.pr12_14 : Try.cfg.pr 12 14 = some [0, 4, 5, 7] := by kernel_rfl
theorem Try.pr12_15 : Try.cfg.pr 12 15 = some [0, 4, 5, 99] := by kernel_rfl
theorem Try.pr12_16 : Try.cfg.pr 12 16 = some [2] := by kernel_rfl
theorem Try.pr12_17 : Try.cfg.pr 12 17 = some [2] := by kernel_rfl
theorem Try.ann12_r : Try.cfg.ann 12 999999 = some ([2], [2], [], none, []) := by kernel_rfl
theorem Try.ann12_0 : Try.cfg.ann 12 0 = some ([0, 3], [0], [], none, []) := by kernel_rfl
theorem Try.ann12_1 : Try.cfg.ann 12 1 = none := by kernel_rfl
theorem Try.ann12_2 : Try.cfg.ann 12 2 = some ([0, 4], [], [], none, []) := by kernel_rfl
theorem Try.ann12_3 : Try.cfg.ann 12 3 = none := by kernel_rfl
theorem Try.ann12_4 : Try.cfg.ann 12 4 = some ([0, 4, 5], [0, 4], [], none, []) := by kernel_rfl
theorem Try.ann12_5 : Try.cfg.ann 12 5 = none := by kernel_rfl
theorem Try.pr13_n (i : Nat) : Try.cfg.pr 13 i = none := show prOf Try.prT 13 i = none from prOf_none (by kernel_rfl) i
theorem Try.ann13_r : Try.cfg.ann 13 999999 = some ([4], [4], [], none, []) := by kernel_rfl
theorem Try.ann13_0 : Try.cfg.ann 13 0 = some ([0, 1, 5], [], [], none, []) := by kernel_rfl
theorem Try.ann13_1 : Try.cfg.ann 13 1 = none := by kernel_rfl
theorem Try.pr14_n (i : Nat) : Try.cfg.pr 14 i = none := show prOf Try.prT 14 i = none from prOf_none (by kernel_rfl) i
theorem Try.ann14_r : Try.cfg.ann 14 999999 = some ([2], [2], [], none, []) := by kernel_rfl
theorem Try.ann14_0 : Try.cfg.ann 14 0 = some ([0, 3], [], [], none, []) := by kernel_rfl
theorem Try.ann14_1 : Try.cfg.ann 14 1 = none := by kernel_rfl
theorem Try.pr15_n (i : Nat) : Try.cfg.pr 15 i = none := show prOf Try.prT 15 i = none from prOf_none (by kernel_rfl) i
theorem Try.ann15_r : Try.cfg.ann 15 999999 = some ([4], [4], [], none, []) := by kernel_rfl
theorem Try.pr16_n (i : Nat) : Try.cfg.pr 16 i = none := show prOf Try.prT 16 i = none from prOf_none (by kernel_rfl) i
theorem Try.ann16_r : Try.cfg.ann 16 999999 = some ([4], [4], [], none, []) := by kernel_rfl
theorem Try.ann16_0 : Try.cfg.ann 16 0 = some ([0, 1, 5, 6], [5], [5], some 1, []) := by kernel_rfl
theorem Try.ann16_1 : Try.cfg.ann 16 1 = none := by kernel_rfl
theorem Try.pr17_n (i : Nat) : Try.cfg.pr 17 i = none := show prOf Try.prT 17 i = none from prOf_none (by kernel_rfl) i
theorem Try.ann17_r : Try.cfg.ann 17 999999 = some ([4, 5], [4, 5], [], none, []) := by kernel_rfl
theorem Try.ann17_0 : Try.cfg.ann 17 0 = none := by kernel_rfl
theorem Try.pr18_n (i : Nat) : Try.cfg.pr 18 i = none := show prOf Try.prT 18 i = none from prOf_none (by kernel_rfl) i
theorem Try.ann18_r : Try.cfg.ann 18 999999 = some ([2, 3], [2, 3], [], none, []) := by kernel_rfl
theorem Try.ann18_0 : Try.cfg.ann 18 0 = some ([4, 13, 14, 15], [4], [], none, []) := by kernel_rfl
theorem Try.ann18_1 : Try.cfg.ann 18 1 = none := by kernel_rfl
theorem Try.pr19_n (i : Nat) : Try.cfg.pr 19 i = none := show prOf Try.prT 19 i = none from prOf_none (by kernel_rfl) i
theorem Try.ann19_r : Try.cfg.ann 19 999999 = some ([2, 3], [2, 3], [], none, []) := by kernel_rfl
theorem Try.ann19_0 : Try.cfg.ann 19 0 = some ([0, 4, 5, 6], [5], [], none, []) := by kernel_rfl
theorem Try.ann19_1 : Try.cfg.ann 19 1 = none := by kernel_rfl
theorem Try.pr20_n (i : Nat) : Try.cfg.pr 20 i = none := show prOf Try.prT 20 i = none from prOf_none (by kernel_rfl) i
theorem Try.ann20_r : Try.cfg.ann 20 999999 = some ([4], [4], [], none, []) := by kernel_rfl
theorem Try.ann20_0 : Try.cfg.ann 20 0 = some ([0, 1, 5], [], [], none, []) := by kernel_rfl
theorem Try.ann20_1 : Try.cfg.ann 20 1 = none := by kernel_rfl
theorem Try.pr21_n (i : Nat) : Try.cfg.pr 21 i = none := show prOf Try.prT 21 i = none from prOf_none (by kernel_rfl) i
theorem Try.ann21_r : Try.cfg.ann 21 999999 = some ([4, 5], [4, 5], [], none, []) := by kernel_rfl
theorem Try.pr22_n (i : Nat) : Try.cfg.pr 22 i = none := show prOf Try.prT 22 i = none from prOf_none (by kernel_rfl) i
theorem Try.ann22_r : Try.cfg.ann 22 999999 = some ([2, 3], [2, 3], [], none, []) := by kernel_rfl
theorem Try.ann22_0 : Try.cfg.ann 22 0 = some ([0, 4, 5], [4], [], none, []) := by kernel_rfl
theorem Try.ann22_1 : Try.cfg.ann 22 1 = none := by kernel_rfl
theorem Try.pr23_n (i : Nat) : Try.cfg.pr 23 i = none := show prOf Try.prT 23 i = none from prOf_none (by kernel_rfl) i
theorem Try.ann23_r : Try.cfg.ann 23 999999 = some ([2], [2], [], none, []) := by kernel_rfl
theorem Try.ann23_0 : Try.cfg.ann 23 0 = some ([0, 3, 9, 10, 11], [], [], none, []) := by kernel_rfl
theorem Try.ann23_1 : Try.cfg.ann 23 1 = none := by kernel_rfl
theorem Try.pr24_n (i : Nat) : Try.cfg.pr 24 i = none := show prOf Try.prT 24 i = none from prOf_none (by kernel_rfl) i
theorem Try.ann24_r : Try.cfg.ann 24 999999 = some ([2], [2], [], none, []) := by kernel_rfl
theorem Try.ann24_0 : Try.cfg.ann 24 0 = some ([0, 3, 4], [], [], none, []) := by kernel_rfl
theorem Try.ann24_1 : Try.cfg.ann 24 1 = none := by kernel_rfl
theorem Try.pr25_n (i : Nat) : Try.cfg.pr 25 i = none := show prOf Try.prT 25 i = none from prOf_none (by kernel_rfl) i
theorem Try.ann25_r : Try.cfg.ann 25 999999 = some ([2, 3], [2, 3], [], none, []) := by kernel_rfl
theorem Try.ann25_0 : Try.cfg.ann 25 0 = some ([0, 4, 5], [4], [], none, []) := by kernel_rfl
theorem Try.ann25_1 : Try.cfg.ann 25 1 = none := by kernel_rfl
theorem Try.pr26_n (i : Nat) : Try.cfg.pr 26 i = none := show prOf Try.prT 26 i = none from prOf_none (by kernel_rfl) i
theorem Try.ann26_r : Try.cfg.ann 26 999999 = some ([2, 3], [2, 3], [], none, []) := by kernel_rfl
theorem Try.ann26_0 : Try.cfg.ann 26 0 = some ([0, 4, 5, 16, 17], [4], [], some 3, []) := by kernel_rfl
theorem Try.ann26_1 : Try.cfg.ann 26 1 = none := by kernel_rfl
theorem Try.ann26_2 : Try.cfg.ann 26 2 = some ([0, 4, 5, 7, 8, 16, 17], [0, 4, 5, 7, 16, 17], [], none, [7]) := by kernel_rfl
theorem Try.ann26_3 : Try.cfg.ann 26 3 = none := by kernel_rfl
theorem Try.pr27_n (i : Nat) : Try.cfg.pr 27 i = none := show prOf Try.prT 27 i = none from prOf_none (by kernel_rfl) i
theorem Try.ann27_r : Try.cfg.ann 27 999999 = some ([2, 3], [2, 3], [], none, []) := by kernel_rfl
theorem Try.ann27_0 : Try.cfg.ann 27 0 = some ([0, 4, 5, 6], [4], [], some 3, []) := by kernel_rfl
theorem Try.ann27_1 : Try.cfg.ann 27 1 = none := by kernel_rfl
theorem Try.ann27_2 : Try.cfg.ann 27 2 = some ([0, 4, 5, 6, 7, 8], [0, 4, 5, 6, 7], [], none, [7]) := by kernel_rfl
theorem Try.ann27_3 : Try.cfg.ann 27 3 = none := by kernel_rfl
theorem Try.pr28_n (i : Nat) : Try.cfg.pr 28 i = none := show prOf Try.prT 28 i = none from prOf_none (by kernel_rfl) i
theorem Try.ann28_r : Try.cfg.ann 28 999999 = some ([6, 7], [6, 7], [], none, []) := by kernel_rfl
theorem Try.pr29_0 : Try.cfg.pr 29 0 = some [0, 1] := by kernel_rfl
theorem Try.pr29_1 : Try.cfg.pr 29 1 = some [0, 1, 23] := by kernel_rfl
theorem Try.pr29_2 : Try.cfg.pr 29 2 = some [4, 5] := by kernel_rfl
theorem Try.pr29_3 : Try.cfg.pr 29 3 = some [0, 1, 6] := by kernel_rfl
theorem Try.pr29_4 : Try.cfg.pr 29 4 = some [0, 1, 6, 24, 25, 26] := by kernel_rfl
theorem Try.pr29_5 : Try.cfg.pr 29 5 = some [0, 1, 6, 24, 25, 26, 27] := by kernel_rfl
theorem Try.pr29_6 : Try.cfg.pr 29 6 = some [0, 1, 6, 8, 24, 25, 26] := by kernel_rfl
theorem Try.pr29_7 : Try.cfg.pr 29 7 = some [0, 1, 6, 8, 24, 25, 26, 32] := by kernel_rfl
theorem Try.pr29_8 : Try.cfg.pr 29 8 = some [4, 5] := by kernel_rfl
theorem Try.pr29_9 : Try.cfg.pr 29 9 = some [0, 1, 6, 9, 24, 25, 26] := by kernel_rfl
theorem Try.pr29_10 : Try.cfg.pr 29 10 = some [0, 1, 6, 24, 25, 26] := by kernel_rfl
theorem Try.pr29_11 : Try.cfg.pr 29 11 = some [0, 1, 6, 24, 25, 26] := by kernel_rfl
theorem Try.pr29_12 : Try.cfg.pr 29 12 = some [0, 1, 6, 43, 44, 45] := by kernel_rfl
theorem Try.pr29_13 : Try.cfg.pr 29 13 = some [0, 1, 6, 43, 44, 45, 46] := by kernel_rfl
theorem Try.pr29_14 : Try.cfg.pr 29 14 = some [0, 1, 6, 12, 43, 44, 45] := by kernel_rfl
theorem Try.pr29_15 : Try.cfg.pr 29 15 = some [0, 1, 6, 43, 44, 45, 55] := by kernel_rfl
theorem Try.pr29_16 : Try.cfg.pr 29 16 = some [4, 5] := by kernel_rfl
theorem Try.pr29_17 : Try.cfg.pr 29 17 = some [0, 1, 6, 43, 44, 45] := by kernel_rfl
theorem Try.pr29_18 : Try.cfg.pr 29 18 = some [0, 6, 59] := by kernel_rfl
theorem Try.pr29_19 : Try.cfg.pr 29 19 = some [4, 5] := by kernel_rfl
theorem Try.pr29_20 : Try.cfg.pr 29 20 = some [0, 6, 13] := by kernel_rfl
theorem Try.pr29_21 : Try.cfg.pr 29 21 = some [0, 6, 13, 14] := by kernel_rfl
theorem Try.pr29_22 : Try.cfg.pr 29 22 = some [0, 13, 14, 61, 62, 63] := by kernel_rfl
theorem Try.pr29_23 : Try.cfg.pr 29 23 = some [0, 13, 14, 61, 62, 63, 64] := by kernel_rfl
theorem Try.pr29_24 : Try.cfg.pr 29 24 = some [0, 13, 14, 15, 16, 61, 62, 63] := by kernel_rfl
theorem Try.pr29_25 : Try.cfg.pr 29 25 = some [0, 13, 14, 15, 16, 17, 18, 61, 62, 63] := by kernel_rfl
theorem Try.pr29_26 : Try.cfg.pr 29 26 = some [0, 13, 14, 15, 16, 17, 61, 62, 63, 75] := by kernel_rfl
theorem Try.pr29_27 : Try.cfg.pr 29 27 = some [0, 13, 14, 15, 16, 17, 61, 62, 63] := by kernel_rfl
theorem Try.pr29_28 : Try.cfg.pr 29 28 = some [0, 13, 14, 15, 16, 17, 61, 62, 63] := by kernel_rfl
theorem Try.pr29_29 : Try.cfg.pr 29 29 = some [0, 13, 14, 15, 16, 17, 61, 62, 63, 81, 82, 83] := by kernel_rfl
theorem Try.pr29_30 : Try.cfg.pr 29 30 = some [0, 13, 14, 15, 16, 17, 61, 62, 63, 81, 82, 83, 84] := by kernel_rfl
theorem Try.pr29_31 : Try.cfg.pr 29 31 = some [0, 13, 14, 15, 16, 17, 20, 61, 62, 63, 81, 82, 83] := by kernel_rfl
theorem Try.pr29_32 : Try.cfg.pr 29 32 = some [0, 13, 14, 15, 16, 17, 61, 62, 63, 81, 82, 83] := by kernel_rfl
theorem Try.pr29_33 : Try.cfg.pr 29 33 = some [0, 13, 14, 15, 16, 17, 61, 62, 63, 81, 82, 83] := by kernel_rfl
theorem Try.pr29_34 : Try.cfg.pr 29 34 = some [0, 13, 14, 61, 62, 63] := by kernel_rfl
theorem Try.pr29_35 : Try.cfg.pr 29 35 = some [0, 13, 14, 61, 62, 63] := by kernel_rfl
theorem Try.pr29_36 : Try.cfg.pr 29 36 = some [4, 5] := by kernel_rfl
theorem Try.ann29_r : Try.cfg.ann 29 999999 = some ([4, 5], [4, 5], [], none, []) := by kernel_rfl
theorem Try.ann29_0 : Try.cfg.ann 29 0 = some ([0, 1, 6, 24, 25, 26], [0, 1, 6], [], none, []) := by kernel_rfl
theorem Try.ann29_1 : Try.cfg.ann 29 1 = none := by kernel_rfl
theorem Try.ann29_2 : Try.cfg.ann 29 2 = some ([0, 1, 6, 43, 44, 45], [0, 1, 6], [], none, []) := by kernel_rfl
theorem Try.ann29_3 : Try.cfg.ann 29 3 = none := by kernel_rfl
theorem Try.ann29_4 : Try.cfg.ann 29 4 = some ([0, 13, 14, 61, 62, 63], [13], [], none, []) := by kernel_rfl
theorem Try.ann29_5 : Try.cfg.ann 29 5 = none := by kernel_rfl
theorem Try.ann29_6 : Try.cfg.ann 29 6 = some ([0, 13, 14, 15, 16, 17, 61, 62, 63, 81, 82, 83], [0, 13, 14, 15, 17, 61, 62, 63], [], none, []) := by kernel_rfl
theorem Try.ann29_7 : Try.cfg.ann 29 7 = none := by kernel_rfl
theorem Try.pr30_0 : Try.cfg.pr 30 0 = some [0, 1] := by kernel_rfl
theorem Try.pr30_1 : Try.cfg.pr 30 1 = some [0, 1, 6] := by kernel_rfl
theorem Try.pr30_2 : Try.cfg.pr 30 2 = some [0, 1, 6, 7] := by kernel_rfl
theorem Try.pr30_3 : Try.cfg.pr 30 3 = some [0, 1, 6, 7, 20] := by kernel_rfl
theorem Try.pr30_4 : Try.cfg.pr 30 4 = some [0, 1, 6, 7] := by kernel_rfl
theorem Try.pr30_5 : Try.cfg.pr 30 5 = some [0, 1, 6, 7] := by kernel_rfl
theorem Try.pr30_6 : Try.cfg.pr 30 6 = some [0, 1, 32] := by kernel_rfl
theorem Try.pr30_7 : Try.cfg.pr 30 7 = some [4, 5] := by kernel_rfl
theorem Try.pr30_8 : Try.cfg.pr 30 8 = some [0, 1, 8] := by kernel_rfl
theorem Try.pr30_9 : Try.cfg.pr 30 9 = some [0, 1, 8, 36] := by kernel_rfl
theorem Try.pr30_10 : Try.cfg.pr 30 10 = some [0, 1, 8] := by kernel_rfl
theorem Try.pr30_11 : Try.cfg.pr 30 11 = some [0, 1, 8, 48] := by kernel_rfl
theorem Try.pr30_12 : Try.cfg.pr 30 12 = some [4, 5] := by kernel_rfl
theorem Try.pr30_13 : Try.cfg.pr 30 13 = some [0, 1, 51] := by kernel_rfl
theorem Try.pr30_14 : Try.cfg.pr 30 14 = some [4, 5] := by kernel_rfl
theorem Try.pr30_15 : Try.cfg.pr 30 15 = some [0, 1, 9] := by kernel_rfl
theorem Try.pr30_16 : Try.cfg.pr 30 16 = some [0, 1, 9, 10] := by kernel_rfl
theorem Try.pr30_17 : Try.cfg.pr 30 17 = some [0, 1, 9, 10, 11] := by kernel_rfl
theorem Try.pr30_18 : Try.cfg.pr 30 18 = some [0, 1, 9, 10, 11, 58] := by kernel_rfl
theorem Try.pr30_19 : Try.cfg.pr 30 19 = some [0, 1, 9, 10, 11] := by kernel_rfl
theorem Try.pr30_20 : Try.cfg.pr 30 20 = some [0, 1, 9, 10, 11, 64] := by kernel_rfl
theorem Try.pr30_21 : Try.cfg.pr 30 21 = some [0, 1, 9, 10, 11, 12] := by kernel_rfl
theorem Try.pr30_22 : Try.cfg.pr 30 22 = some [0, 1, 9, 10, 11, 12, 13] := by kernel_rfl
theorem Try.pr30_23 : Try.cfg.pr 30 23 = some [0, 1, 9, 10, 11, 12, 13, 69] := by kernel_rfl
theorem Try.pr30_24 : Try.cfg.pr 30 24 = some [0, 1, 9, 10, 11, 12, 13] := by kernel_rfl
theorem Try.pr30_25 : Try.cfg.pr 30 25 = some [0, 1, 9, 10, 11, 12, 13, 14] := by kernel_rfl
theorem Try.pr30_26 : Try.cfg.pr 30 26 = some [0, 1, 9, 10, 11, 12, 13, 14, 82] := by kernel_rfl
theorem Try.pr30_27 : Try.cfg.pr 30 27 = some [0, 1, 9, 10, 11, 12, 13, 14] := by kernel_rfl
theorem Try.pr30_28 : Try.cfg.pr 30 28 = some [0, 1, 9, 10, 11, 12, 13, 14, 98] := by kernel_rfl
theorem Try.pr30_29 : Try.cfg.pr 30 29 = some [0, 1, 9, 10, 11, 12, 13, 14] := by kernel_rfl
theorem Try.pr30_30 : Try.cfg.pr 30 30 = some [0, 1, 9, 10, 11, 12, 13, 14] := by kernel_rfl
theorem Try.pr30_31 : Try.cfg.pr 30 31 = some [0, 1, 9, 10, 11] := by kernel_rfl
theorem Try.pr30_32 : Try.cfg.pr 30 32 = some [4, 5] := by kernel_rfl
theorem Try.ann30_r : Try.cfg.ann 30 999999 = some ([4, 5], [4, 5], [], none, []) := by kernel_rfl
theorem Try.ann30_0 : Try.cfg.ann 30 0 = some ([0, 1, 6, 7], [0, 1, 6], [], none, []) := by kernel_rfl
theorem Try.ann30_1 : Try.cfg.ann 30 1 = none := by kernel_rfl
theorem Try.ann30_2 : Try.cfg.ann 30 2 = some ([0, 1, 8], [0, 1], [], none, []) := by kernel_rfl
theorem Try.ann30_3 : Try.cfg.ann 30 3 = none := by kernel_rfl
theorem Try.ann30_4 : Try.cfg.ann 30 4 = some ([0, 1, 9, 10, 11], [9], [], none, []) := by kernel_rfl
theorem Try.ann30_5 : Try.cfg.ann 30 5 = none := by kernel_rfl
theorem Try.ann30_6 : Try.cfg.ann 30 6 = some ([0, 1, 9, 10, 11, 12, 13], [0, 1, 9, 10, 11, 12], [], none, []) := by kernel_rfl
theorem Try.ann30_7 : Try.cfg.ann 30 7 = none := by kernel_rfl
theorem Try.ann30_8 : Try.cfg.ann 30 8 = some ([0, 1, 9, 10, 11, 12, 13, 14], [0, 1, 9, 10, 11, 12, 13], [], none, []) := by kernel_rfl
theorem Try.ann30_9 : Try.cfg.ann 30 9 = none := by kernel_rfl
theorem Try.pr31_n (i : Nat) : Try.cfg.pr 31 i = none := show prOf Try.prT 31 i = none from prOf_none (by kernel_rfl) i
theorem Try.ann31_r : Try.cfg.ann 31 999999 = some ([2], [2], [], none, []) := by kernel_rfl
theorem Try.ann31_0 : Try.cfg.ann 31 0 = some ([3, 8, 9], [3], [], none, []) := by kernel_rfl
theorem Try.ann31_1 : Try.cfg.ann 31 1 = none := by kernel_rfl
theorem Try.pr32_n (i : Nat) : Try.cfg.pr 32 i = none := show prOf Try.prT 32 i = none from prOf_none (by kernel_rfl) i
theorem Try.ann32_r : Try.cfg.ann 32 999999 = some ([2], [2], [], none, []) := by kernel_rfl
theorem Try.pr33_n (i : Nat) : Try.cfg.pr 33 i = none := show prOf Try.prT 33 i = none from prOf_none (by kernel_rfl) i
theorem Try.ann33_r : Try.cfg.ann 33 999999 = some ([4], [4], [], none, []) := by kernel_rfl
theorem Try.ann33_0 : Try.cfg.ann 33 0 = some ([0, 5, 11, 12, 13], [5], [], none, []) := by kernel_rfl
theorem Try.ann33_1 : Try.cfg.ann 33 1 = none := by kernel_rfl
theorem Try.pr34_n (i : Nat) : Try.cfg.pr 34 i = none := show prOf Try.prT 34 i = none from prOf_none (by kernel_rfl) i
theorem Try.ann34_r : Try.cfg.ann 34 999999 = some ([], [], [], none, []) := by kernel_rfl
theorem Try.pr35_n (i : Nat) : Try.cfg.pr 35 i = none := show prOf Try.prT 35 i = none from prOf_none (by kernel_rfl) i
theorem Try.ann35_r : Try.cfg.ann 35 999999 = some ([4], [4], [], none, []) := by kernel_rfl
theorem Try.ann35_0 : Try.cfg.ann 35 0 = some ([0, 1, 9, 10, 11], [0, 1], [], none, []) := by kernel_rfl
theorem Try.ann35_1 : Try.cfg.ann 35 1 = none := by kernel_rfl
theorem Try.pr36_0 : Try.cfg.pr 36 0 = some [0, 1] := by kernel_rfl
theorem Try.pr36_1 : Try.cfg.pr 36 1 = some [0, 1, 5] := by kernel_rfl
theorem Try.pr36_2 : Try.cfg.pr 36 2 = some [1, 5, 6] := by kernel_rfl
theorem Try.pr36_3 : Try.cfg.pr 36 3 = some [1, 5, 6, 20] := by kernel_rfl
theorem Try.pr36_4 : Try.cfg.pr 36 4 = some [1, 5, 6, 7] := by kernel_rfl
theorem Try.pr36_5 : Try.cfg.pr 36 5 = some [1, 5, 6, 7] := by kernel_rfl
theorem Try.pr36_6 : Try.cfg.pr 36 6 = some [1, 5, 6, 7, 8] := by kernel_rfl
theorem Try.pr36_7 : Try.cfg.pr 36 7 = some [1, 5, 6, 7, 8, 35] := by kernel_rfl
theorem Try.pr36_8 : Try.cfg.pr 36 8 = some [1, 5, 6, 7, 8] := by kernel_rfl
theorem Try.pr36_9 : Try.cfg.pr 36 9 = some [1, 5, 6, 7, 8, 9] := by kernel_rfl
theorem Try.pr36_10 : Try.cfg.pr 36 10 = some [1, 5, 6, 7, 8, 9, 10, 11] := by kernel_rfl
theorem Try.pr36_11 : Try.cfg.pr 36 11 = some [1, 5, 6, 7, 8, 9, 10, 51] := by kernel_rfl
theorem Try.pr36_12 : Try.cfg.pr 36 12 = some [1, 5, 6, 7, 8, 9] := by kernel_rfl
theorem Try.pr36_13 : Try.cfg.pr 36 13 = some [1, 5, 6, 7, 8] := by kernel_rfl
theorem Try.pr36_14 : Try.cfg.pr 36 14 = some [4] := by kernel_rfl
theorem Try.ann36_r : Try.cfg.ann 36 999999 = some ([4], [4], [], none, []) := by kernel_rfl
theorem Try.ann36_0 : Try.cfg.ann 36 0 = some ([1, 5, 6], [5], [], none, []) := by kernel_rfl
theorem Try.ann36_1 : Try.cfg.ann 36 1 = none := by kernel_rfl
theorem Try.ann36_2 : Try.cfg.ann 36 2 = some ([1, 5, 6, 7, 8], [1, 5, 6], [], none, []) := by kernel_rfl
theorem Try.ann36_3 : Try.cfg.ann 36 3 = none := by kernel_rfl
theorem Try.pr37_n (i : Nat) : Try.cfg.pr 37 i = none := show prOf Try.prT 37 i = none from prOf_none (by kernel_rfl) i
theorem Try.ann37_r : Try.cfg.ann 37 999999 = some ([4], [4], [], none, []) := by kernel_rfl
theorem Try.ann37_0 : Try.cfg.ann 37 0 = some ([0, 1, 12, 13], [], [], none, []) := by kernel_rfl
theorem Try.ann37_1 : Try.cfg.ann 37 1 = none := by kernel_rfl
theorem Try.pr38_n (i : Nat) : Try.cfg.pr 38 i = none := show prOf Try.prT 38 i = none from prOf_none (by kernel_rfl) i
theorem Try.ann38_r : Try.cfg.ann 38 999999 = some ([2], [2], [], none, []) := by kernel_rfl
theorem Try.ann38_0 : Try.cfg.ann 38 0 = some ([0, 3, 4], [3], [], none, []) := by kernel_rfl
theorem Try.ann38_1 : Try.cfg.ann 38 1 = none := by kernel_rfl
theorem Try.pr39_n (i : Nat) : Try.cfg.pr 39 i = none := show prOf Try.prT 39 i = none from prOf_none (by kernel_rfl) i
theorem Try.ann39_r : Try.cfg.ann 39 999999 = some ([4], [4], [], none, []) := by kernel_rfl
theorem Try.pr40_n (i : Nat) : Try.cfg.pr 40 i = none := show prOf Try.prT 40 i = none from prOf_none (by kernel_rfl) i
theorem Try.ann40_r : Try.cfg.ann 40 999999 = some ([4, 5], [4, 5], [], none, []) := by kernel_rfl
theorem Try.ann40_0 : Try.cfg.ann 40 0 = some ([0, 1, 6, 7], [0, 1, 6], [], none, []) := by kernel_rfl
theorem Try.ann40_1 : Try.cfg.ann 40 1 = none := by kernel_rfl
theorem Try.pr41_n (i : Nat) : Try.cfg.pr 41 i = none := show prOf Try.prT 41 i = none from prOf_none (by kernel_rfl) i
theorem Try.ann41_r : Try.cfg.ann 41 999999 = some ([4], [4], [], none, []) := by kernel_rfl
theorem Try.ann41_0 : Try.cfg.ann 41 0 = some ([0, 1, 5, 6], [5], [], none, []) := by kernel_rfl
theorem Try.ann41_1 : Try.cfg.ann 41 1 = none := by kernel_rfl
theorem Try.pr42_n (i : Nat) : Try.cfg.pr 42 i = none := show prOf Try.prT 42 i = none from prOf_none (by kernel_rfl) i
theorem Try.ann42_r : Try.cfg.ann 42 999999 = some ([2], [2], [], none, []) := by kernel_rfl
theorem Try.pr43_n (i : Nat) : Try.cfg.pr 43 i = none := show prOf Try.prT 43 i = none from prOf_none (by kernel_rfl) i
theorem Try.ann43_r : Try.cfg.ann 43 999999 = some ([4, 5], [4, 5], [], none, []) := by kernel_rfl
theorem Try.ann43_0 : Try.cfg.ann 43 0 = some ([1, 4, 6, 13, 14, 15], [4, 6], [], none, []) := by kernel_rfl
theorem Try.ann43_1 : Try.cfg.ann 43 1 = none := by kernel_rfl
theorem Try.pr44_n (i : Nat) : Try.cfg.pr 44 i = none := show prOf Try.prT 44 i = none from prOf_none (by kernel_rfl) i
theorem Try.ann44_r : Try.cfg.ann 44 999999 = some ([4], [4], [], none, []) := by kernel_rfl
theorem Try.ann44_0 : Try.cfg.ann 44 0 = some ([3, 4, 5, 8, 9, 10], [4, 5], [], none, []) := by kernel_rfl
theorem Try.ann44_1 : Try.cfg.ann 44 1 = none := by kernel_rfl
theorem Try.pr45_n (i : Nat) : Try.cfg.pr 45 i = none := show prOf Try.prT 45 i = none from prOf_none (by kernel_rfl) i
theorem Try.ann45_r : Try.cfg.ann 45 999999 = some ([2], [2], [], none, []) := by kernel_rfl
theorem Try.pr46_n (i : Nat) : Try.cfg.pr 46 i = none := show prOf Try.prT 46 i = none from prOf_none (by kernel_rfl) i
theorem Try.ann46_r : Try.cfg.ann 46 999999 = some ([4], [4], [], none, []) := by kernel_rfl
theorem Try.ann46_0 : Try.cfg.ann 46 0 = some ([0, 1, 5, 6], [5], [], none, []) := by kernel_rfl
theorem Try.ann46_1 : Try.cfg.ann 46 1 = none := by kernel_rfl
theorem Try.pr47_0 : Try.cfg.pr 47 0 = some [0, 1, 2, 3, 4, 10] := by kernel_rfl
theorem Try.pr47_1 : Try.cfg.pr 47 1 = some [0, 1, 2, 3, 4, 10, 11] := by kernel_rfl
theorem Try.pr47_2 : Try.cfg.pr 47 2 = some [0, 1, 2, 3, 4, 10, 11, 12] := by kernel_rfl
theorem Try.pr47_3 : Try.cfg.pr 47 3 = some [0, 1, 2, 3, 4, 10, 11, 12, 25] := by kernel_rfl
theorem Try.pr47_4 : Try.cfg.pr 47 4 = some [] := by kernel_rfl
theorem Try.pr47_5 : Try.cfg.pr 47 5 = some [0, 1, 2, 3, 4, 10, 11, 12, 32] := by kernel_rfl
theorem Try.pr47_6 : Try.cfg.pr 47 6 = some [] := by kernel_rfl
theorem Try.pr47_7 : Try.cfg.pr 47 7 = some [0, 1, 2, 3, 4, 10, 11, 12, 39] := by kernel_rfl
theorem Try.pr47_8 : Try.cfg.pr 47 8 = some [0, 1, 2, 3, 4, 10, 11, 12] := by kernel_rfl
theorem Try.pr47_9 : Try.cfg.pr 47 9 = some [0, 1, 2, 3, 4, 10, 11, 12] := by kernel_rfl
theorem Try.pr47_10 : Try.cfg.pr 47 10 = some [0, 1, 2, 3, 4, 10, 11, 12, 13, 14] := by kernel_rfl
theorem Try.pr47_11 : Try.cfg.pr 47 11 = some [0, 1, 2, 3, 4, 10, 11, 12, 13, 14, 56] := by kernel_rfl
theorem Try.pr47_12 : Try.cfg.pr 47 12 = some [0, 1, 2, 3, 4, 10, 11, 12, 13] := by kernel_rfl
theorem Try.pr47_13 : Try.cfg.pr 47 13 = some [0, 1, 2, 3, 4, 10, 11, 12, 13] := by kernel_rfl
theorem Try.pr47_14 : Try.cfg.pr 47 14 = some [0, 1, 2, 3, 4, 10, 11, 12, 13, 14] := by kernel_rfl
theorem Try.pr47_15 : Try.cfg.pr 47 15 = some [0, 1, 2, 3, 4, 10, 11, 12, 13, 75] := by kernel_rfl
theorem Try.pr47_16 : Try.cfg.pr 47 16 = some [0, 1, 2, 3, 4, 10, 11, 12, 13, 80] := by kernel_rfl
theorem Try.pr47_17 : Try.cfg.pr 47 17 = some [0, 1, 2, 3, 4, 10, 11, 12, 13, 97] := by kernel_rfl
theorem Try.pr47_18 : Try.cfg.pr 47 18 = some [0, 2, 3, 4, 10, 11, 15] := by kernel_rfl
theorem Try.pr47_19 : Try.cfg.pr 47 19 = some [0, 1, 2, 3, 4, 10, 11] := by kernel_rfl
theorem Try.pr47_20 : Try.cfg.pr 47 20 = some [0, 1, 2, 3, 4, 12, 16, 17] := by kernel_rfl
theorem Try.pr47_21 : Try.cfg.pr 47 21 = some [0, 1, 2, 3, 4, 11, 12, 16] := by kernel_rfl
theorem Try.pr47_22 : Try.cfg.pr 47 22 = some [0, 1, 2, 3, 4, 11, 12, 16, 18, 19] := by kernel_rfl
theorem Try.pr47_23 : Try.cfg.pr 47 23 = some [0, 1, 2, 3, 4, 11, 16, 18, 19, 20] := by kernel_rfl
theorem Try.pr47_24 : Try.cfg.pr 47 24 = some [0, 1, 2, 3, 4, 11, 16, 18, 19, 20, 125] := by kernel_rfl
theorem Try.pr47_25 : Try.cfg.pr 47 25 = some [0, 1, 2, 3, 4, 10, 11, 16] := by kernel_rfl
theorem Try.pr47_26 : Try.cfg.pr 47 26 = some [0, 2, 3, 4, 10, 11, 16] := by kernel_rfl
theorem Try.pr47_27 : Try.cfg.pr 47 27 = some [0, 1, 2, 3, 4, 10, 11] := by kernel_rfl
theorem Try.pr47_28 : Try.cfg.pr 47 28 = some [0, 1, 2, 3, 4, 10, 11, 16] := by kernel_rfl
theorem Try.pr47_29 : Try.cfg.pr 47 29 = some [0, 1, 3, 4, 10, 11, 16] := by kernel_rfl
theorem Try.pr47_30 : Try.cfg.pr 47 30 = some [0, 1, 2, 3, 4, 10, 11] := by kernel_rfl
theorem Try.ann47_r : Try.cfg.ann 47 999999 = some ([], [], [], none, []) := by kernel_rfl
theorem Try.ann47_0 : Try.cfg.ann 47 0 = some ([0, 1, 2, 3, 4, 10, 11], [], [], none, []) := by kernel_rfl
theorem Try.ann47_1 : Try.cfg.ann 47 1 = none := by kernel_rfl
theorem Try.pr48_n (i : Nat) : Try.cfg.pr 48 i = none := show prOf Try.prT 48 i = none from prOf_none (by kernel_rfl) i
theorem Try.ann48_r : Try.cfg.ann 48 999999 = some ([2], [2], [], none, []) := by kernel_rfl
theorem Try.pr49_n (i : Nat) : Try.cfg.pr 49 i = none := show prOf Try.prT 49 i = none from prOf_none (by kernel_rfl) i
theorem Try.ann49_r : Try.cfg.ann 49 999999 = some ([4], [4], [], none, []) := by kernel_rfl
theorem Try.pr50_n (i : Nat) : Try.cfg.pr 50 i = none := show prOf Try.prT 50 i = none from prOf_none (by kernel_rfl) i
theorem Try.ann50_r : Try.cfg.ann 50 999999 = some ([2], [2], [], none, []) := by kernel_rfl
theorem Try.ann50_0 : Try.cfg.ann 50 0 = some ([3, 9, 10, 11], [3], [], none, []) := by kernel_rfl
theorem Try.ann50_1 : Try.cfg.ann 50 1 = none := by kernel_rfl
theorem Try.pr51_n (i : Nat) : Try.cfg.pr 51 i = none := show prOf Try.prT 51 i = none from prOf_none (by kernel_rfl) i
theorem Try.ann51_r : Try.cfg.ann 51 999999 = some ([2], [2], [], none, []) := by kernel_rfl
theorem Try.ann51_0 : Try.cfg.ann 51 0 = some ([0, 3, 4], [3], [], none, []) := by kernel_rfl
theorem Try.ann51_1 : Try.cfg.ann 51 1 = none := by kernel_rfl
theorem Try.pr52_n (i : Nat) : Try.cfg.pr 52 i = none := show prOf Try.prT 52 i = none from prOf_none (by kernel_rfl) i
theorem Try.ann52_r : Try.cfg.ann 52 999999 = some ([], [], [], none, []) := by kernel_rfl
theorem Try.ann52_0 : Try.cfg.ann 52 0 = some ([0, 1, 2, 3, 8], [], [], none, []) := by kernel_rfl
theorem Try.ann52_1 : Try.cfg.ann 52 1 = none := by kernel_rfl
theorem Try.ann52_2 : Try.cfg.ann 52 2 = some ([0, 1, 2, 3, 8, 9], [0, 1, 2, 3, 8], [], none, []) := by kernel_rfl
theorem Try.ann52_3 : Try.cfg.ann 52 3 = none := by kernel_rfl
theorem Try.pr53_n (i : Nat) : Try.cfg.pr 53 i = none := show prOf Try.prT 53 i = none from prOf_none (by kernel_rfl) i
theorem Try.ann53_r : Try.cfg.ann 53 999999 = some ([], [], [], none, []) := by kernel_rfl
theorem Try.ann53_0 : Try.cfg.ann 53 0 = some ([0, 3, 8, 9, 10, 11], [0, 3, 8, 9, 10], [], none, []) := by kernel_rfl
theorem Try.ann53_1 : Try.cfg.ann 53 1 = none := by kernel_rfl
theorem Try.ann53_2 : Try.cfg.ann 53 2 = some ([0, 3, 8, 9, 12], [], [], none, []) := by kernel_rfl
theorem Try.ann53_3 : Try.cfg.ann 53 3 = none := by kernel_rfl
theorem Try.pr54_0 : Try.cfg.pr 54 0 = some [0, 1, 8] := by kernel_rfl
theorem Try.pr54_1 : Try.cfg.pr 54 1 = some [0, 1, 8, 17] := by kernel_rfl
theorem Try.pr54_2 : Try.cfg.pr 54 2 = some [0, 1, 8, 9] := by kernel_rfl
theorem Try.pr54_3 : Try.cfg.pr 54 3 = some [0, 1, 8, 9, 10] := by kernel_rfl
theorem Try.pr54_4 : Try.cfg.pr 54 4 = some [0, 1, 8, 9, 10, 11] := by kernel_rfl
theorem Try.pr54_5 : Try.cfg.pr 54 5 = some [0, 1, 8, 9, 10, 11, 35] := by kernel_rfl
theorem Try.pr54_6 : Try.cfg.pr 54 6 = some [0, 1, 8, 9, 10, 11] := by kernel_rfl
theorem Try.pr54_7 : Try.cfg.pr 54 7 = some [0, 1, 8, 9, 10, 11, 12] := by kernel_rfl
theorem Try.pr54_8 : Try.cfg.pr 54 8 = some [0, 1, 8, 9, 10, 11, 12, 45] := by kernel_rfl
theorem Try.pr54_9 : Try.cfg.pr 54 9 = some [0, 1, 8, 9, 10, 11, 12] := by kernel_rfl
theorem Try.pr54_10 : Try.cfg.pr 54 10 = some [0, 1, 8, 9, 10, 11] := by kernel_rfl
theorem Try.ann54_r : Try.cfg.ann 54 999999 = some ([], [], [], none, []) := by kernel_rfl
theorem Try.ann54_0 : Try.cfg.ann 54 0 = some ([0, 1, 8, 9, 10, 11], [], [], none, []) := by kernel_rfl
theorem Try.ann54_1 : Try.cfg.ann 54 1 = none := by kernel_rfl
theorem Try.pr55_n (i : Nat) : Try.cfg.pr 55 i = none := show prOf Try.prT 55 i = none from prOf_none (by kernel_rfl) i
theorem Try.ann55_r : Try.cfg.ann 55 999999 = some ([8, 9], [8, 9], [], none, []) := by kernel_rfl
theorem Try.ann55_0 : Try.cfg.ann 55 0 = none := by kernel_rfl
theorem Try.pr56_n (i : Nat) : Try.cfg.pr 56 i = none := show prOf Try.prT 56 i = none from prOf_none (by kernel_rfl) i
theorem Try.ann56_r : Try.cfg.ann 56 999999 = some ([], [], [], none, []) := by kernel_rfl
theorem Try.ann56_0 : Try.cfg.ann 56 0 = some ([0, 8, 9], [], [], none, []) := by kernel_rfl
theorem Try.ann56_1 : Try.cfg.ann 56 1 = none := by kernel_rfl
theorem Try.pr57_0 : Try.cfg.pr 57 0 = some [0, 1, 2, 3] := by kernel_rfl
theorem Try.pr57_1 : Try.cfg.pr 57 1 = some [0, 1, 2, 3, 9] := by kernel_rfl
theorem Try.pr57_2 : Try.cfg.pr 57 2 = some [0, 1, 2, 3, 9, 10] := by kernel_rfl
theorem Try.pr57_3 : Try.cfg.pr 57 3 = some [0, 1, 2, 3, 9, 10, 16] := by kernel_rfl
theorem Try.pr57_4 : Try.cfg.pr 57 4 = some [0, 1, 2, 3, 9, 10] := by kernel_rfl
theorem Try.pr57_5 : Try.cfg.pr 57 5 = some [0, 1, 2, 3, 9, 10, 36] := by kernel_rfl
theorem Try.pr57_6 : Try.cfg.pr 57 6 = some [0, 1, 2, 3, 9, 10] := by kernel_rfl
theorem Try.pr57_7 : Try.cfg.pr 57 7 = some [0, 1, 2, 3, 9, 10, 41] := by kernel_rfl
theorem Try.pr57_8 : Try.cfg.pr 57 8 = some [8] := by kernel_rfl
theorem Try.pr57_9 : Try.cfg.pr 57 9 = some [0, 1, 2, 3, 9, 10, 45] := by kernel_rfl
theorem Try.pr57_10 : Try.cfg.pr 57 10 = some [8] := by kernel_rfl
theorem Try.pr57_11 : Try.cfg.pr 57 11 = some [0, 1, 2, 3, 9, 10] := by kernel_rfl
theorem Try.pr57_12 : Try.cfg.pr 57 12 = some [0, 1, 2, 3, 9, 10, 65] := by kernel_rfl
theorem Try.pr57_13 : Try.cfg.pr 57 13 = some [0, 1, 2, 3, 9, 10, 11] := by kernel_rfl
theorem Try.pr57_14 : Try.cfg.pr 57 14 = some [0, 1, 2, 3, 9, 10, 11, 69] := by kernel_rfl
theorem Try.pr57_15 : Try.cfg.pr 57 15 = some [0, 1, 2, 3, 9, 10, 11] := by kernel_rfl
theorem Try.pr57_16 : Try.cfg.pr 57 16 = some [0, 1, 2, 3, 9, 10, 11, 84] := by kernel_rfl
theorem Try.pr57_17 : Try.cfg.pr 57 17 = some [0, 1, 2, 3, 9, 10, 11] := by kernel_rfl
theorem Try.pr57_18 : Try.cfg.pr 57 18 = some [0, 1, 2, 3, 9, 10, 104] := by kernel_rfl
theorem Try.pr57_19 : Try.cfg.pr 57 19 = some [0, 1, 2, 3, 9, 10, 12] := by kernel_rfl
theorem Try.pr57_20 : Try.cfg.pr 57 20 = some [0, 1, 2, 3, 9, 10, 12, 109] := by kernel_rfl
theorem Try.pr57_21 : Try.cfg.pr 57 21 = some [0, 1, 2, 3, 9, 10, 12] := by kernel_rfl
theorem Try.pr57_22 : Try.cfg.pr 57 22 = some [0, 1, 2, 3, 9, 10, 12, 124] := by kernel_rfl
theorem Try.pr57_23 : Try.cfg.pr 57 23 = some [0, 1, 2, 3, 9, 10, 12] := by kernel_rfl
theorem Try.pr57_24 : Try.cfg.pr 57 24 = some [8] := by kernel_rfl
theorem Try.ann57_r : Try.cfg.ann 57 999999 = some ([8], [8], [], none, []) := by kernel_rfl
theorem Try.ann57_0 : Try.cfg.ann 57 0 = some ([0, 1, 2, 3, 9, 10], [], [], none, []) := by kernel_rfl
theorem Try.ann57_1 : Try.cfg.ann 57 1 = none := by kernel_rfl
theorem Try.ann57_2 : Try.cfg.ann 57 2 = some ([0, 1, 2, 3, 9, 10], [0, 1, 2, 3, 9, 10], [], none, []) := by kernel_rfl
theorem Try.ann57_3 : Try.cfg.ann 57 3 = none := by kernel_rfl
theorem Try.ann57_4 : Try.cfg.ann 57 4 = some ([0, 1, 2, 3, 9, 10, 11], [0, 1, 2, 3, 9, 10], [], none, []) := by kernel_rfl
theorem Try.ann57_5 : Try.cfg.ann 57 5 = none := by kernel_rfl
theorem Try.ann57_6 : Try.cfg.ann 57 6 = some ([0, 1, 2, 3, 9, 10, 12], [0, 1, 2, 3, 9, 10], [], none, []) := by kernel_rfl
theorem Try.ann57_7 : Try.cfg.ann 57 7 = none := by kernel_rfl
theorem Try.pr58_0 : Try.cfg.pr 58 0 = some [0, 1, 2, 3, 4] := by kernel_rfl
theorem Try.pr58_1 : Try.cfg.pr 58 1 = some [0, 1, 2, 4] := by kernel_rfl
theorem Try.pr58_2 : Try.cfg.pr 58 2 = some [0, 1, 4, 11, 12] := by kernel_rfl
theorem Try.pr58_3 : Try.cfg.pr 58 3 = some [0, 1, 4, 11, 12, 47] := by kernel_rfl
theorem Try.pr58_4 : Try.cfg.pr 58 4 = some [0, 1, 4, 11, 12] := by kernel_rfl
theorem Try.pr58_5 : Try.cfg.pr 58 5 = some [0, 1, 4, 11, 12, 65] := by kernel_rfl
theorem Try.pr58_6 : Try.cfg.pr 58 6 = some [0, 1, 4, 11, 12] := by kernel_rfl
theorem Try.pr58_7 : Try.cfg.pr 58 7 = some [0, 1, 4, 11, 12, 70] := by kernel_rfl
theorem Try.pr58_8 : Try.cfg.pr 58 8 = some [0, 1, 4, 11, 12] := by kernel_rfl
theorem Try.pr58_9 : Try.cfg.pr 58 9 = some [0, 1, 4, 11, 12] := by kernel_rfl
theorem Try.pr58_10 : Try.cfg.pr 58 10 = some [0, 1, 4, 11, 12] := by kernel_rfl
theorem Try.pr58_11 : Try.cfg.pr 58 11 = some [10] := by kernel_rfl
theorem Try.ann58_r : Try.cfg.ann 58 999999 = some ([10], [10], [], none, []) := by kernel_rfl
theorem Try.ann58_0 : Try.cfg.ann 58 0 = some ([0, 1, 4, 11, 12], [11], [], none, []) := by kernel_rfl
theorem Try.ann58_1 : Try.cfg.ann 58 1 = none := by kernel_rfl
theorem Try.ann58_2 : Try.cfg.ann 58 2 = some ([0, 1, 4, 11, 12], [0, 1, 4, 11, 12], [], none, []) := by kernel_rfl
theorem Try.ann58_3 : Try.cfg.ann 58 3 = none := by kernel_rfl
theorem Try.ann58_4 : Try.cfg.ann 58 4 = some ([0, 1, 4, 11, 12], [0, 1, 4, 11, 12], [], none, []) := by kernel_rfl
theorem Try.ann58_5 : Try.cfg.ann 58 5 = none := by kernel_rfl
theorem Try.pr59_0 : Try.cfg.pr 59 0 = some [0, 1, 2, 3, 4] := by kernel_rfl
theorem Try.pr59_1 : Try.cfg.pr 59 1 = some [0, 1, 2, 4] := by kernel_rfl
theorem Try.pr59_2 : Try.cfg.pr 59 2 = some [0, 1, 4, 12, 13] := by kernel_rfl
theorem Try.pr59_3 : Try.cfg.pr 59 3 = some [0, 1, 4, 12, 13, 47] := by kernel_rfl
theorem Try.pr59_4 : Try.cfg.pr 59 4 = some [0, 1, 4, 12, 13] := by kernel_rfl
theorem Try.pr59_5 : Try.cfg.pr 59 5 = some [0, 1, 4, 12, 13, 66] := by kernel_rfl
theorem Try.pr59_6 : Try.cfg.pr 59 6 = some [0, 1, 4, 12, 13] := by kernel_rfl
theorem Try.pr59_7 : Try.cfg.pr 59 7 = some [0, 1, 4, 12, 13, 71] := by kernel_rfl
theorem Try.pr59_8 : Try.cfg.pr 59 8 = some [13] := by kernel_rfl
theorem Try.pr59_9 : Try.cfg.pr 59 9 = some [10, 11] := by kernel_rfl
theorem Try.pr59_10 : Try.cfg.pr 59 10 = some [0, 1, 4, 12, 13] := by kernel_rfl
theorem Try.pr59_11 : Try.cfg.pr 59 11 = some [0, 1, 4, 12, 13] := by kernel_rfl
theorem Try.pr59_12 : Try.cfg.pr 59 12 = some [0, 1, 4, 12, 13] := by kernel_rfl
theorem Try.pr59_13 : Try.cfg.pr 59 13 = some [0, 1, 4, 12, 13, 120] := by kernel_rfl
theorem Try.pr59_14 : Try.cfg.pr 59 14 = some [0, 1, 4, 12, 13] := by kernel_rfl
theorem Try.pr59_15 : Try.cfg.pr 59 15 = some [0, 1, 4, 12, 13, 139] := by kernel_rfl
theorem Try.pr59_16 : Try.cfg.pr 59 16 = some [0, 1, 4, 12, 13] := by kernel_rfl
theorem Try.pr59_17 : Try.cfg.pr 59 17 = some [0, 1, 4, 12, 13, 144] := by kernel_rfl
theorem Try.pr59_18 : Try.cfg.pr 59 18 = some [0, 1, 4, 12, 13] := by kernel_rfl
theorem Try.pr59_19 : Try.cfg.pr 59 19 = some [0, 1, 4, 12, 13] := by kernel_rfl
theorem Try.pr59_20 : Try.cfg.pr 59 20 = some [0, 1, 4, 12, 13] := by kernel_rfl
theorem Try.pr59_21 : Try.cfg.pr 59 21 = some [13] := by kernel_rfl
theorem Try.pr59_22 : Try.cfg.pr 59 22 = some [10, 11] := by kernel_rfl
theorem Try.ann59_r : Try.cfg.ann 59 999999 = some ([10, 11], [10, 11], [], none, []) := by kernel_rfl
theorem Try.ann59_0 : Try.cfg.ann 59 0 = some ([0, 1, 4, 12, 13], [0, 1, 4, 12, 13], [], none, []) := by kernel_rfl
theorem Try.ann59_1 : Try.cfg.ann 59 1 = none := by kernel_rfl
theorem Try.ann59_2 : Try.cfg.ann 59 2 = some ([0, 1, 4, 12, 13], [0, 1, 4, 12, 13], [], none, []) := by kernel_rfl
theorem Try.ann59_3 : Try.cfg.ann 59 3 = none := by kernel_rfl
theorem Try.ann59_4 : Try.cfg.ann 59 4 = some ([0, 1, 4, 12, 13], [0, 1, 13], [], none, []) := by kernel_rfl
theorem Try.ann59_5 : Try.cfg.ann 59 5 = none := by kernel_rfl
theorem Try.ann59_6 : Try.cfg.ann 59 6 = some ([0, 1, 4, 12, 13], [0, 1, 4, 12, 13], [], none, []) := by kernel_rfl
theorem Try.ann59_7 : Try.cfg.ann 59 7 = none := by kernel_rfl
theorem Try.ann59_8 : Try.cfg.ann 59 8 = some ([0, 1, 4, 12, 13], [0, 1, 4, 12, 13], [], none, []) := by kernel_rfl
theorem Try.ann59_9 : Try.cfg.ann 59 9 = none := by kernel_rfl
theorem Try.pr60_n (i : Nat) : Try.cfg.pr 60 i = none := show prOf Try.prT 60 i = none from prOf_none (by kernel_rfl) i
theorem Try.ann60_r : Try.cfg.ann 60 999999 = some ([2], [2], [], none, []) := by kernel_rfl
theorem Try.pr61_n (i : Nat) : Try.cfg.pr 61 i = none := show prOf Try.prT 61 i = none from prOf_none (by kernel_rfl) i
theorem Try.ann61_r : Try.cfg.ann 61 999999 = some ([2], [2], [], none, []) := by kernel_rfl
theorem Try.pr62_n (i : Nat) : Try.cfg.pr 62 i = none := show prOf Try.prT 62 i = none from prOf_none (by kernel_rfl) i
theorem Try.ann62_r : Try.cfg.ann 62 999999 = some ([2], [2], [], none, []) := by kernel_rfl
theorem Try.pr63_0 : Try.cfg.pr 63 0 = some [0, 2, 3, 4, 10] := by kernel_rfl
theorem Try.pr63_1 : Try.cfg.pr 63 1 = some [0, 2, 3, 4, 10, 11] := by kernel_rfl
theorem Try.pr63_2 : Try.cfg.pr 63 2 = some [0, 2, 3, 4, 10, 11, 18] := by kernel_rfl
theorem Try.pr63_3 : Try.cfg.pr 63 3 = some [0, 2, 3, 4, 10, 11, 40] := by kernel_rfl
theorem Try.pr63_4 : Try.cfg.pr 63 4 = some [0, 2, 3, 4, 10, 11] := by kernel_rfl
theorem Try.pr63_5 : Try.cfg.pr 63 5 = some [0, 2, 3, 4, 10, 11, 58] := by kernel_rfl
theorem Try.pr63_6 : Try.cfg.pr 63 6 = some [0, 2, 3, 4, 11] := by kernel_rfl
theorem Try.pr63_7 : Try.cfg.pr 63 7 = some [0, 2, 3, 4, 10] := by kernel_rfl
theorem Try.ann63_r : Try.cfg.ann 63 999999 = some ([], [], [], none, []) := by kernel_rfl
theorem Try.ann63_0 : Try.cfg.ann 63 0 = some ([0, 2, 3, 4, 10], [], [], none, []) := by kernel_rfl
theorem Try.ann63_1 : Try.cfg.ann 63 1 = none := by kernel_rfl
theorem Try.pr64_n (i : Nat) : Try.cfg.pr 64 i = none := show prOf Try.prT 64 i = none from prOf_none (by kernel_rfl) i
theorem Try.ann64_r : Try.cfg.ann 64 999999 = some ([2], [2], [], none, []) := by kernel_rfl
theorem Try.pr65_n (i : Nat) : Try.cfg.pr 65 i = none := show prOf Try.prT 65 i = none from prOf_none (by kernel_rfl) i
theorem Try.ann65_r : Try.cfg.ann 65 999999 = some ([2], [2], [], none, []) := by kernel_rfl
theorem Try.pr66_n (i : Nat) : Try.cfg.pr 66 i = none := show prOf Try.prT 66 i = none from prOf_none (by kernel_rfl) i
theorem Try.ann66_r : Try.cfg.ann 66 999999 = some ([8], [8], [], none, []) := by kernel_rfl
theorem Try.pr67_n (i : Nat) : Try.cfg.pr 67 i = none := show prOf Try.prT 67 i = none from prOf_none (by kernel_rfl) i
theorem Try.ann67_r : Try.cfg.ann 67 999999 = some ([12], [12], [], none, []) := by kernel_rfl
theorem Try.pr68_n (i : Nat) : Try.cfg.pr 68 i = none := show prOf Try.prT 68 i = none from prOf_none (by kernel_rfl) i
theorem Try.ann68_r : Try.cfg.ann 68 999999 = some ([10, 11], [10, 11], [], none, []) := by kernel_rfl
theorem Try.cells0 : Program.cellsOf Try.prog 0 = 1 := by kernel_rfl
theorem Try.bytes0 : Program.bytesOf Try.prog 0 = 0 := by kernel_rfl
theorem Try.zero0 : zeroT Try.prog 0 = some (AV.tu []) := by kernel_rfl
theorem Try.agg0 : aggT Try.prog 0 = some false := by kernel_rfl
theorem Try.noInt0 : noInt Try.prog 0 = true := by kernel_rfl
theorem Try.cells1 : Program.cellsOf Try.prog 1 = 1 := by kernel_rfl
theorem Try.bytes1 : Program.bytesOf Try.prog 1 = 8 := by kernel_rfl
theorem Try.zero1 : zeroT Try.prog 1 = some (AV.v Value.nilFunc) := by kernel_rfl
theorem Try.agg1 : aggT Try.prog 1 = some false := by kernel_rfl
theorem Try.noInt1 : noInt Try.prog 1 = true := by kernel_rfl
theorem Try.cells2 : Program.cellsOf Try.prog 2 = 1 := by kernel_rfl
theorem Try.bytes2 : Program.bytesOf Try.prog 2 = 8 := by kernel_rfl
theorem Try.zero2 : zeroT Try.prog 2 = some (AV.v (Value.int IntKind.i64 ((0 : Int)))) := by kernel_rfl
theorem Try.basic2 : basicT Try.prog 2 = some (TypeDesc.int IntKind.i64) := by kernel_rfl
theorem Try.agg2 : aggT Try.prog 2 = some false := by kernel_rfl
theorem Try.noInt2 : noInt Try.prog 2 = false := by kernel_rfl
theorem Try.cells3 : Program.cellsOf Try.prog 3 = 1 := by kernel_rfl
theorem Try.bytes3 : Program.bytesOf Try.prog 3 = 8 := by kernel_rfl
theorem Try.zero3 : zeroT Try.prog 3 = some (AV.v (Value.int IntKind.i64 ((0 : Int)))) := by kernel_rfl
theorem Try.basic3 : basicT Try.prog 3 = some (TypeDesc.int IntKind.i64) := by kernel_rfl
theorem Try.agg3 : aggT Try.prog 3 = some false := by kernel_rfl
theorem Try.noInt3 : noInt Try.prog 3 = false := by kernel_rfl
theorem Try.cells4 : Program.cellsOf Try.prog 4 = 1 := by kernel_rfl
theorem Try.bytes4 : Program.bytesOf Try.prog 4 = 1 := by kernel_rfl
theorem Try.zero4 : zeroT Try.prog 4 = some (AV.v (Value.bool false)) := by kernel_rfl
theorem Try.basic4 : basicT Try.prog 4 = some TypeDesc.bool := by kernel_rfl
theorem Try.bne4 (a b : Bool) : abin Try.prog .neq 4 (.v (.bool a)) (.v (.bool b)) = some (.v (.bool !(a == b))) := by simp [abin, Try.underlying4]
theorem Try.beq4 (a b : Bool) : abin Try.prog .eql 4 (.v (.bool a)) (.v (.bool b)) = some (.v (.bool (a == b))) := by simp [abin, Try.underlying4]
theorem Try.agg4 : aggT Try.prog 4 = some false := by kernel_rfl
theorem Try.noInt4 : noInt Try.prog 4 = true := by kernel_rfl
theorem Try.cells5 : Program.cellsOf Try.prog 5 = 1 := by kernel_rfl
theorem Try.bytes5 : Program.bytesOf Try.prog 5 = 1 := by kernel_rfl
theorem Try.zero5 : zeroT Try.prog 5 = some (AV.v (Value.int IntKind.u8 ((0 : Int)))) := by kernel_rfl
theorem Try.basic5 : basicT Try.prog 5 = some (TypeDesc.int IntKind.u8) := by kernel_rfl
theorem Try.agg5 : aggT Try.prog 5 = some false := by kernel_rfl
theorem Try.noInt5 : noInt Try.prog 5 = false := by kernel_rfl
theorem Try.cells6 : Program.cellsOf Try.prog 6 = 1 := by kernel_rfl
theorem Try.bytes6 : Program.bytesOf Try.prog 6 = 1 := by kernel_rfl
theorem Try.zero6 : zeroT Try.prog 6 = some (AV.v (Value.int IntKind.u8 ((0 : Int)))) := by kernel_rfl
theorem Try.basic6 : basicT Try.prog 6 = some (TypeDesc.int IntKind.u8) := by kernel_rfl
theorem Try.agg6 : aggT Try.prog 6 = some false := by kernel_rfl
theorem Try.noInt6 : noInt Try.prog 6 = false := by kernel_rfl
theorem Try.cells7 : Program.cellsOf Try.prog 7 = 4 := by kernel_rfl
theorem Try.bytes7 : Program.bytesOf Try.prog 7 = 24 := by kernel_rfl
theorem Try.zero7 : zeroT Try.prog 7 = some (AV.ag [AV.v (Value.int IntKind.i64 ((0 : Int))), AV.v (Value.int IntKind.i64 ((0 : Int))), AV.v (Value.bool false), AV.v (Value.int IntKind.u8 ((0 : Int)))]) := by kernel_rfl
theorem Try.agg7 : aggT Try.prog 7 = some true := by kernel_rfl
theorem Try.kinds7 : kindsT Try.prog 7 = some [TypeDesc.int IntKind.i64, TypeDesc.int IntKind.i64, TypeDesc.bool, TypeDesc.int IntKind.u8] := by kernel_rfl
theorem Try.places7 : placesT Try.prog 7 = some [(0, 1), (1, 1), (2, 1), (3, 1)] := by kernel_rfl
theorem Try.noInt7 : noInt Try.prog 7 = true := by kernel_rfl
theorem Try.cells8 : Program.cellsOf Try.prog 8 = 4 := by kernel_rfl
theorem Try.bytes8 : Program.bytesOf Try.prog 8 = 24 := by kernel_rfl
theorem Try.zero8 : zeroT Try.prog 8 = some (AV.ag [AV.v (Value.int IntKind.i64 ((0 : Int))), AV.v (Value.int IntKind.i64 ((0 : Int))), AV.v (Value.bool false), AV.v (Value.int IntKind.u8 ((0 : Int)))]) := by kernel_rfl
theorem Try.agg8 : aggT Try.prog 8 = some true := by kernel_rfl
theorem Try.kinds8 : kindsT Try.prog 8 = some [TypeDesc.int IntKind.i64, TypeDesc.int IntKind.i64, TypeDesc.bool, TypeDesc.int IntKind.u8] := by kernel_rfl
theorem Try.places8 : placesT Try.prog 8 = some [(0, 1), (1, 1), (2, 1), (3, 1)] := by kernel_rfl
theorem Try.noInt8 : noInt Try.prog 8 = true := by kernel_rfl
theorem Try.cells9 : Program.cellsOf Try.prog 9 = 1 := by kernel_rfl
theorem Try.bytes9 : Program.bytesOf Try.prog 9 = 16 := by kernel_rfl
theorem Try.zero9 : zeroT Try.prog 9 = some (AV.v (Value.string { data := { toList := [] } })) := by kernel_rfl
theorem Try.basic9 : basicT Try.prog 9 = some TypeDesc.string := by kernel_rfl
theorem Try.agg9 : aggT Try.prog 9 = some false := by kernel_rfl
theorem Try.noInt9 : noInt Try.prog 9 = true := by kernel_rfl
theorem Try.cells10 : Program.cellsOf Try.prog 10 = 1 := by kernel_rfl
theorem Try.bytes10 : Program.bytesOf Try.prog 10 = 16 := by kernel_rfl
theorem Try.zero10 : zeroT Try.prog 10 = some (AV.v (Value.string { data := { toList := [] } })) := by kernel_rfl
theorem Try.basic10 : basicT Try.prog 10 = some TypeDesc.string := by kernel_rfl
theorem Try.agg10 : aggT Try.prog 10 = some false := by kernel_rfl
theorem Try.noInt10 : noInt Try.prog 10 = true := by kernel_rfl
theorem Try.cells11 : Program.cellsOf Try.prog 11 = 1 := by kernel_rfl
theorem Try.bytes11 : Program.bytesOf Try.prog 11 = 16 := by kernel_rfl
theorem Try.zero11 : zeroT Try.prog 11 = some (AV.v (Value.string { data := { toList := [] } })) := by kernel_rfl
theorem Try.basic11 : basicT Try.prog 11 = some TypeDesc.string := by kernel_rfl
theorem Try.agg11 : aggT Try.prog 11 = some false := by kernel_rfl
theorem Try.noInt11 : noInt Try.prog 11 = true := by kernel_rfl
theorem Try.cells12 : Program.cellsOf Try.prog 12 = 1 := by kernel_rfl
theorem Try.bytes12 : Program.bytesOf Try.prog 12 = 8 := by kernel_rfl
theorem Try.zero12 : zeroT Try.prog 12 = some (AV.v (Value.int IntKind.u64 ((0 : Int)))) := by kernel_rfl
theorem Try.basic12 : basicT Try.prog 12 = some (TypeDesc.int IntKind.u64) := by kernel_rfl
theorem Try.agg12 : aggT Try.prog 12 = some false := by kernel_rfl
theorem Try.noInt12 : noInt Try.prog 12 = false := by kernel_rfl
theorem Try.cells13 : Program.cellsOf Try.prog 13 = 2 := by kernel_rfl
theorem Try.bytes13 : Program.bytesOf Try.prog 13 = 24 := by kernel_rfl
theorem Try.zero13 : zeroT Try.prog 13 = some (AV.ag [AV.v (Value.string { data := { toList := [] } }), AV.v (Value.int IntKind.u64 ((0 : Int)))]) := by kernel_rfl
theorem Try.agg13 : aggT Try.prog 13 = some true := by kernel_rfl
theorem Try.places13 : placesT Try.prog 13 = some [(0, 1), (1, 1)] := by kernel_rfl
theorem Try.noInt13 : noInt Try.prog 13 = true := by kernel_rfl
theorem Try.cells14 : Program.cellsOf Try.prog 14 = 2 := by kernel_rfl
theorem Try.bytes14 : Program.bytesOf Try.prog 14 = 24 := by kernel_rfl
theorem Try.zero14 : zeroT Try.prog 14 = some (AV.ag [AV.v (Value.string { data := { toList := [] } }), AV.v (Value.int IntKind.u64 ((0 : Int)))]) := by kernel_rfl
theorem Try.agg14 : aggT Try.prog 14 = some true := by kernel_rfl
theorem Try.places14 : placesT Try.prog 14 = some [(0, 1), (1, 1)] := by kernel_rfl
theorem Try.noInt14 : noInt Try.prog 14 = true := by kernel_rfl
theorem Try.cells15 : Program.cellsOf Try.prog 15 = 1 := by kernel_rfl
theorem Try.bytes15 : Program.bytesOf Try.prog 15 = 8 := by kernel_rfl
theorem Try.zero15 : zeroT Try.prog 15 = some (AV.v (Value.pointer Option.none)) := by kernel_rfl
theorem Try.agg15 : aggT Try.prog 15 = some false := by kernel_rfl
theorem Try.noInt15 : noInt Try.prog 15 = true := by kernel_rfl
theorem Try.cells16 : Program.cellsOf Try.prog 16 = 1 := by kernel_rfl
theorem Try.bytes16 : Program.bytesOf Try.prog 16 = 8 := by kernel_rfl
theorem Try.zero16 : zeroT Try.prog 16 = some (AV.v (Value.pointer Option.none)) := by kernel_rfl
theorem Try.agg16 : aggT Try.prog 16 = some false := by kernel_rfl
theorem Try.noInt16 : noInt Try.prog 16 = true := by kernel_rfl
theorem Try.cells17 : Program.cellsOf Try.prog 17 = 1 := by kernel_rfl
theorem Try.bytes17 : Program.bytesOf Try.prog 17 = 8 := by kernel_rfl
theorem Try.zero17 : zeroT Try.prog 17 = some (AV.v (Value.pointer Option.none)) := by kernel_rfl
theorem Try.agg17 : aggT Try.prog 17 = some false := by kernel_rfl
theorem Try.noInt17 : noInt Try.prog 17 = true := by kernel_rfl
theorem Try.cells18 : Program.cellsOf Try.prog 18 = 1 := by kernel_rfl
theorem Try.bytes18 : Program.bytesOf Try.prog 18 = 8 := by kernel_rfl
theorem Try.zero18 : zeroT Try.prog 18 = some (AV.ag [AV.v (Value.pointer Option.none)]) := by kernel_rfl
theorem Try.agg18 : aggT Try.prog 18 = some true := by kernel_rfl
theorem Try.places18 : placesT Try.prog 18 = some [(0, 1)] := by kernel_rfl
theorem Try.noInt18 : noInt Try.prog 18 = true := by kernel_rfl
theorem Try.cells19 : Program.cellsOf Try.prog 19 = 1 := by kernel_rfl
theorem Try.bytes19 : Program.bytesOf Try.prog 19 = 8 := by kernel_rfl
theorem Try.zero19 : zeroT Try.prog 19 = some (AV.ag [AV.v (Value.pointer Option.none)]) := by kernel_rfl
theorem Try.agg19 : aggT Try.prog 19 = some true := by kernel_rfl
theorem Try.places19 : placesT Try.prog 19 = some [(0, 1)] := by kernel_rfl
theorem Try.noInt19 : noInt Try.prog 19 = true := by kernel_rfl
theorem Try.cells20 : Program.cellsOf Try.prog 20 = 1 := by kernel_rfl
theorem Try.bytes20 : Program.bytesOf Try.prog 20 = 16 := by kernel_rfl
theorem Try.zero20 : zeroT Try.prog 20 = some (AV.v Value.nilIface) := by kernel_rfl
theorem Try.agg20 : aggT Try.prog 20 = some false := by kernel_rfl
theorem Try.noInt20 : noInt Try.prog 20 = true := by kernel_rfl
theorem Try.cells21 : Program.cellsOf Try.prog 21 = 1 := by kernel_rfl
theorem Try.bytes21 : Program.bytesOf Try.prog 21 = 4 := by kernel_rfl
theorem Try.zero21 : zeroT Try.prog 21 = some (AV.v (Value.int IntKind.i32 ((0 : Int)))) := by kernel_rfl
theorem Try.basic21 : basicT Try.prog 21 = some (TypeDesc.int IntKind.i32) := by kernel_rfl
theorem Try.agg21 : aggT Try.prog 21 = some false := by kernel_rfl
theorem Try.noInt21 : noInt Try.prog 21 = false := by kernel_rfl
theorem Try.cells22 : Program.cellsOf Try.prog 22 = 1 := by kernel_rfl
theorem Try.bytes22 : Program.bytesOf Try.prog 22 = 24 := by kernel_rfl
theorem Try.zero22 : zeroT Try.prog 22 = some (AV.sl true 0 []) := by kernel_rfl
theorem Try.agg22 : aggT Try.prog 22 = some false := by kernel_rfl
theorem Try.noInt22 : noInt Try.prog 22 = true := by kernel_rfl
theorem Try.cells23 : Program.cellsOf Try.prog 23 = 1 := by kernel_rfl
theorem Try.bytes23 : Program.bytesOf Try.prog 23 = 8 := by kernel_rfl
theorem Try.zero23 : zeroT Try.prog 23 = some (AV.v Value.nilFunc) := by kernel_rfl
theorem Try.agg23 : aggT Try.prog 23 = some false := by kernel_rfl
theorem Try.noInt23 : noInt Try.prog 23 = true := by kernel_rfl
theorem Try.cells24 : Program.cellsOf Try.prog 24 = 1 := by kernel_rfl
theorem Try.bytes24 : Program.bytesOf Try.prog 24 = 8 := by kernel_rfl
theorem Try.zero24 : zeroT Try.prog 24 = some (AV.v Value.nilFunc) := by kernel_rfl
theorem Try.agg24 : aggT Try.prog 24 = some false := by kernel_rfl
theorem Try.noInt24 : noInt Try.prog 24 = true := by kernel_rfl
theorem Try.cells25 : Program.cellsOf Try.prog 25 = 1 := by kernel_rfl
theorem Try.bytes25 : Program.bytesOf Try.prog 25 = 8 := by kernel_rfl
theorem Try.zero25 : zeroT Try.prog 25 = some (AV.v (Value.int IntKind.i64 ((0 : Int)))) := by kernel_rfl
theorem Try.basic25 : basicT Try.prog 25 = some (TypeDesc.int IntKind.i64) := by kernel_rfl
theorem Try.agg25 : aggT Try.prog 25 = some false := by kernel_rfl
theorem Try.noInt25 : noInt Try.prog 25 = false := by kernel_rfl
theorem Try.cells26 : Program.cellsOf Try.prog 26 = 1 := by kernel_rfl
theorem Try.bytes26 : Program.bytesOf Try.prog 26 = 0 := by kernel_rfl
theorem Try.zero26 : zeroT Try.prog 26 = some (AV.tu [AV.sl true 0 [], AV.v (Value.int IntKind.i64 ((0 : Int)))]) := by kernel_rfl
theorem Try.agg26 : aggT Try.prog 26 = some false := by kernel_rfl
theorem Try.noInt26 : noInt Try.prog 26 = true := by kernel_rfl
theorem Try.cells27 : Program.cellsOf Try.prog 27 = 1 := by kernel_rfl
theorem Try.bytes27 : Program.bytesOf Try.prog 27 = 8 := by kernel_rfl
theorem Try.zero27 : zeroT Try.prog 27 = some (AV.v Value.nilFunc) := by kernel_rfl
theorem Try.agg27 : aggT Try.prog 27 = some false := by kernel_rfl
theorem Try.noInt27 : noInt Try.prog 27 = true := by kernel_rfl
theorem Try.cells28 : Program.cellsOf Try.prog 28 = 1 := by kernel_rfl
theorem Try.bytes28 : Program.bytesOf Try.prog 28 = 8 := by kernel_rfl
theorem Try.zero28 : zeroT Try.prog 28 = some (AV.v Value.nilFunc) := by kernel_rfl
theorem Try.agg28 : aggT Try.prog 28 = some false := by kernel_rfl
theorem Try.noInt28 : noInt Try.prog 28 = true := by kernel_rfl
theorem Try.cells29 : Program.cellsOf Try.prog 29 = 1 := by kernel_rfl
theorem Try.bytes29 : Program.bytesOf Try.prog 29 = 8 := by kernel_rfl
theorem Try.zero29 : zeroT Try.prog 29 = some (AV.v Value.nilFunc) := by kernel_rfl
theorem Try.agg29 : aggT Try.prog 29 = some false := by kernel_rfl
theorem Try.noInt29 : noInt Try.prog 29 = true := by kernel_rfl
theorem Try.cells30 : Program.cellsOf Try.prog 30 = 1 := by kernel_rfl
theorem Try.bytes30 : Program.bytesOf Try.prog 30 = 8 := by kernel_rfl
theorem Try.zero30 : zeroT Try.prog 30 = some (AV.v Value.nilFunc) := by kernel_rfl
theorem Try.agg30 : aggT Try.prog 30 = some false := by kernel_rfl
theorem Try.noInt30 : noInt Try.prog 30 = true := by kernel_rfl
theorem Try.cells31 : Program.cellsOf Try.prog 31 = 1 := by kernel_rfl
theorem Try.bytes31 : Program.bytesOf Try.prog 31 = 24 := by kernel_rfl
theorem Try.zero31 : zeroT Try.prog 31 = some (AV.sl true 0 []) := by kernel_rfl
theorem Try.agg31 : aggT Try.prog 31 = some false := by kernel_rfl
theorem Try.noInt31 : noInt Try.prog 31 = true := by kernel_rfl
theorem Try.cells32 : Program.cellsOf Try.prog 32 = 1 := by kernel_rfl
theorem Try.bytes32 : Program.bytesOf Try.prog 32 = 8 := by kernel_rfl
theorem Try.zero32 : zeroT Try.prog 32 = some (AV.v Value.nilFunc) := by kernel_rfl
theorem Try.agg32 : aggT Try.prog 32 = some false := by kernel_rfl
theorem Try.noInt32 : noInt Try.prog 32 = true := by kernel_rfl
theorem Try.cells33 : Program.cellsOf Try.prog 33 = 1 := by kernel_rfl
theorem Try.bytes33 : Program.bytesOf Try.prog 33 = 8 := by kernel_rfl
theorem Try.zero33 : zeroT Try.prog 33 = some (AV.v Value.nilFunc) := by kernel_rfl
theorem Try.agg33 : aggT Try.prog 33 = some false := by kernel_rfl
theorem Try.noInt33 : noInt Try.prog 33 = true := by kernel_rfl
theorem Try.cells34 : Program.cellsOf Try.prog 34 = 1 := by kernel_rfl
theorem Try.bytes34 : Program.bytesOf Try.prog 34 = 8 := by kernel_rfl
theorem Try.zero34 : zeroT Try.prog 34 = some (AV.v Value.nilFunc) := by kernel_rfl
theorem Try.agg34 : aggT Try.prog 34 = some false := by kernel_rfl
theorem Try.noInt34 : noInt Try.prog 34 = true := by kernel_rfl
theorem Try.cells35 : Program.cellsOf Try.prog 35 = 1 := by kernel_rfl
theorem Try.bytes35 : Program.bytesOf Try.prog 35 = 0 := by kernel_rfl
theorem Try.zero35 : zeroT Try.prog 35 = some (AV.tu [AV.sl true 0 [], AV.v (Value.int IntKind.i64 ((0 : Int)))]) := by kernel_rfl
theorem Try.agg35 : aggT Try.prog 35 = some false := by kernel_rfl
theorem Try.noInt35 : noInt Try.prog 35 = true := by kernel_rfl
theorem Try.cells36 : Program.cellsOf Try.prog 36 = 1 := by kernel_rfl
theorem Try.bytes36 : Program.bytesOf Try.prog 36 = 8 := by kernel_rfl
theorem Try.zero36 : zeroT Try.prog 36 = some (AV.v Value.nilFunc) := by kernel_rfl
theorem Try.agg36 : aggT Try.prog 36 = some false := by kernel_rfl
theorem Try.noInt36 : noInt Try.prog 36 = true := by kernel_rfl
theorem Try.cells37 : Program.cellsOf Try.prog 37 = 1 := by kernel_rfl
theorem Try.bytes37 : Program.bytesOf Try.prog 37 = 8 := by kernel_rfl
theorem Try.zero37 : zeroT Try.prog 37 = some (AV.v Value.nilFunc) := by kernel_rfl
theorem Try.agg37 : aggT Try.prog 37 = some false := by kernel_rfl
theorem Try.noInt37 : noInt Try.prog 37 = true := by kernel_rfl
theorem Try.cells38 : Program.cellsOf Try.prog 38 = 1 := by kernel_rfl
theorem Try.bytes38 : Program.bytesOf Try.prog 38 = 0 := by kernel_rfl
theorem Try.zero38 : zeroT Try.prog 38 = some (AV.tu [AV.v (Value.int IntKind.i64 ((0 : Int))), AV.v (Value.int IntKind.i64 ((0 : Int)))]) := by kernel_rfl
theorem Try.agg38 : aggT Try.prog 38 = some false := by kernel_rfl
theorem Try.noInt38 : noInt Try.prog 38 = true := by kernel_rfl
theorem Try.cells39 : Program.cellsOf Try.prog 39 = 1 := by kernel_rfl
theorem Try.bytes39 : Program.bytesOf Try.prog 39 = 8 := by kernel_rfl
theorem Try.zero39 : zeroT Try.prog 39 = some (AV.v Value.nilFunc) := by kernel_rfl
theorem Try.agg39 : aggT Try.prog 39 = some false := by kernel_rfl
theorem Try.noInt39 : noInt Try.prog 39 = true := by kernel_rfl
theorem Try.cells40 : Program.cellsOf Try.prog 40 = 1 := by kernel_rfl
theorem Try.bytes40 : Program.bytesOf Try.prog 40 = 8 := by kernel_rfl
theorem Try.zero40 : zeroT Try.prog 40 = some (AV.v Value.nilFunc) := by kernel_rfl
theorem Try.agg40 : aggT Try.prog 40 = some false := by kernel_rfl
theorem Try.noInt40 : noInt Try.prog 40 = true := by kernel_rfl
theorem Try.cells41 : Program.cellsOf Try.prog 41 = 1 := by kernel_rfl
theorem Try.bytes41 : Program.bytesOf Try.prog 41 = 8 := by kernel_rfl
theorem Try.zero41 : zeroT Try.prog 41 = some (AV.v Value.nilFunc) := by kernel_rfl
theorem Try.agg41 : aggT Try.prog 41 = some false := by kernel_rfl
theorem Try.noInt41 : noInt Try.prog 41 = true := by kernel_rfl
theorem Try.cells42 : Program.cellsOf Try.prog 42 = 1 := by kernel_rfl
theorem Try.bytes42 : Program.bytesOf Try.prog 42 = 8 := by kernel_rfl
theorem Try.zero42 : zeroT Try.prog 42 = some (AV.v Value.nilFunc) := by kernel_rfl
theorem Try.agg42 : aggT Try.prog 42 = some false := by kernel_rfl
theorem Try.noInt42 : noInt Try.prog 42 = true := by kernel_rfl
theorem Try.cells43 : Program.cellsOf Try.prog 43 = 1 := by kernel_rfl
theorem Try.bytes43 : Program.bytesOf Try.prog 43 = 8 := by kernel_rfl
theorem Try.zero43 : zeroT Try.prog 43 = some (AV.v Value.nilFunc) := by kernel_rfl
theorem Try.agg43 : aggT Try.prog 43 = some false := by kernel_rfl
theorem Try.noInt43 : noInt Try.prog 43 = true := by kernel_rfl
theorem Try.cells44 : Program.cellsOf Try.prog 44 = 1 := by kernel_rfl
theorem Try.bytes44 : Program.bytesOf Try.prog 44 = 8 := by kernel_rfl
theorem Try.zero44 : zeroT Try.prog 44 = some (AV.v Value.nilFunc) := by kernel_rfl
theorem Try.agg44 : aggT Try.prog 44 = some false := by kernel_rfl
theorem Try.noInt44 : noInt Try.prog 44 = true := by kernel_rfl
theorem Try.cells45 : Program.cellsOf Try.prog 45 = 1 := by kernel_rfl
theorem Try.bytes45 : Program.bytesOf Try.prog 45 = 0 := by kernel_rfl
theorem Try.zero45 : zeroT Try.prog 45 = some (AV.tu [AV.sl true 0 [], AV.v (Value.int IntKind.i64 ((0 : Int)))]) := by kernel_rfl
theorem Try.agg45 : aggT Try.prog 45 = some false := by kernel_rfl
theorem Try.noInt45 : noInt Try.prog 45 = true := by kernel_rfl
theorem Try.cells46 : Program.cellsOf Try.prog 46 = 1 := by kernel_rfl
theorem Try.bytes46 : Program.bytesOf Try.prog 46 = 8 := by kernel_rfl
theorem Try.zero46 : zeroT Try.prog 46 = some (AV.v Value.nilFunc) := by kernel_rfl
theorem Try.agg46 : aggT Try.prog 46 = some false := by kernel_rfl
theorem Try.noInt46 : noInt Try.prog 46 = true := by kernel_rfl
theorem Try.cells47 : Program.cellsOf Try.prog 47 = 1 := by kernel_rfl
theorem Try.bytes47 : Program.bytesOf Try.prog 47 = 8 := by kernel_rfl
theorem Try.zero47 : zeroT Try.prog 47 = some (AV.v Value.nilFunc) := by kernel_rfl
theorem Try.agg47 : aggT Try.prog 47 = some false := by kernel_rfl
theorem Try.noInt47 : noInt Try.prog 47 = true := by kernel_rfl
theorem Try.cells48 : Program.cellsOf Try.prog 48 = 1 := by kernel_rfl
theorem Try.bytes48 : Program.bytesOf Try.prog 48 = 8 := by kernel_rfl
theorem Try.zero48 : zeroT Try.prog 48 = some (AV.v Value.nilFunc) := by kernel_rfl
theorem Try.agg48 : aggT Try.prog 48 = some false := by kernel_rfl
theorem Try.noInt48 : noInt Try.prog 48 = true := by kernel_rfl
theorem Try.cells49 : Program.cellsOf Try.prog 49 = 1 := by kernel_rfl
theorem Try.bytes49 : Program.bytesOf Try.prog 49 = 8 := by kernel_rfl
theorem Try.zero49 : zeroT Try.prog 49 = some (AV.v Value.nilFunc) := by kernel_rfl
theorem Try.agg49 : aggT Try.prog 49 = some false := by kernel_rfl
theorem Try.noInt49 : noInt Try.prog 49 = true := by kernel_rfl
theorem Try.cells50 : Program.cellsOf Try.prog 50 = 6 := by kernel_rfl
theorem Try.bytes50 : Program.bytesOf Try.prog 50 = 48 := by kernel_rfl
theorem Try.zero50 : zeroT Try.prog 50 = some (AV.ag [AV.v (Value.int IntKind.i64 ((0 : Int))), AV.v (Value.int IntKind.i64 ((0 : Int))), AV.v (Value.int IntKind.i64 ((0 : Int))), AV.v (Value.int IntKind.i64 ((0 : Int))), AV.v (Value.int IntKind.i64 ((0 : Int))), AV.v (Value.int IntKind.i64 ((0 : Int)))]) := by kernel_rfl
theorem Try.agg50 : aggT Try.prog 50 = some true := by kernel_rfl
theorem Try.kinds50 : kindsT Try.prog 50 = some [TypeDesc.int IntKind.i64, TypeDesc.int IntKind.i64, TypeDesc.int IntKind.i64, TypeDesc.int IntKind.i64, TypeDesc.int IntKind.i64, TypeDesc.int IntKind.i64] := by kernel_rfl
theorem Try.elem50 : elemT Try.prog 50 = some 1 := by kernel_rfl
theorem Try.noInt50 : noInt Try.prog 50 = true := by kernel_rfl
theorem Try.cells51 : Program.cellsOf Try.prog 51 = 6 := by kernel_rfl
theorem Try.bytes51 : Program.bytesOf Try.prog 51 = 48 := by kernel_rfl
theorem Try.zero51 : zeroT Try.prog 51 = some (AV.ag [AV.v (Value.int IntKind.i64 ((0 : Int))), AV.v (Value.int IntKind.i64 ((0 : Int))), AV.v (Value.int IntKind.i64 ((0 : Int))), AV.v (Value.int IntKind.i64 ((0 : Int))), AV.v (Value.int IntKind.i64 ((0 : Int))), AV.v (Value.int IntKind.i64 ((0 : Int)))]) := by kernel_rfl
theorem Try.agg51 : aggT Try.prog 51 = some true := by kernel_rfl
theorem Try.kinds51 : kindsT Try.prog 51 = some [TypeDesc.int IntKind.i64, TypeDesc.int IntKind.i64, TypeDesc.int IntKind.i64, TypeDesc.int IntKind.i64, TypeDesc.int IntKind.i64, TypeDesc.int IntKind.i64] := by kernel_rfl
theorem Try.elem51 : elemT Try.prog 51 = some 1 := by kernel_rfl
theorem Try.noInt51 : noInt Try.prog 51 = true := by kernel_rfl
theorem Try.cells52 : Program.cellsOf Try.prog 52 = 1 := by kernel_rfl
theorem Try.bytes52 : Program.bytesOf Try.prog 52 = 8 := by kernel_rfl
theorem Try.zero52 : zeroT Try.prog 52 = some (AV.v Value.nilFunc) := by kernel_rfl
theorem Try.agg52 : aggT Try.prog 52 = some false := by kernel_rfl
theorem Try.noInt52 : noInt Try.prog 52 = true := by kernel_rfl
theorem Try.cells53 : Program.cellsOf Try.prog 53 = 1 := by kernel_rfl
theorem Try.bytes53 : Program.bytesOf Try.prog 53 = 8 := by kernel_rfl
theorem Try.zero53 : zeroT Try.prog 53 = some (AV.v (Value.map Option.none)) := by kernel_rfl
theorem Try.agg53 : aggT Try.prog 53 = some false := by kernel_rfl
theorem Try.noInt53 : noInt Try.prog 53 = true := by kernel_rfl
theorem Try.cells54 : Program.cellsOf Try.prog 54 = 1 := by kernel_rfl
theorem Try.bytes54 : Program.bytesOf Try.prog 54 = 8 := by kernel_rfl
theorem Try.zero54 : zeroT Try.prog 54 = some (AV.v Value.nilFunc) := by kernel_rfl
theorem Try.agg54 : aggT Try.prog 54 = some false := by kernel_rfl
theorem Try.noInt54 : noInt Try.prog 54 = true := by kernel_rfl
theorem Try.cells55 : Program.cellsOf Try.prog 55 = 1 := by kernel_rfl
theorem Try.bytes55 : Program.bytesOf Try.prog 55 = 8 := by kernel_rfl
theorem Try.zero55 : zeroT Try.prog 55 = some (AV.v Value.nilFunc) := by kernel_rfl
theorem Try.agg55 : aggT Try.prog 55 = some false := by kernel_rfl
theorem Try.noInt55 : noInt Try.prog 55 = true := by kernel_rfl
theorem Try.cells56 : Program.cellsOf Try.prog 56 = 1 := by kernel_rfl
theorem Try.bytes56 : Program.bytesOf Try.prog 56 = 8 := by kernel_rfl
theorem Try.zero56 : zeroT Try.prog 56 = some (AV.v Value.nilFunc) := by kernel_rfl
theorem Try.agg56 : aggT Try.prog 56 = some false := by kernel_rfl
theorem Try.noInt56 : noInt Try.prog 56 = true := by kernel_rfl
theorem Try.cells57 : Program.cellsOf Try.prog 57 = 1 := by kernel_rfl
theorem Try.bytes57 : Program.bytesOf Try.prog 57 = 8 := by kernel_rfl
theorem Try.zero57 : zeroT Try.prog 57 = some (AV.v Value.nilFunc) := by kernel_rfl
theorem Try.agg57 : aggT Try.prog 57 = some false := by kernel_rfl
theorem Try.noInt57 : noInt Try.prog 57 = true := by kernel_rfl
theorem Try.cells58 : Program.cellsOf Try.prog 58 = 1 := by kernel_rfl
theorem Try.bytes58 : Program.bytesOf Try.prog 58 = 0 := by kernel_rfl
theorem Try.zero58 : zeroT Try.prog 58 = some (AV.tu [AV.v (Value.int IntKind.i64 ((0 : Int))), AV.v (Value.bool false)]) := by kernel_rfl
theorem Try.agg58 : aggT Try.prog 58 = some false := by kernel_rfl
theorem Try.noInt58 : noInt Try.prog 58 = true := by kernel_rfl
theorem Try.cells59 : Program.cellsOf Try.prog 59 = 1 := by kernel_rfl
theorem Try.bytes59 : Program.bytesOf Try.prog 59 = 8 := by kernel_rfl
theorem Try.zero59 : zeroT Try.prog 59 = some (AV.v Value.nilFunc) := by kernel_rfl
theorem Try.agg59 : aggT Try.prog 59 = some false := by kernel_rfl
theorem Try.noInt59 : noInt Try.prog 59 = true := by kernel_rfl
theorem Try.cells60 : Program.cellsOf Try.prog 60 = 6 := by kernel_rfl
theorem Try.bytes60 : Program.bytesOf Try.prog 60 = 6 := by kernel_rfl
theorem Try.zero60 : zeroT Try.prog 60 = some (AV.ag [AV.v (Value.bool false), AV.v (Value.bool false), AV.v (Value.bool false), AV.v (Value.bool false), AV.v (Value.bool false), AV.v (Value.bool false)]) := by kernel_rfl
theorem Try.agg60 : aggT Try.prog 60 = some true := by kernel_rfl
theorem Try.kinds60 : kindsT Try.prog 60 = some [TypeDesc.bool, TypeDesc.bool, TypeDesc.bool, TypeDesc.bool, TypeDesc.bool, TypeDesc.bool] := by kernel_rfl
theorem Try.elem60 : elemT Try.prog 60 = some 1 := by kernel_rfl
theorem Try.noInt60 : noInt Try.prog 60 = true := by kernel_rfl
theorem Try.cells61 : Program.cellsOf Try.prog 61 = 1 := by kernel_rfl
theorem Try.bytes61 : Program.bytesOf Try.prog 61 = 24 := by kernel_rfl
theorem Try.zero61 : zeroT Try.prog 61 = some (AV.sl true 0 []) := by kernel_rfl
theorem Try.agg61 : aggT Try.prog 61 = some false := by kernel_rfl
theorem Try.noInt61 : noInt Try.prog 61 = true := by kernel_rfl
theorem Try.cells62 : Program.cellsOf Try.prog 62 = 1 := by kernel_rfl
theorem Try.bytes62 : Program.bytesOf Try.prog 62 = 24 := by kernel_rfl
theorem Try.zero62 : zeroT Try.prog 62 = some (AV.sl true 0 []) := by kernel_rfl
theorem Try.agg62 : aggT Try.prog 62 = some false := by kernel_rfl
theorem Try.noInt62 : noInt Try.prog 62 = true := by kernel_rfl
theorem Try.cells63 : Program.cellsOf Try.prog 63 = 6 := by kernel_rfl
theorem Try.bytes63 : Program.bytesOf Try.prog 63 = 24 := by kernel_rfl
theorem Try.zero63 : zeroT Try.prog 63 = some (AV.ag [AV.v (Value.int IntKind.i32 ((0 : Int))), AV.v (Value.int IntKind.i32 ((0 : Int))), AV.v (Value.int IntKind.i32 ((0 : Int))), AV.v (Value.int IntKind.i32 ((0 : Int))), AV.v (Value.int IntKind.i32 ((0 : Int))), AV.v (Value.int IntKind.i32 ((0 : Int)))]) := by kernel_rfl
theorem Try.agg63 : aggT Try.prog 63 = some true := by kernel_rfl
theorem Try.kinds63 : kindsT Try.prog 63 = some [TypeDesc.int IntKind.i32, TypeDesc.int IntKind.i32, TypeDesc.int IntKind.i32, TypeDesc.int IntKind.i32, TypeDesc.int IntKind.i32, TypeDesc.int IntKind.i32] := by kernel_rfl
theorem Try.elem63 : elemT Try.prog 63 = some 1 := by kernel_rfl
theorem Try.noInt63 : noInt Try.prog 63 = true := by kernel_rfl
theorem Try.cells64 : Program.cellsOf Try.prog 64 = 6 := by kernel_rfl
theorem Try.bytes64 : Program.bytesOf Try.prog 64 = 24 := by kernel_rfl
theorem Try.zero64 : zeroT Try.prog 64 = some (AV.ag [AV.v (Value.int IntKind.i32 ((0 : Int))), AV.v (Value.int IntKind.i32 ((0 : Int))), AV.v (Value.int IntKind.i32 ((0 : Int))), AV.v (Value.int IntKind.i32 ((0 : Int))), AV.v (Value.int IntKind.i32 ((0 : Int))), AV.v (Value.int IntKind.i32 ((0 : Int)))]) := by kernel_rfl
theorem Try.agg64 : aggT Try.prog 64 = some true := by kernel_rfl
theorem Try.kinds64 : kindsT Try.prog 64 = some [TypeDesc.int IntKind.i32, TypeDesc.int IntKind.i32, TypeDesc.int IntKind.i32, TypeDesc.int IntKind.i32, TypeDesc.int IntKind.i32, TypeDesc.int IntKind.i32] := by kernel_rfl
theorem Try.elem64 : elemT Try.prog 64 = some 1 := by kernel_rfl
theorem Try.noInt64 : noInt Try.prog 64 = true := by kernel_rfl
theorem Try.cells65 : Program.cellsOf Try.prog 65 = 1 := by kernel_rfl
theorem Try.bytes65 : Program.bytesOf Try.prog 65 = 0 := by kernel_rfl
theorem Try.agg65 : aggT Try.prog 65 = some false := by kernel_rfl
theorem Try.noInt65 : noInt Try.prog 65 = true := by kernel_rfl
theorem Try.cells66 : Program.cellsOf Try.prog 66 = 1 := by kernel_rfl
theorem Try.bytes66 : Program.bytesOf Try.prog 66 = 8 := by kernel_rfl
theorem Try.zero66 : zeroT Try.prog 66 = some (AV.v Value.nilFunc) := by kernel_rfl
theorem Try.agg66 : aggT Try.prog 66 = some false := by kernel_rfl
theorem Try.noInt66 : noInt Try.prog 66 = true := by kernel_rfl
theorem Try.cells67 : Program.cellsOf Try.prog 67 = 1 := by kernel_rfl
theorem Try.bytes67 : Program.bytesOf Try.prog 67 = 8 := by kernel_rfl
theorem Try.zero67 : zeroT Try.prog 67 = some (AV.v (Value.map Option.none)) := by kernel_rfl
theorem Try.agg67 : aggT Try.prog 67 = some false := by kernel_rfl
theorem Try.noInt67 : noInt Try.prog 67 = true := by kernel_rfl
theorem Try.cells68 : Program.cellsOf Try.prog 68 = 1 := by kernel_rfl
theorem Try.bytes68 : Program.bytesOf Try.prog 68 = 8 := by kernel_rfl
theorem Try.zero68 : zeroT Try.prog 68 = some (AV.v Value.nilFunc) := by kernel_rfl
theorem Try.agg68 : aggT Try.prog 68 = some false := by kernel_rfl
theorem Try.noInt68 : noInt Try.prog 68 = true := by kernel_rfl
theorem Try.cells69 : Program.cellsOf Try.prog 69 = 1 := by kernel_rfl
theorem Try.bytes69 : Program.bytesOf Try.prog 69 = 8 := by kernel_rfl
theorem Try.zero69 : zeroT Try.prog 69 = some (AV.v Value.nilFunc) := by kernel_rfl
theorem Try.agg69 : aggT Try.prog 69 = some false := by kernel_rfl
theorem Try.noInt69 : noInt Try.prog 69 = true := by kernel_rfl
theorem Try.cells70 : Program.cellsOf Try.prog 70 = 1 := by kernel_rfl
theorem Try.bytes70 : Program.bytesOf Try.prog 70 = 8 := by kernel_rfl
theorem Try.zero70 : zeroT Try.prog 70 = some (AV.v Value.nilFunc) := by kernel_rfl
theorem Try.agg70 : aggT Try.prog 70 = some false := by kernel_rfl
theorem Try.noInt70 : noInt Try.prog 70 = true := by kernel_rfl
theorem Try.cells71 : Program.cellsOf Try.prog 71 = 1 := by kernel_rfl
theorem Try.bytes71 : Program.bytesOf Try.prog 71 = 8 := by kernel_rfl
theorem Try.zero71 : zeroT Try.prog 71 = some (AV.v (Value.int IntKind.u64 ((0 : Int)))) := by kernel_rfl
theorem Try.basic71 : basicT Try.prog 71 = some (TypeDesc.int IntKind.u64) := by kernel_rfl
theorem Try.agg71 : aggT Try.prog 71 = some false := by kernel_rfl
theorem Try.noInt71 : noInt Try.prog 71 = false := by kernel_rfl
theorem Try.cells72 : Program.cellsOf Try.prog 72 = 1 := by kernel_rfl
theorem Try.bytes72 : Program.bytesOf Try.prog 72 = 8 := by kernel_rfl
theorem Try.zero72 : zeroT Try.prog 72 = some (AV.v Value.nilFunc) := by kernel_rfl
theorem Try.agg72 : aggT Try.prog 72 = some false := by kernel_rfl
theorem Try.noInt72 : noInt Try.prog 72 = true := by kernel_rfl
theorem Try.cells73 : Program.cellsOf Try.prog 73 = 1 := by kernel_rfl
theorem Try.bytes73 : Program.bytesOf Try.prog 73 = 8 := by kernel_rfl
theorem Try.zero73 : zeroT Try.prog 73 = some (AV.v Value.nilFunc) := by kernel_rfl
theorem Try.agg73 : aggT Try.prog 73 = some false := by kernel_rfl
theorem Try.noInt73 : noInt Try.prog 73 = true := by kernel_rfl
theorem Try.cells74 : Program.cellsOf Try.prog 74 = 1 := by kernel_rfl
theorem Try.bytes74 : Program.bytesOf Try.prog 74 = 8 := by kernel_rfl
theorem Try.zero74 : zeroT Try.prog 74 = some (AV.v (Value.int IntKind.i64 ((0 : Int)))) := by kernel_rfl
theorem Try.basic74 : basicT Try.prog 74 = some (TypeDesc.int IntKind.i64) := by kernel_rfl
theorem Try.agg74 : aggT Try.prog 74 = some false := by kernel_rfl
theorem Try.noInt74 : noInt Try.prog 74 = false := by kernel_rfl
theorem Try.cells75 : Program.cellsOf Try.prog 75 = 1 := by kernel_rfl
theorem Try.bytes75 : Program.bytesOf Try.prog 75 = 0 := by kernel_rfl
theorem Try.zero75 : zeroT Try.prog 75 = some (AV.tu [AV.v (Value.int IntKind.i64 ((0 : Int))), AV.v (Value.int IntKind.i64 ((0 : Int)))]) := by kernel_rfl
theorem Try.agg75 : aggT Try.prog 75 = some false := by kernel_rfl
theorem Try.noInt75 : noInt Try.prog 75 = true := by kernel_rfl
theorem Try.cells76 : Program.cellsOf Try.prog 76 = 1 := by kernel_rfl
theorem Try.bytes76 : Program.bytesOf Try.prog 76 = 8 := by kernel_rfl
theorem Try.zero76 : zeroT Try.prog 76 = some (AV.v Value.nilFunc) := by kernel_rfl
theorem Try.agg76 : aggT Try.prog 76 = some false := by kernel_rfl
theorem Try.noInt76 : noInt Try.prog 76 = true := by kernel_rfl
theorem Try.cells77 : Program.cellsOf Try.prog 77 = 1 := by kernel_rfl
theorem Try.bytes77 : Program.bytesOf Try.prog 77 = 8 := by kernel_rfl
theorem Try.zero77 : zeroT Try.prog 77 = some (AV.v Value.nilFunc) := by kernel_rfl
theorem Try.agg77 : aggT Try.prog 77 = some false := by kernel_rfl
theorem Try.noInt77 : noInt Try.prog 77 = true := by kernel_rfl
theorem Try.cells78 : Program.cellsOf Try.prog 78 = 1 := by kernel_rfl
theorem Try.bytes78 : Program.bytesOf Try.prog 78 = 8 := by kernel_rfl
theorem Try.zero78 : zeroT Try.prog 78 = some (AV.v Value.nilFunc) := by kernel_rfl
theorem Try.agg78 : aggT Try.prog 78 = some false := by kernel_rfl
theorem Try.noInt78 : noInt Try.prog 78 = true := by kernel_rfl
theorem Try.cells79 : Program.cellsOf Try.prog 79 = 1 := by kernel_rfl
theorem Try.bytes79 : Program.bytesOf Try.prog 79 = 8 := by kernel_rfl
theorem Try.zero79 : zeroT Try.prog 79 = some (AV.v Value.nilFunc) := by kernel_rfl
theorem Try.agg79 : aggT Try.prog 79 = some false := by kernel_rfl
theorem Try.noInt79 : noInt Try.prog 79 = true := by kernel_rfl
theorem Try.cells80 : Program.cellsOf Try.prog 80 = 1 := by kernel_rfl
theorem Try.bytes80 : Program.bytesOf Try.prog 80 = 8 := by kernel_rfl
theorem Try.zero80 : zeroT Try.prog 80 = some (AV.v Value.nilFunc) := by kernel_rfl
theorem Try.agg80 : aggT Try.prog 80 = some false := by kernel_rfl
theorem Try.noInt80 : noInt Try.prog 80 = true := by kernel_rfl
theorem Try.cells81 : Program.cellsOf Try.prog 81 = 1 := by kernel_rfl
theorem Try.bytes81 : Program.bytesOf Try.prog 81 = 4 := by kernel_rfl
theorem Try.zero81 : zeroT Try.prog 81 = some (AV.v (Value.int IntKind.u32 ((0 : Int)))) := by kernel_rfl
theorem Try.basic81 : basicT Try.prog 81 = some (TypeDesc.int IntKind.u32) := by kernel_rfl
theorem Try.agg81 : aggT Try.prog 81 = some false := by kernel_rfl
theorem Try.noInt81 : noInt Try.prog 81 = false := by kernel_rfl
theorem Try.cells82 : Program.cellsOf Try.prog 82 = 1 := by kernel_rfl
theorem Try.bytes82 : Program.bytesOf Try.prog 82 = 8 := by kernel_rfl
theorem Try.zero82 : zeroT Try.prog 82 = some (AV.v Value.nilFunc) := by kernel_rfl
theorem Try.agg82 : aggT Try.prog 82 = some false := by kernel_rfl
theorem Try.noInt82 : noInt Try.prog 82 = true := by kernel_rfl
theorem Try.cells83 : Program.cellsOf Try.prog 83 = 1 := by kernel_rfl
theorem Try.bytes83 : Program.bytesOf Try.prog 83 = 8 := by kernel_rfl
theorem Try.zero83 : zeroT Try.prog 83 = some (AV.v (Value.int IntKind.u64 ((0 : Int)))) := by kernel_rfl
theorem Try.basic83 : basicT Try.prog 83 = some (TypeDesc.int IntKind.u64) := by kernel_rfl
theorem Try.agg83 : aggT Try.prog 83 = some false := by kernel_rfl
theorem Try.noInt83 : noInt Try.prog 83 = false := by kernel_rfl
theorem Try.cells84 : Program.cellsOf Try.prog 84 = 1 := by kernel_rfl
theorem Try.bytes84 : Program.bytesOf Try.prog 84 = 8 := by kernel_rfl
theorem Try.zero84 : zeroT Try.prog 84 = some (AV.v Value.nilFunc) := by kernel_rfl
theorem Try.agg84 : aggT Try.prog 84 = some false := by kernel_rfl
theorem Try.noInt84 : noInt Try.prog 84 = true := by kernel_rfl
theorem Try.cells85 : Program.cellsOf Try.prog 85 = 1 := by kernel_rfl
theorem Try.bytes85 : Program.bytesOf Try.prog 85 = 8 := by kernel_rfl
theorem Try.zero85 : zeroT Try.prog 85 = some (AV.v (Value.int IntKind.u64 ((0 : Int)))) := by kernel_rfl
theorem Try.basic85 : basicT Try.prog 85 = some (TypeDesc.int IntKind.u64) := by kernel_rfl
theorem Try.agg85 : aggT Try.prog 85 = some false := by kernel_rfl
theorem Try.noInt85 : noInt Try.prog 85 = false := by kernel_rfl
theorem Try.cells86 : Program.cellsOf Try.prog 86 = 1 := by kernel_rfl
theorem Try.bytes86 : Program.bytesOf Try.prog 86 = 8 := by kernel_rfl
theorem Try.zero86 : zeroT Try.prog 86 = some (AV.v Value.nilFunc) := by kernel_rfl
theorem Try.agg86 : aggT Try.prog 86 = some false := by kernel_rfl
theorem Try.noInt86 : noInt Try.prog 86 = true := by kernel_rfl
theorem Try.cells87 : Program.cellsOf Try.prog 87 = 1 := by kernel_rfl
theorem Try.bytes87 : Program.bytesOf Try.prog 87 = 8 := by kernel_rfl
theorem Try.zero87 : zeroT Try.prog 87 = some (AV.v Value.nilFunc) := by kernel_rfl
theorem Try.agg87 : aggT Try.prog 87 = some false := by kernel_rfl
theorem Try.noInt87 : noInt Try.prog 87 = true := by kernel_rfl
theorem Try.cells88 : Program.cellsOf Try.prog 88 = 1 := by kernel_rfl
theorem Try.bytes88 : Program.bytesOf Try.prog 88 = 8 := by kernel_rfl
theorem Try.zero88 : zeroT Try.prog 88 = some (AV.v Value.nilFunc) := by kernel_rfl
theorem Try.agg88 : aggT Try.prog 88 = some false := by kernel_rfl
theorem Try.noInt88 : noInt Try.prog 88 = true := by kernel_rfl
theorem Try.cells89 : Program.cellsOf Try.prog 89 = 1 := by kernel_rfl
theorem Try.bytes89 : Program.bytesOf Try.prog 89 = 8 := by kernel_rfl
theorem Try.zero89 : zeroT Try.prog 89 = some (AV.v (Value.pointer Option.none)) := by kernel_rfl
theorem Try.agg89 : aggT Try.prog 89 = some false := by kernel_rfl
theorem Try.noInt89 : noInt Try.prog 89 = true := by kernel_rfl
attribute [push_cast]
  Try.sh0 Try.sh1 Try.sh2 Try.sh3 Try.sh4 Try.sh5 Try.sh6 Try.sh7 Try.sh8 Try.sh9 Try.sh10 Try.sh11 Try.sh12 Try.sh13 Try.sh14 Try.sh15 Try.sh16 Try.sh17 Try.sh18 Try.sh19 Try.sh20 Try.sh21 Try.sh22 Try.sh23 Try.sh24 Try.sh25 Try.sh26 Try.sh27 Try.sh28 Try.sh29 Try.sh30 Try.sh31 Try.sh32 Try.sh33 Try.sh34 Try.sh35 Try.sh36 Try.sh37 Try.sh38 Try.sh39 Try.sh40 Try.sh41 Try.sh42 Try.sh43 Try.sh44 Try.sh45 Try.sh46 Try.sh47 Try.sh48 Try.sh49 Try.sh50 Try.sh51 Try.sh52 Try.sh53 Try.sh54 Try.sh55 Try.sh56 Try.sh57 Try.sh58 Try.sh59 Try.sh60 Try.sh61 Try.sh62 Try.sh63 Try.sh64 Try.sh65 Try.sh66 Try.sh67 Try.sh68 Try.sh69 Try.sh70 Try.sh71 Try.sh72 Try.sh73 Try.sh74 Try.sh75 Try.sh76 Try.sh77 Try.sh78 Try.sh79 Try.sh80 Try.sh81 Try.sh82 Try.sh83 Try.sh84 Try.sh85 Try.pr2_n Try.ann2_r Try.pr3_n Try.ann3_r Try.pr4_0 Try.pr4_1 Try.pr4_2 Try.pr4_3 Try.pr4_4 Try.pr4_5 Try.pr4_6 Try.pr4_7 Try.pr4_8 Try.pr4_9 Try.pr4_10 Try.pr4_11 Try.pr4_12 Try.pr4_13 Try.pr4_14 Try.pr4_15 Try.pr4_16 Try.pr4_17 Try.pr4_18 Try.pr4_19 Try.pr4_20 Try.pr4_21 Try.pr4_22 Try.pr4_23 Try.pr4_24 Try.pr4_25 Try.pr4_26 Try.pr4_27 Try.pr4_28 Try.ann4_r Try.ann4_0 Try.ann4_1 Try.ann4_2 Try.ann4_3 Try.pr5_0 Try.pr5_1 Try.pr5_2 Try.pr5_3 Try.pr5_4 Try.pr5_5 Try.pr5_6 Try.pr5_7 Try.pr5_8 Try.pr5_9 Try.pr5_10 Try.pr5_11 Try.pr5_12 Try.pr5_13 Try.pr5_14 Try.pr5_15 Try.pr5_16 Try.ann5_r Try.pr6_0 Try.pr6_1 Try.pr6_2 Try.pr6_3 Try.pr6_4 Try.pr6_5 Try.pr6_6 Try.pr6_7 Try.pr6_8 Try.ann6_r Try.pr7_n Try.ann7_r Try.ann7_0 Try.ann7_1 Try.pr8_n Try.ann8_r Try.pr9_0 Try.pr9_1 Try.pr9_2 Try.pr9_3 Try.pr9_4 Try.pr9_5 Try.pr9_6 Try.pr9_7 Try.pr9_8 Try.pr9_9 Try.pr9_10 Try.pr9_11 Try.pr9_12 Try.pr9_13 Try.pr9_14 Try.pr9_15 Try.pr9_16 Try.pr9_17 Try.pr9_18 Try.pr9_19 Try.pr9_20 Try.pr9_21 Try.pr9_22 Try.pr9_23 Try.pr9_24 Try.pr9_25 Try.pr9_26 Try.pr9_27 Try.pr9_28 Try.pr9_29 Try.pr9_30 Try.pr9_31 Try.ann9_r Try.ann9_0 Try.ann9_1 Try.ann9_2 Try.ann9_3 Try.ann9_4 Try.ann9_5 Try.ann9_6 Try.ann9_7 Try.pr10_n Try.ann10_r Try.ann10_0 Try.ann10_1 Try.ann10_2 Try.ann10_3 Try.pr11_0 Try.pr11_1 Try.pr11_2 Try.pr11_3 Try.pr11_4 Try.pr11_5 Try.pr11_6 Try.pr11_7 Try.pr11_8 Try.pr11_9 Try.pr11_10 Try.pr11_11 Try.pr11_12 Try.pr11_13 Try.pr11_14 Try.pr11_15 Try.pr11_16 Try.pr11_17 Try.pr11_18 Try.pr11_19 Try.pr11_20 Try.pr11_21 Try.ann11_r Try.ann11_0 Try.ann11_1 Try.ann11_2 Try.ann11_3 Try.ann11_4 Try.ann11_5 Try.pr12_0 Try.pr12_1 Try.pr12_2 Try.pr12_3 Try.pr12_4 Try.pr12_5 Try.pr12_6 Try.pr12_7 Try.pr12_8 Try.pr12_9 Try.pr12_10 Try.pr12_11 Try.pr12_12 Try.pr12_13 Try.pr12_14 Try.pr12_15 Try.pr12_16 Try.pr12_17 Try.ann12_r Try.ann12_0 Try.ann12_1 Try.ann12_2 Try.ann12_3 Try.ann12_4 Try.ann12_5 Try.pr13_n Try.ann13_r Try.ann13_0 Try.ann13_1 Try.pr14_n Try.ann14_r Try.ann14_0 Try.ann14_1 Try.pr15_n Try.ann15_r Try.pr16_n Try.ann16_r Try.ann16_0 Try.ann16_1 Try.pr17_n Try.ann17_r Try.ann17_0 Try.pr18_n Try.ann18_r Try.ann18_0 Try.ann18_1 Try.pr19_n Try.ann19_r Try.ann19_0 Try.ann19_1 Try.pr20_n Try.ann20_r Try.ann20_0 Try.ann20_1 Try.pr21_n Try.ann21_r Try.pr22_n Try.ann22_r Try.ann22_0 Try.ann22_1 Try.pr23_n Try.ann23_r Try.ann23_0 Try.ann23_1 Try.pr24_n Try.ann24_r Try.ann24_0 Try.ann24_1 Try.pr25_n Try.ann25_r Try.ann25_0 Try.ann25_1 Try.pr26_n Try.ann26_r Try.ann26_0 Try.ann26_1 Try.ann26_2 Try.ann26_3 Try.pr27_n Try.ann27_r Try.ann27_0 Try.ann27_1 Try.ann27_2 Try.ann27_3 Try.pr28_n Try.ann28_r Try.pr29_0 Try.pr29_1 Try.pr29_2 Try.pr29_3 Try.pr29_4 Try.pr29_5 Try.pr29_6 Try.pr29_7 Try.pr29_8 Try.pr29_9 Try.pr29_10 Try.pr29_11 Try.pr29_12 Try.pr29_13 Try.pr29_14 Try.pr29_15 Try.pr29_16 Try.pr29_17 Try.pr29_18 Try.pr29_19 Try.pr29_20 Try.pr29_21 Try.pr29_22 Try.pr29_23 Try.pr29_24 Try.pr29_25 Try.pr29_26 Try.pr29_27 Try.pr29_28 Try.pr29_29 Try.pr29_30 Try.pr29_31 Try.pr29_32 Try.pr29_33 Try.pr29_34 Try.pr29_35 Try.pr29_36 Try.ann29_r Try.ann29_0 Try.ann29_1 Try.ann29_2 Try.ann29_3 Try.ann29_4 Try.ann29_5 Try.ann29_6 Try.ann29_7 Try.pr30_0 Try.pr30_1 Try.pr30_2 Try.pr30_3 Try.pr30_4 Try.pr30_5 Try.pr30_6 Try.pr30_7 Try.pr30_8 Try.pr30_9 Try.pr30_10 Try.pr30_11 Try.pr30_12 Try.pr30_13 Try.pr30_14 Try.pr30_15 Try.pr30_16 Try.pr30_17 Try.pr30_18 Try.pr30_19 Try.pr30_20 Try.pr30_21 Try.pr30_22 Try.pr30_23 Try.pr30_24 Try.pr30_25 Try.pr30_26 Try.pr30_27 Try.pr30_28 Try.pr30_29 Try.pr30_30 Try.pr30_31 Try.pr30_32 Try.ann30_r Try.ann30_0 Try.ann30_1 Try.ann30_2 Try.ann30_3 Try.ann30_4 Try.ann30_5 Try.ann30_6 Try.ann30_7 Try.ann30_8 Try.ann30_9 Try.pr31_n Try.ann31_r Try.ann31_0 Try.ann31_1 Try.pr32_n Try.ann32_r Try.pr33_n Try.ann33_r Try.ann33_0 Try.ann33_1 Try.pr34_n Try.ann34_r Try.pr35_n Try.ann35_r Try.ann35_0 Try.ann35_1 Try.pr36_0 Try.pr36_1 Try.pr36_2 Try.pr36_3 Try.pr36_4 Try.pr36_5 Try.pr36_6 Try.pr36_7 Try.pr36_8 Try.pr36_9 Try.pr36_10 Try.pr36_11 Try.pr36_12 Try.pr36_13 Try.pr36_14 Try.ann36_r Try.ann36_0 Try.ann36_1 Try.ann36_2 Try.ann36_3 Try.pr37_n Try.ann37_r Try.ann37_0 Try.ann37_1 Try.pr38_n Try.ann38_r Try.ann38_0 Try.ann38_1 Try.pr39_n Try.ann39_r Try.pr40_n Try.ann40_r Try.ann40_0 Try.ann40_1 Try.pr41_n Try.ann41_r Try.ann41_0 Try.ann41_1 Try.pr42_n Try.ann42_r Try.pr43_n Try.ann43_r Try.ann43_0 Try.ann43_1 Try.pr44_n Try.ann44_r Try.ann44_0 Try.ann44_1 Try.pr45_n Try.ann45_r Try.pr46_n Try.ann46_r Try.ann46_0 Try.ann46_1 Try.pr47_0 Try.pr47_1 Try.pr47_2 Try.pr47_3 Try.pr47_4 Try.pr47_5 Try.pr47_6 Try.pr47_7 Try.pr47_8 Try.pr47_9 Try.pr47_10 Try.pr47_11 Try.pr47_12 Try.pr47_13 Try.pr47_14 Try.pr47_15 Try.pr47_16 Try.pr47_17 Try.pr47_18 Try.pr47_19 Try.pr47_20 Try.pr47_21 Try.pr47_22 Try.pr47_23 Try.pr47_24 Try.pr47_25 Try.pr47_26 Try.pr47_27 Try.pr47_28 Try.pr47_29 Try.pr47_30 Try.ann47_r Try.ann47_0 Try.ann47_1 Try.pr48_n Try.ann48_r Try.pr49_n Try.ann49_r Try.pr50_n Try.ann50_r Try.ann50_0 Try.ann50_1 Try.pr51_n Try.ann51_r Try.ann51_0 Try.ann51_1 Try.pr52_n Try.ann52_r Try.ann52_0 Try.ann52_1 Try.ann52_2 Try.ann52_3 Try.pr53_n Try.ann53_r Try.ann53_0 Try.ann53_1 Try.ann53_2 Try.ann53_3 Try.pr54_0 Try.pr54_1 Try.pr54_2 Try.pr54_3 Try.pr54_4 Try.pr54_5 Try.pr54_6 Try.pr54_7 Try.pr54_8 Try.pr54_9 Try.pr54_10 Try.ann54_r Try.ann54_0 Try.ann54_1 Try.pr55_n Try.ann55_r Try.ann55_0 Try.pr56_n Try.ann56_r Try.ann56_0 Try.ann56_1 Try.pr57_0 Try.pr57_1 Try.pr57_2 Try.pr57_3 Try.pr57_4 Try.pr57_5 Try.pr57_6 Try.pr57_7 Try.pr57_8 Try.pr57_9 Try.pr57_10 Try.pr57_11 Try.pr57_12 Try.pr57_13 Try.pr57_14 Try.pr57_15 Try.pr57_16 Try.pr57_17 Try.pr57_18 Try.pr57_19 Try.pr57_20 Try.pr57_21 Try.pr57_22 Try.pr57_23 Try.pr57_24 Try.ann57_r Try.ann57_0 Try.ann57_1 Try.ann57_2 Try.ann57_3 Try.ann57_4 Try.ann57_5 Try.ann57_6 Try.ann57_7 Try.pr58_0 Try.pr58_1 Try.pr58_2 Try.pr58_3 Try.pr58_4 Try.pr58_5 Try.pr58_6 Try.pr58_7 Try.pr58_8 Try.pr58_9 Try.pr58_10 Try.pr58_11 Try.ann58_r Try.ann58_0 Try.ann58_1 Try.ann58_2 Try.ann58_3 Try.ann58_4 Try.ann58_5 Try.pr59_0 Try.pr59_1 Try.pr59_2 Try.pr59_3 Try.pr59_4 Try.pr59_5 Try.pr59_6 Try.pr59_7 Try.pr59_8 Try.pr59_9 Try.pr59_10 Try.pr59_11 Try.pr59_12 Try.pr59_13 Try.pr59_14 Try.pr59_15 Try.pr59_16 Try.pr59_17 Try.pr59_18 Try.pr59_19 Try.pr59_20 Try.pr59_21 Try.pr59_22 Try.ann59_r Try.ann59_0 Try.ann59_1 Try.ann59_2 Try.ann59_3 Try.ann59_4 Try.ann59_5 Try.ann59_6 Try.ann59_7 Try.ann59_8 Try.ann59_9 Try.pr60_n Try.ann60_r Try.pr61_n Try.ann61_r Try.pr62_n Try.ann62_r Try.pr63_0 Try.pr63_1 Try.pr63_2 Try.pr63_3 Try.pr63_4 Try.pr63_5 Try.pr63_6 Try.pr63_7 Try.ann63_r Try.ann63_0 Try.ann63_1 Try.pr64_n Try.ann64_r Try.pr65_n Try.ann65_r Try.pr66_n Try.ann66_r Try.pr67_n Try.ann67_r Try.pr68_n Try.ann68_r Try.cells0 Try.bytes0 Try.zero0 Try.agg0 Try.noInt0 Try.cells1 Try.bytes1 Try.zero1 Try.agg1 Try.noInt1 Try.cells2 Try.bytes2 Try.zero2 Try.basic2 Try.agg2 Try.noInt2 Try.cells3 Try.bytes3 Try.zero3 Try.basic3 Try.agg3 Try.noInt3 Try.cells4 Try.bytes4 Try.zero4 Try.basic4 Try.bne4 Try.beq4 Try.agg4 Try.noInt4 Try.cells5 Try.bytes5 Try.zero5 Try.basic5 Try.agg5 Try.noInt5 Try.cells6 Try.bytes6 Try.zero6 Try.basic6 Try.agg6 Try.noInt6 Try.cells7 Try.bytes7 Try.zero7 Try.agg7 Try.kinds7 Try.places7 Try.noInt7 Try.cells8 Try.bytes8 Try.zero8 Try.agg8 Try.kinds8 Try.places8 Try.noInt8 Try.cells9 Try.bytes9 Try.zero9 Try.basic9 Try.agg9 Try.noInt9 Try.cells10 Try.bytes10 Try.zero10 Try.basic10 Try.agg10 Try.noInt10 Try.cells11 Try.bytes11 Try.zero11 Try.basic11 Try.agg11 Try.noInt11 Try.cells12 Try.bytes12 Try.zero12 Try.basic12 Try.agg12 Try.noInt12 Try.cells13 Try.bytes13 Try.zero13 Try.agg13 Try.places13 Try.noInt13 Try.cells14 Try.bytes14 Try.zero14 Try.agg14 Try.places14 Try.noInt14 Try.cells15 Try.bytes15 Try.zero15 Try.agg15 Try.noInt15 Try.cells16 Try.bytes16 Try.zero16 Try.agg16 Try.noInt16 Try.cells17 Try.bytes17 Try.zero17 Try.agg17 Try.noInt17 Try.cells18 Try.bytes18 Try.zero18 Try.agg18 Try.places18 Try.noInt18 Try.cells19 Try.bytes19 Try.zero19 Try.agg19 Try.places19 Try.noInt19 Try.cells20 Try.bytes20 Try.zero20 Try.agg20 Try.noInt20 Try.cells21 Try.bytes21 Try.zero21 Try.basic21 Try.agg21 Try.noInt21 Try.cells22 Try.bytes22 Try.zero22 Try.agg22 Try.noInt22 Try.cells23 Try.bytes23 Try.zero23 Try.agg23 Try.noInt23 Try.cells24 Try.bytes24 Try.zero24 Try.agg24 Try.noInt24 Try.cells25 Try.bytes25 Try.zero25 Try.basic25 Try.agg25 Try.noInt25 Try.cells26 Try.bytes26 Try.zero26 Try.agg26 Try.noInt26 Try.cells27 Try.bytes27 Try.zero27 Try.agg27 Try.noInt27 Try.cells28 Try.bytes28 Try.zero28 Try.agg28 Try.noInt28 Try.cells29 Try.bytes29 Try.zero29 Try.agg29 Try.noInt29 Try.cells30 Try.bytes30 Try.zero30 Try.agg30 Try.noInt30 Try.cells31 Try.bytes31 Try.zero31 Try.agg31 Try.noInt31 Try.cells32 Try.bytes32 Try.zero32 Try.agg32 Try.noInt32 Try.cells33 Try.bytes33 Try.zero33 Try.agg33 Try.noInt33 Try.cells34 Try.bytes34 Try.zero34 Try.agg34 Try.noInt34 Try.cells35 Try.bytes35 Try.zero35 Try.agg35 Try.noInt35 Try.cells36 Try.bytes36 Try.zero36 Try.agg36 Try.noInt36 Try.cells37 Try.bytes37 Try.zero37 Try.agg37 Try.noInt37 Try.cells38 Try.bytes38 Try.zero38 Try.agg38 Try.noInt38 Try.cells39 Try.bytes39 Try.zero39 Try.agg39 Try.noInt39 Try.cells40 Try.bytes40 Try.zero40 Try.agg40 Try.noInt40 Try.cells41 Try.bytes41 Try.zero41 Try.agg41 Try.noInt41 Try.cells42 Try.bytes42 Try.zero42 Try.agg42 Try.noInt42 Try.cells43 Try.bytes43 Try.zero43 Try.agg43 Try.noInt43 Try.cells44 Try.bytes44 Try.zero44 Try.agg44 Try.noInt44 Try.cells45 Try.bytes45 Try.zero45 Try.agg45 Try.noInt45 Try.cells46 Try.bytes46 Try.zero46 Try.agg46 Try.noInt46 Try.cells47 Try.bytes47 Try.zero47 Try.agg47 Try.noInt47 Try.cells48 Try.bytes48 Try.zero48 Try.agg48 Try.noInt48 Try.cells49 Try.bytes49 Try.zero49 Try.agg49 Try.noInt49 Try.cells50 Try.bytes50 Try.zero50 Try.agg50 Try.kinds50 Try.elem50 Try.noInt50 Try.cells51 Try.bytes51 Try.zero51 Try.agg51 Try.kinds51 Try.elem51 Try.noInt51 Try.cells52 Try.bytes52 Try.zero52 Try.agg52 Try.noInt52 Try.cells53 Try.bytes53 Try.zero53 Try.agg53 Try.noInt53 Try.cells54 Try.bytes54 Try.zero54 Try.agg54 Try.noInt54 Try.cells55 Try.bytes55 Try.zero55 Try.agg55 Try.noInt55 Try.cells56 Try.bytes56 Try.zero56 Try.agg56 Try.noInt56 Try.cells57 Try.bytes57 Try.zero57 Try.agg57 Try.noInt57 Try.cells58 Try.bytes58 Try.zero58 Try.agg58 Try.noInt58 Try.cells59 Try.bytes59 Try.zero59 Try.agg59 Try.noInt59 Try.cells60 Try.bytes60 Try.zero60 Try.agg60 Try.kinds60 Try.elem60 Try.noInt60 Try.cells61 Try.bytes61 Try.zero61 Try.agg61 Try.noInt61 Try.cells62 Try.bytes62 Try.zero62 Try.agg62 Try.noInt62 Try.cells63 Try.bytes63 Try.zero63 Try.agg63 Try.kinds63 Try.elem63 Try.noInt63 Try.cells64 Try.bytes64 Try.zero64 Try.agg64 Try.kinds64 Try.elem64 Try.noInt64 Try.cells65 Try.bytes65 Try.agg65 Try.noInt65 Try.cells66 Try.bytes66 Try.zero66 Try.agg66 Try.noInt66 Try.cells67 Try.bytes67 Try.zero67 Try.agg67 Try.noInt67 Try.cells68 Try.bytes68 Try.zero68 Try.agg68 Try.noInt68 Try.cells69 Try.bytes69 Try.zero69 Try.agg69 Try.noInt69 Try.cells70 Try.bytes70 Try.zero70 Try.agg70 Try.noInt70 Try.cells71 Try.bytes71 Try.zero71 Try.basic71 Try.agg71 Try.noInt71 Try.cells72 Try.bytes72 Try.zero72 Try.agg72 Try.noInt72 Try.cells73 Try.bytes73 Try.zero73 Try.agg73 Try.noInt73 Try.cells74 Try.bytes74 Try.zero74 Try.basic74 Try.agg74 Try.noInt74 Try.cells75 Try.bytes75 Try.zero75 Try.agg75 Try.noInt75 Try.cells76 Try.bytes76 Try.zero76 Try.agg76 Try.noInt76 Try.cells77 Try.bytes77 Try.zero77 Try.agg77 Try.noInt77 Try.cells78 Try.bytes78 Try.zero78 Try.agg78 Try.noInt78 Try.cells79 Try.bytes79 Try.zero79 Try.agg79 Try.noInt79 Try.cells80 Try.bytes80 Try.zero80 Try.agg80 Try.noInt80 Try.cells81 Try.bytes81 Try.zero81 Try.basic81 Try.agg81 Try.noInt81 Try.cells82 Try.bytes82 Try.zero82 Try.agg82 Try.noInt82 Try.cells83 Try.bytes83 Try.zero83 Try.basic83 Try.agg83 Try.noInt83 Try.cells84 Try.bytes84 Try.zero84 Try.agg84 Try.noInt84 Try.cells85 Try.bytes85 Try.zero85 Try.basic85 Try.agg85 Try.noInt85 Try.cells86 Try.bytes86 Try.zero86 Try.agg86 Try.noInt86 Try.cells87 Try.bytes87 Try.zero87 Try.agg87 Try.noInt87 Try.cells88 Try.bytes88 Try.zero88 Try.agg88 Try.noInt88 Try.cells89 Try.bytes89 Try.zero89 Try.agg89 Try.noInt89 Try.cfgP Try.cfgO Try.func0 Try.func1 Try.func2 Try.func3 Try.func4 Try.func5 Try.func6 Try.func7 Try.func8 Try.func9 Try.func10 Try.func11 Try.func12 Try.func13 Try.func14 Try.func15 Try.func16 Try.func17 Try.func18 Try.func19 Try.func20 Try.func21 Try.func22 Try.func23 Try.func24 Try.func25 Try.func26 Try.func27 Try.func28 Try.func29 Try.func30 Try.func31 Try.func32 Try.func33 Try.func34 Try.func35 Try.func36 Try.func37 Try.func38 Try.func39 Try.func40 Try.func41 Try.func42 Try.func43 Try.func44 Try.func45 Try.func46 Try.func47 Try.func48 Try.func49 Try.func50 Try.func51 Try.func52 Try.func53 Try.func54 Try.func55 Try.func56 Try.func57 Try.func58 Try.func59 Try.func60 Try.func61 Try.func62 Try.func63 Try.func64 Try.func65 Try.func66 Try.func67 Try.func68 Try.func69 Try.func70 Try.func71 Try.func72 Try.func73 Try.func74 Try.func75 Try.func76 Try.func77 Try.func78 Try.func79 Try.func80 Try.func81 Try.func82 Try.func83 Try.func84 Try.func85 Try.underlying0 Try.underlying1 Try.underlying2 Try.underlying3 Try.underlying4 Try.underlying5 Try.underlying6 Try.underlying7 Try.underlying8 Try.underlying9 Try.underlying10 Try.underlying11 Try.underlying12 Try.underlying13 Try.underlying14 Try.underlying15 Try.underlying16 Try.underlying17 Try.underlying18 Try.underlying19 Try.underlying20 Try.underlying21 Try.underlying22 Try.underlying23 Try.underlying24 Try.underlying25 Try.underlying26 Try.underlying27 Try.underlying28 Try.underlying29 Try.underlying30 Try.underlying31 Try.underlying32 Try.underlying33 Try.underlying34 Try.underlying35 Try.underlying36 Try.underlying37 Try.underlying38 Try.underlying39 Try.underlying40 Try.underlying41 Try.underlying42 Try.underlying43 Try.underlying44 Try.underlying45 Try.underlying46 Try.underlying47 Try.underlying48 Try.underlying49 Try.underlying50 Try.underlying51 Try.underlying52 Try.underlying53 Try.underlying54 Try.underlying55 Try.underlying56 Try.underlying57 Try.underlying58 Try.underlying59 Try.underlying60 Try.underlying61 Try.underlying62 Try.underlying63 Try.underlying64 Try.underlying65 Try.underlying66 Try.underlying67 Try.underlying68 Try.underlying69 Try.underlying70 Try.underlying71 Try.underlying72 Try.underlying73 Try.underlying74 Try.underlying75 Try.underlying76 Try.underlying77 Try.underlying78 Try.underlying79 Try.underlying80 Try.underlying81 Try.underlying82 Try.underlying83 Try.underlying84 Try.underlying85 Try.underlying86 Try.underlying87 Try.underlying88 Try.underlying89 Try.underlying90 Try.underlying91 Try.underlying92 Try.underlying93 Try.underlying94 Try.underlying95 Try.underlying96 Try.underlying97 Try.underlying98 Try.underlying99 Try.underlying100 Try.underlying101 Try.underlying102 Try.underlying103 Try.underlying104 Try.underlying105 Try.underlying106 Try.underlying107 Try.underlying108 Try.underlying109
end Go.Proofs
