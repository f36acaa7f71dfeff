/- Closed facts of the program, each by itself: what the row of LinesScript says of what the law reaches. -/
import Derived.Test.YtpmbnnobfjjpaaaGreatDoorProg
import Derived.KernelRfl
import GoSem.ClaimJoined
namespace Go.Proofs.YtpmbnnobfjjpaaaGreatDoor
open Go
theorem hv_clos : Tryz.prog.closure 3 = [3, 5, 11, 19, 20, 34, 51, 77, 122, 78, 79, 80, 123, 12, 21, 22, 13, 23, 35, 6, 14, 7, 8, 15, 24, 36, 52, 81, 124, 229,
  237, 230, 231, 232, 389, 388, 472, 473, 474, 519, 475, 520, 570, 521, 571, 600, 233, 390, 476, 522, 74, 523, 75, 234, 235, 236, 391, 392, 477, 182,
  238, 393, 82, 126, 125, 127, 128, 133, 129, 239, 240, 394, 130, 242, 395, 131, 243, 478, 524, 241, 132, 244, 396, 397, 398, 245, 399, 479, 480, 525,
  526, 572, 574, 601, 609, 575, 573, 527, 142, 141, 53, 54, 83, 135, 246, 247, 136, 249, 401, 250, 402, 134, 17, 32, 48, 73, 50, 76, 28, 30,
  16, 31, 49, 403, 404, 248, 400, 137, 251, 252, 84, 138, 85, 139, 86, 140, 108, 188, 143, 145, 144, 253, 146, 147, 254, 405, 255, 161, 163, 166,
  256, 257, 406, 481, 528, 576, 577, 568, 602, 603, 578, 579, 604, 605, 610, 611, 88, 89, 150, 260, 154, 265, 409, 484, 156, 287, 288, 164, 266, 410,
  485, 153, 264, 408, 284, 420, 285, 421, 422, 482, 529, 483, 530, 580, 157, 289, 267, 411, 412, 151, 262, 263, 261, 413, 268, 269, 87, 148, 258, 407,
  259, 91, 155, 286, 158, 159, 162, 160, 187, 165, 149, 414, 415, 270, 271, 417, 488, 487, 531, 416, 486, 272, 418, 273, 274, 275, 419, 276, 277, 278,
  279, 280, 281, 282, 283, 152, 90, 55, 92, 167, 170, 290, 93, 168, 291, 423, 489, 532, 491, 492, 490, 424, 493, 292, 426, 425, 171, 293, 294, 295,
  427, 296, 297, 428, 494, 533, 582, 583, 581, 584, 535, 534, 495, 536, 537, 585, 496, 538, 543, 539, 540, 541, 542, 544, 498, 549, 67, 112, 113, 497,
  546, 547, 545, 548, 429, 499, 550, 551, 552, 553, 586, 587, 589, 555, 593, 590, 599, 588, 505, 567, 606, 612, 613, 620, 614, 595, 596, 615, 621, 622,
  623, 616, 617, 618, 619, 554, 591, 444, 592, 607, 556, 430, 169, 94, 172, 56, 95, 96, 173, 298, 174, 299, 431, 432, 500, 433, 300, 301, 434, 501,
  435, 502, 302, 57, 58, 97, 175, 303, 180, 176, 304, 305, 308, 306, 436, 437, 503, 557, 307, 181, 177, 178, 179, 183, 309, 310, 311, 98, 99, 184,
  100, 40, 65, 103, 104, 185, 105, 186, 312, 106, 107, 109, 66, 110, 189, 313, 314, 315, 438, 316, 317, 318, 319, 320, 439, 321, 322, 323, 324, 190,
  191, 192, 193, 325, 194, 195, 111, 196, 37, 59, 60, 61, 62, 63, 101, 102, 38, 64, 25, 39, 41, 42, 43, 44, 45, 68, 69, 26, 46, 70,
  114, 197, 198, 71, 115, 116, 199, 326, 440, 441, 327, 200, 328, 329, 442, 504, 558, 564, 559, 594, 560, 561, 597, 598, 608, 562, 563, 565, 566, 330,
  331, 443, 201, 332, 333, 445, 202, 203, 204, 334, 117, 205, 335, 446, 506, 447, 507, 207, 337, 336, 206, 208, 209, 338, 339, 448, 508, 455, 511, 366,
  385, 465, 369, 466, 512, 367, 370, 372, 449, 453, 462, 340, 450, 341, 451, 509, 371, 458, 510, 342, 343, 344, 452, 345, 346, 347, 454, 348, 456, 349,
  457, 513, 350, 459, 351, 352, 353, 354, 460, 514, 355, 356, 461, 515, 357, 463, 464, 516, 569, 358, 359, 360, 361, 362, 118, 210, 364, 363, 211, 212,
  365, 368, 213, 214, 373, 215, 119, 216, 374, 467, 217, 375, 218, 219, 376, 220, 221, 222, 377, 468, 378, 469, 471, 517, 223, 379, 380, 381, 383, 382,
  224, 225, 384, 226, 386, 470, 518, 227, 387, 72, 120, 228, 121, 27, 47, 29] := by kernel_rfl
theorem hv_inPlace : Tryz.prog.inPlace 3 = ["internal/bytealg.IndexByteString", "internal/bytealg.IndexString", "internal/abi.NoEscape", "internal/bytealg.MakeNoZero", "maps.clone", "internal/reflectlite.ValueOf", "(internal/reflectlite.Value).Type", "(internal/reflectlite.Value).IsNil", "internal/reflectlite.TypeOf", "(internal/reflectlite.Value).Elem", "(internal/reflectlite.Value).Set"] := by
  unfold Program.inPlace
  rw [hv_clos]
  kernel_rfl
theorem hv_unfollowed : Tryz.prog.unfollowed 3 = true := by
  unfold Program.unfollowed
  rw [hv_clos]
  kernel_rfl
theorem hv_recurses : Tryz.prog.recurses 3 = true := by
  unfold Program.recurses
  rw [hv_unfollowed]
  rfl
theorem hv_named : Tryz.prog.varsNamed 3 = ["internal/bytealg.MaxLen", "unicode/utf8.first", "unicode/utf8.acceptRanges", "internal/strconv.uint64pow10", "math/bits.deBruijn32tab", "math/bits.deBruijn64tab", "errors.errorType"] := by
  unfold Program.varsNamed
  rw [hv_clos]
  kernel_rfl
theorem hv_maps : mapsRowed Tryz.prog = true := by kernel_rfl
theorem lo_size : List.range Tryz.prog.types.size = List.range' 0 250 ++ (List.range' 250 250 ++ List.range' 500 (Tryz.prog.types.size - 500)) := by kernel_rfl
theorem lo_a : (List.range' 0 250).all (rowFine Tryz.prog) = true := by kernel_rfl
theorem lo_b : (List.range' 250 250).all (rowFine Tryz.prog) = true := by kernel_rfl
theorem lo_c : (List.range' 500 (Tryz.prog.types.size - 500)).all (rowFine Tryz.prog) = true := by kernel_rfl
theorem lo_g : Tryz.prog.globals.all (fun g => decide (g.type < Tryz.prog.types.size)) = true := by kernel_rfl
theorem lo_f : Tryz.prog.funcs.all (fun f => f.params.all fun t => decide (t < Tryz.prog.types.size)) = true := by kernel_rfl
theorem hv_laidOut : laidOutB Tryz.prog = true := by
  unfold laidOutB
  rw [lo_size, List.all_append, List.all_append, lo_a, lo_b, lo_c, lo_g, lo_f]
  rfl
end Go.Proofs.YtpmbnnobfjjpaaaGreatDoor
